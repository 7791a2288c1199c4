/- Texts of this seat's proofs, laid into one file. -/
import Derived.Test.YtfaoamdlknlgpaaGreatSubstHashDoneG40
import Derived.Test.YtfaoamdlknlgpaaGreatSubstHashDoneG14
/- subst: Pieces, walked. -/
namespace Go.Proofs.YtfaoamdlknlgpaaGreat
open Go.RowKit
set_option linter.unusedVariables false

/-- what holds between the things of a body -/
structure PZ (W : World) (m : Mac) (RR FF : List (List Tf)) (S : List (List Value)) (fin : ZS) (nf i : Nat) (s : ZS) (vo va vd pp : Value) (wr : World) : Prop where
  run : piecesZ m RR FF S nf i s = some fin
  fuel : m.body.length ≤ i + nf
  len : s.out.length + s.ahead.length + s.ds.length ≤ 900000
  out : OwnZ s.out W.heap.size vo wr
  ahead : OwnZ s.ahead W.heap.size va wr
  ds : Own wr W.heap.size 68 4 vd (s.ds.map badV)
  apart : vo.ownBlock = none ∨ vo.ownBlock ≠ va.ownBlock
  low : Below W.heap.size W wr
  ok : ZOk s.ahead
  paste : match s.paste with
    | none => pp = .pointer none
    | some (file, f, t) => ∃ xb, pp = .pointer (some ⟨xb, 0, none⟩) ∧ wr.heap[xb]? = some (.cells #[.slice none 0 0, .bool true, .string file, .int .i64 f, .int .i64 t] 143 (0, 0)) ∧ W.heap.size ≤ xb

theorem OwnZ.lt {X : List Pz} {B : Nat} {v : Value} {w : World} (h : OwnZ X B v w) : ∀ k, v.ownBlock = some k → k < w.heap.size := by
  obtain ⟨T, _, o, _⟩ := h
  intro k hk
  obtain ⟨c, fz, hc⟩ := o.size_lt k hk
  exact lt_of_block hc

/-- an elder row and a newer one -/
theorem old_new {X Y : List Pz} {B : Nat} {u v : Value} {w w' : World} (h : OwnZ X B u w) (h' : OwnZ Y w.heap.size v w') : u.ownBlock = none ∨ u.ownBlock ≠ v.ownBlock := by
  cases hu : u.ownBlock with
  | none => exact .inl rfl
  | some k =>
    right
    intro e
    have h1 := h.lt k hu
    have h2 := h'.ge k e.symm
    omega

theorem own_neZ {X : List Pz} {B g : Nat} {v : Value} {w : World} {c : Array Value} {fz : Nat × Nat} (h : OwnZ X B v w) (hg : w.heap[g]? = some (.cells c 143 fz)) : v.ownBlock = none ∨ v.ownBlock ≠ some g := by
  obtain ⟨T, _, o, _⟩ := h
  exact own_ne o hg (by decide)

theorem sep {u v : Value} (f : ∀ k, u.ownBlock = some k → ∀ j, v.ownBlock = some j → k ≠ j) : u.ownBlock = none ∨ u.ownBlock ≠ v.ownBlock := by
  cases hu : u.ownBlock with
  | none => exact .inl rfl
  | some k =>
    right
    intro e
    exact f k hu k e.symm rfl

theorem own_dkept {X : List Pz} {B B' sz : Nat} {v u : Value} {css : List (List Value)} {w w' : World} (hd : Own w B' 68 sz u css) (h : OwnZ X B v w) (hg : w.grownBy w' v.ownBlock) : Own w' B' 68 sz u css := by
  obtain ⟨T, _, o, _⟩ := h
  exact hd.kept hg (own_apart hd o (by decide))

theorem ne_symm {a b : Option Nat} (h : a = none ∨ a ≠ b) (hb : b = none ∨ ∃ k, b = some k) : b = none ∨ b ≠ a := by
  rcases hb with hb | ⟨k, hb⟩
  · exact .inl hb
  · right
    intro e
    rcases h with h | h
    · rw [hb, h] at e; cases e
    · exact h e.symm

set_option maxHeartbeats 2000000 in
set_option maxRecDepth 100000 in
theorem sPieces_any (mb : Nat) (m : Mac) (T : List (Tm × Value)) (pao : Option Addr) (pcap : Nat) (bao : Option Addr) (bcap : Nat) (RR FF : List (List Tf)) (rv fv sv : Value) (sm sfile : ByteArray) (sf st : Int) (smade : Bool) (S0 : List (List Value)) (w : World) (hM : MH mb m T pao pcap bao bcap w) (hR : LsRd w rv RR) (hF : LsRd w fv FF) (hS : SiteIn w sv S0) (hSk : SitesOk (siC sm sfile sf st smade :: S0)) (hRk : ArgsOk RR) (hFk : ArgsOk FF) (fin : ZS) (hfin : piecesZ m RR FF (siC sm sfile sf st smade :: S0) m.body.length 0 ⟨[], [], none, []⟩ = some fin) :
    Calls Tryz.prog 64 #[.pointer (some ⟨mb, 0, none⟩), rv, fv, .agg #[.string sm, .string sfile, .int .i64 sf, .int .i64 st, .bool smade], sv] w fun e w' => (∃ v vd, e = .returned (.tuple #[v, vd]) ∧ OwnZ (fin.out ++ fin.ahead) w.heap.size v w' ∧ Own w' w.heap.size 68 4 vd (fin.ds.map badV)) ∧ Below w.heap.size w w' := by
  obtain ⟨ra, rc, _, hrv, _⟩ := id hR
  obtain ⟨fa, fc, _, hfv, _⟩ := id hF
  have hS' := hS
  obtain ⟨sa, sc, rfl, hsl, hsn, hsr, hs5, hs1⟩ := hS
  obtain ⟨rn, hrn⟩ : ∃ q, q = RR.length := ⟨_, rfl⟩
  obtain ⟨fn, hfn⟩ : ∃ q, q = FF.length := ⟨_, rfl⟩
  obtain ⟨sn, hsn0⟩ : ∃ q, q = S0.length := ⟨_, rfl⟩
  rw [← hrn] at hrv
  rw [← hfn] at hfv
  subst hrv hfv
  rw [← hsn0] at hS' ⊢
  have hsn1 : S0.length = sn := hsn0.symm
  have hsk1 := hSk.1
  obtain ⟨W1, hW1⟩ : ∃ W1, W1 = w.alloc (.cells #[.string sm, .string sfile, .int .i64 sf, .int .i64 st, .bool smade] 66) := ⟨_, rfl⟩
  have b1 : Below w.heap.size w W1 := by rw [hW1]; exact (Below.refl _ w).alloc (Nat.le_refl _) _
  have hc1 : W1.heap[w.heap.size]? = some (.cells #[.string sm, .string sfile, .int .i64 sf, .int .i64 st, .bool smade] 66 (0, 0)) := by rw [hW1]; exact heap_alloc_new w _
  obtain ⟨x0, x1, x2, x3, x4⟩ := cells5 hc1
  have hlit := own_lit1 W1 66 5 [.string sm, .string sfile, .int .i64 sf, .int .i64 st, .bool smade] rfl
  have hB1 : Below w.heap.size w (W1.alloc (.cells [.string sm, .string sfile, .int .i64 sf, .int .i64 st, .bool smade].toArray 66)) := b1.alloc b1.size _
  have hrow1 : Row (W1.alloc (.cells [.string sm, .string sfile, .int .i64 sf, .int .i64 st, .bool smade].toArray 66)) 5 sa S0 := hsr.below hB1
  have hs1' : ∀ cs ∈ S0, ∀ u ∈ cs, u.oneCell' = true := fun cs hcs u hu => hs1 u (List.mem_flatten.2 ⟨cs, hcs, hu⟩)
  have hsn2 : sa = none → sc = 0 := fun e => (hsn e).2
  have hsnl : (1 : Nat) + sn ≤ 1000000000 := by rw [← hsn1]; simp at hsk1; omega
  replace hlit := Lib.hid hlit
  replace hrow1 := Lib.hid hrow1
  replace hs1' := Lib.hid hs1'
  replace hs5 := Lib.hid hs5
  replace hsn1 := Lib.hid hsn1
  replace hsn2 := Lib.hid hsn2
  replace hrn := Lib.hid hrn
  replace hfn := Lib.hid hfn
  replace hW1 := Lib.hid hW1
  replace b1 := Lib.hid b1
  replace hB1 := Lib.hid hB1
  clear hsl hsn hsr hs1 hsn0
  go_enter Tryz.func64, Tryz.ntmps64
  go_upto_region 1 with fail
  rw [← hW1.out]
  go_upto_region 2 with (at_builtin; go_must (refine wpList_appendN E66 rfl rfl hlit.out rfl rfl hsn1.out hsn2.out hrow1.out hs5.out hs1'.out hsnl (by decide) (by simp) ?_); intro v3 w3 hown3 hg3; obtain ⟨va3, vc3, rfl, _, _, _, _⟩ := hown3.rown (n := 1 + sn) (by simp [hsn1.out]; omega))
  obtain ⟨W4, hW4⟩ : ∃ W4, W4 = w3.alloc (.cells #[.pointer (some ⟨mb, 0, none⟩), .slice ra rn rc, .slice fa fn fc, .slice va3 (1 + sn) vc3] 140) := ⟨_, rfl⟩
  have b3 : Below w.heap.size w w3 := by
    refine hB1.out.grown hg3 hB1.out.size ?_
    intro j hj
    simp [Value.ownBlock] at hj
    have := b1.out.size
    omega
  have b4 : Hid (Below w.heap.size w W4) := Lib.hid (by rw [hW4]; exact b3.alloc b3.size _)
  obtain ⟨fb, hfb⟩ : ∃ fb, fb = w3.heap.size := ⟨_, rfl⟩
  have hF4 : FH fb mb (.slice ra rn rc) (.slice fa fn fc) (.slice va3 (1 + sn) vc3) W4 := ⟨(0, 0), by rw [hW4, hfb]; exact heap_alloc_new w3 _⟩
  have hS4 : SiteIn W4 (.slice va3 (1 + sn) vc3) (siC sm sfile sf st smade :: S0) := own_siteIn (by rw [hW4]; exact hown3.alloc _) hSk
  have HTh : Hid (∀ (x : World) (i : Nat) (t : Tm), Below W4.heap.size W4 x → m.body[i]? = some t → Calls Tryz.prog 85 #[.pointer (some ⟨fb, 0, none⟩), .int .i64 i] x fun e w' => ThingPost (thingZ m RR FF (siC sm sfile sf st smade :: S0) i t) x.heap.size e w' ∧ Below x.heap.size x w') := Lib.hid fun x i t hx hi =>
    sThing_any fb mb m T pao pcap bao bcap _ _ _ i t x ((hM.below b4.out).below hx) (hF4.below hx) hi RR FF (siC sm sfile sf st smade :: S0) ((hR.below b4.out).below hx) ((hF.below b4.out).below hx) (hS4.below hx) hRk hFk
  obtain ⟨S, hSS⟩ : ∃ S, S = siC sm sfile sf st smade :: S0 := ⟨_, rfl⟩
  rw [← hSS] at HTh hfin hSk
  obtain ⟨n, hn⟩ : ∃ n, n = T.length := ⟨_, rfl⟩
  have HN : Hid (m.body.length = n) := Lib.hid (by rw [hn, ← hM.body, List.length_map])
  have hnl : n ≤ 1000000 := by rw [hn]; exact hM.len
  have HC : Hid (∀ x, Below W4.heap.size W4 x → x.cell? ⟨mb, 4, none⟩ = some (.slice bao n bcap)) := Lib.hid fun x hx => by
    obtain ⟨mz, hmc⟩ := ((hM.below b4.out).below hx).cells
    rw [← hn] at hmc
    exact (cells8 hmc).2.2.2.2.1
  rw [HN.out] at hfin
  have hP0 : Hid (PZ W4 m RR FF S fin n 0 ⟨[], [], none, []⟩ (.slice none 0 0) (.slice none 0 0) (.slice none 0 0) (.pointer none) W4) := Lib.hid ⟨hfin, by rw [HN.out]; omega, by simp, OwnZ.nil _ _, OwnZ.nil _ _, Own.nil _ _ _ _, .inl rfl, Below.refl _ _, by intro p hp; simp at hp, rfl⟩
  rw [← hW4, ← hfb]
  replace hW4 := Lib.hid hW4
  replace hfb := Lib.hid hfb
  replace hfin := Lib.hid hfin
  replace hSS := Lib.hid hSS
  replace hSk := Lib.hid hSk
  replace hM := Lib.hid hM
  replace hR := Lib.hid hR
  replace hF := Lib.hid hF
  replace hRk := Lib.hid hRk
  replace hFk := Lib.hid hFk
  replace hS4 := Lib.hid hS4
  replace hF4 := Lib.hid hF4
  clear hn hown3 hg3 b3 x0 x1 x2 x3 x4 hc1 hS'
  go_wp2_with fail
  go_loopg [10, 11, 13, 14, 15] n (fun u o10 d11 a13 p14 i15 wr => ∃ (nf i : Nat) (s : ZS), u = n - i ∧ i ≤ n ∧ i15 = .int .i64 i ∧ Hid (PZ W4 m RR FF S fin nf i s o10 a13 d11 p14 wr))
  case atStart => exact ⟨n, 0, _, rfl, Nat.zero_le _, rfl, hP0⟩
  case round =>
    obtain ⟨nf, i, s, rfl, hi, rfl, hP⟩ := hrel
    have c4 := HC.out _ hP.out.low
    generalize u10 = vo at *
    generalize u11 = vd at *
    generalize u13 = va at *
    generalize u14 = pp at *
    by_cases hin : i < n
    · have hin' : (i : Int) < n := by omega
      obtain ⟨t, ht⟩ : ∃ t, m.body[i]? = some t := ⟨_, List.getElem?_eq_getElem (by rw [HN.out]; exact hin)⟩
      obtain ⟨nf', s', hnf, hst, hlen', hrun'⟩ := pieces_step ht hP.out.fuel hP.out.run
      obtain ⟨hk1, hk2⟩ := thing_n m RR FF S i t ht
      have hTh := HTh.out _ i t hP.out.low ht
      have hok := fun l (h : (thingZ m RR FF S i t).1 = .body l) => thing_ok h hSk.out hRk.out hFk.out
      obtain ⟨th, k, htk⟩ : ∃ th k, thingZ m RR FF S i t = (th, k) := ⟨_, _, rfl⟩
      rw [htk] at hst hrun' hk1 hk2 hTh hok
      rw [HN.out] at hk2
      simp only at hst hrun' hk1 hk2 hok
      have hfu : m.body.length ≤ i + k + nf' := by have := hP.out.fuel; omega
      replace htk := Lib.hid htk
      replace hTh := Lib.hid hTh
      replace hok := Lib.hid hok
      replace hrun' := Lib.hid hrun'
      replace ht := Lib.hid ht
      replace hfu := Lib.hid hfu
      replace hnf := Lib.hid hnf
      have g1 : IntKind.i64.wrap ((i : Int) + k) = (i : Int) + k := IntWalk.i64_in _ (by omega)
      cases th with
      | paste file f tt =>
        have hs' : s' = ⟨s.out, s.ahead, some (file, f, tt), s.ds⟩ := by simp only [stepZ, Option.some.injEq] at hst; exact hst.symm
        subst hs'
        go_wp2_with fail
        refine hTh.out.mono ?_
        rintro e w5 ⟨h5, hb5⟩
        unfold ThingPost at h5
        simp only at h5
        subst h5
        obtain ⟨W6, hW6⟩ : ∃ W6, W6 = w5.alloc (.cells #[.slice none 0 0, .bool true, .string file, .int .i64 f, .int .i64 tt] 143) := ⟨_, rfl⟩
        have hx6 : W6.heap[w5.heap.size]? = some (.cells #[.slice none 0 0, .bool true, .string file, .int .i64 f, .int .i64 tt] 143 (0, 0)) := by rw [hW6]; exact heap_alloc_new w5 _
        have bw6 : Below wr.heap.size wr W6 := by rw [hW6]; exact hb5.alloc hb5.size _
        obtain ⟨x0, x1, x2, x3, x4⟩ := cells5 hx6
        have hx5 : W4.heap.size ≤ w5.heap.size := Nat.le_trans hP.out.low.size hb5.size
        go_upto_region 7 with fail
        rw [← hW6]
        replace hW6 := Lib.hid hW6
        go_wp2_with fail
        go_roundg (n - (i + k))
        case measure => omega
        case rel => exact ⟨nf', i + k, _, rfl, hk2, by go_num, Lib.hid ⟨hrun'.out, hfu.out, hlen', hP.out.out.below bw6, hP.out.ahead.below bw6, hP.out.ds.below bw6, hP.out.apart, hP.out.low.trans (bw6.mono hP.out.low.size), hP.out.ok, w5.heap.size, rfl, hx6, hx5⟩⟩
      | body l =>
        replace hok := hok.out l rfl
        have hpp := hP.out.paste
        have hvo := hP.out.out.len
        have hva := hP.out.ahead.len
        go_wp2_with fail
        refine hTh.out.mono ?_
        rintro e w5 ⟨h5, hb5⟩
        unfold ThingPost at h5
        simp only at h5
        obtain ⟨vl, rfl, hl5⟩ := h5
        obtain ⟨la, lc, rfl, _⟩ := hl5.len
        obtain ⟨ln, hln⟩ : ∃ q, q = l.length := ⟨_, rfl⟩
        rw [← hln] at hl5 ⊢
        obtain ⟨W6, hW6⟩ : ∃ W6, W6 = w5.alloc (.cells #[.slice la ln lc, .bool false, .string ⟨#[]⟩, .int .i64 0, .int .i64 0] 143) := ⟨_, rfl⟩
        have hx6 : W6.heap[w5.heap.size]? = some (.cells #[.slice la ln lc, .bool false, .string ⟨#[]⟩, .int .i64 0, .int .i64 0] 143 (0, 0)) := by rw [hW6]; exact heap_alloc_new w5 _
        have bw6 : Below wr.heap.size wr W6 := by rw [hW6]; exact hb5.alloc hb5.size _
        have hs6 : W6.heap.size = w5.heap.size + 1 := by rw [hW6]; simp
        have hl6 : OwnZ l wr.heap.size (.slice la ln lc) W6 := by rw [hW6]; exact hl5.below ((Below.refl _ w5).alloc (Nat.le_refl _) _)
        have hBr : W4.heap.size ≤ wr.heap.size := hP.out.low.size
        have ha6 := hP.out.ahead.below bw6
        have ho6 := hP.out.out.below bw6
        have hd6 := hP.out.ds.below bw6
        have hlow6 : Below W4.heap.size W4 W6 := hP.out.low.trans (bw6.mono hBr)
        have hap6 := old_new hP.out.ahead hl6
        have hop6 := old_new hP.out.out hl6
        obtain ⟨x0, x1, x2, x3, x4⟩ := cells5 hx6
        replace hln := Lib.hid hln
        cases hps : s.paste with
        | none =>
          rw [hps] at hpp
          simp only at hpp
          subst hpp
          have hs' : s' = ⟨s.out ++ s.ahead, l, none, s.ds⟩ := by simp only [stepZ, hps, Option.some.injEq] at hst; exact hst.symm
          subst hs'
          replace hps := Lib.hid hps
          obtain ⟨oa, oc, rfl, _⟩ := hvo
          obtain ⟨aa, ac, rfl, _⟩ := hva
          have hlz : s.out.length + s.ahead.length ≤ 1000000000 := by have := hP.out.len; omega
          have hB6 : W4.heap.size ≤ W6.heap.size := Nat.le_trans hBr bw6.size
          replace hx6 := Lib.hid hx6
          obtain ⟨on, hon⟩ : ∃ q, q = s.out.length := ⟨_, rfl⟩
          obtain ⟨an, han⟩ : ∃ q, q = s.ahead.length := ⟨_, rfl⟩
          rw [← hon] at ho6 hop6 ⊢
          rw [← han] at ha6 hap6 ⊢
          have hapo := hP.out.apart
          rw [← hon, ← han] at hapo
          replace hon := Lib.hid hon
          replace han := Lib.hid han
          go_upto_region 7 with fail
          rw [← hW6]
          replace hW6 := Lib.hid hW6
          go_wp2_with (at_builtin; go_must (refine wpList_appendZ rfl rfl ho6 rfl ha6 rfl hlz hB6 ?_); intro v7 w7 h7 hg7 h47; have hx7 := grown_block hg7 hx6.out (own_neZ ho6 hx6.out); obtain ⟨y0, y1, y2, y3, y4⟩ := cells5 hx7)
          go_roundg (n - (i + k))
          case measure => omega
          case rel =>
            refine ⟨nf', i + k, _, rfl, hk2, by go_num, Lib.hid ⟨hrun'.out, hfu.out, hlen', h7, ?_, ?_, ?_, ?_, hok, rfl⟩⟩
            · exact (hl6.mono hBr).keptZ ho6 hg7 (sep fun k hk j hj => by have h1 := hl6.ge k hk; have h2 := hP.out.out.lt j (by rw [← hon.out]; exact hj); omega)
            · exact own_dkept hd6 ho6 hg7
            · refine sep fun k hk j hj => ?_
              have h1 := hl6.ge j hj
              have h2 := hl6.lt j hj
              rcases h47 with h | h
              · have h3 := hP.out.out.lt k (by rw [← hon.out, ← h]; exact hk)
                omega
              · rw [h] at hk
                simp only [Option.some.injEq] at hk
                omega
            · exact hlow6.grown hg7 hB6 ho6.ge
        | some q =>
          obtain ⟨file, f, tt⟩ := q
          rw [hps] at hpp
          simp only at hpp
          obtain ⟨xb, rfl, hxb, hBx⟩ := hpp
          obtain ⟨res, hres, hs'⟩ : ∃ res, glueZ s.ahead l = some res ∧ s' = ⟨s.out, res.1, none, if res.2 then s.ds ++ [⟨10, file, f, tt⟩] else s.ds⟩ := by
            simp only [stepZ, hps] at hst
            cases hg : glueZ s.ahead l with
            | none => rw [hg] at hst; simp at hst
            | some res => rw [hg] at hst; simp only [Option.map_some, Option.some.injEq] at hst; exact ⟨res, rfl, hst.symm⟩
          subst hs'
          replace hps := Lib.hid hps
          have hgl := glue_len hres
          have hgok := glue_ok hres hP.out.ok hok
          have hll : s.ahead.length + l.length ≤ 1000000 := by simp only at hlen'; omega
          have hdl : s.ds.length ≤ 1000000 := by have := hP.out.len; omega
          have hB6 : W4.heap.size ≤ W6.heap.size := Nat.le_trans hBr bw6.size
          have HGl := sGlue_any s.ahead l va (.slice la ln lc) file f tt vd s.ds W4.heap.size res hres hll hdl W6.drew hB6 (ha6.tr (fun _ h => h.drew) (fun _ _ h => h.drew)) ((hl6.mono hBr).tr (fun _ h => h.drew) (fun _ _ h => h.drew)) hd6.drew (sep fun k hk j hj => by have h1 := hl6.ge j hj; have h2 := hP.out.ahead.lt k hk; omega) hP.out.ok
          have hoA : Hid (∀ w7 v7 vd7, GluePost res.1 (if res.2 then s.ds ++ [⟨10, file, f, tt⟩] else s.ds) va W4.heap.size W6.drew (.returned (.tuple #[v7, vd7])) w7 → PZ W4 m RR FF S fin nf' (i + k) ⟨s.out, res.1, none, if res.2 then s.ds ++ [⟨10, file, f, tt⟩] else s.ds⟩ vo v7 vd7 (.pointer none) w7) := Lib.hid fun w7 v7 vd7 ⟨v', vd', he, h1, h2, h3, h4⟩ => by
            simp only [Ending.returned.injEq, Value.tuple.injEq, Array.mk.injEq, List.cons.injEq, and_true] at he
            obtain ⟨rfl, rfl⟩ := he
            obtain ⟨h5, h6⟩ := h4 s.out vo (ho6.tr (fun _ h => h.drew) (fun _ _ h => h.drew)) hP.out.apart
            exact ⟨hrun'.out, hfu.out, hlen', h5, h1, h2, h6, (hlow6.drew).trans h3, hgok, rfl⟩
          obtain ⟨aa, ac, rfl, _⟩ := hva
          obtain ⟨an, han⟩ : ∃ q, q = s.ahead.length := ⟨_, rfl⟩
          rw [← han] at HGl hoA ⊢
          obtain ⟨p0, p1, p2, p3, p4⟩ := cells5 ((bw6.block _ (lt_of_block hxb)).trans hxb)
          obtain ⟨da, dc, rfl, _⟩ := hd6.row
          obtain ⟨dn, hdn⟩ : ∃ q, q = (s.ds.map badV).length := ⟨_, rfl⟩
          rw [← hdn] at HGl ⊢
          replace HGl := Lib.hid HGl
          replace han := Lib.hid han
          replace hdn := Lib.hid hdn
          replace hres := Lib.hid hres
          go_upto_region 7 with fail
          rw [← hW6]
          replace hW6 := Lib.hid hW6
          go_wp2_with fail
          go_region_with (first | (go_at_call 86; refine HGl.out.mono ?_; rintro e w7 h7; obtain ⟨v7, vd7, rfl, _⟩ := id h7; replace h7 := Lib.hid h7))
          all_goals
            go_wp2_with fail
            go_roundg (n - (i + k))
            case measure => omega
            case rel => exact ⟨nf', i + k, _, rfl, hk2, by go_num, Lib.hid (hoA.out _ _ _ h7.out)⟩
    · obtain rfl : i = n := by omega
      have hin' : ¬ (i : Int) < i := by omega
      have hfe : fin = s := by
        have := hP.out.run
        rw [pieces_end (by rw [HN.out]; omega)] at this
        exact (Option.some.inj this).symm
      subst hfe
      obtain ⟨oa, oc, rfl, _⟩ := hP.out.out.len
      obtain ⟨aa, ac, rfl, _⟩ := hP.out.ahead.len
      have hlz : fin.out.length + fin.ahead.length ≤ 1000000000 := by have := hP.out.len; omega
      obtain ⟨on, hon⟩ : ∃ q, q = fin.out.length := ⟨_, rfl⟩
      obtain ⟨an, han⟩ : ∃ q, q = fin.ahead.length := ⟨_, rfl⟩
      have ho6 := hP.out.out
      have ha6 := hP.out.ahead
      rw [← hon] at ho6 ⊢
      rw [← han] at ha6 ⊢
      obtain ⟨da, dc, rfl, _⟩ := hP.out.ds.row
      obtain ⟨dn, hdn⟩ : ∃ q, q = (fin.ds.map badV).length := ⟨_, rfl⟩
      have hd6 := hP.out.ds
      rw [← hdn] at hd6 ⊢
      have hB6 := hP.out.low.size
      replace hon := Lib.hid hon
      replace han := Lib.hid han
      replace hdn := Lib.hid hdn
      go_wp2_with (at_builtin; go_must (refine wpList_appendZ rfl rfl ho6 rfl ha6 rfl hlz hB6 ?_); intro v7 w7 h7 hg7 h47)
      go_ret2
      refine ⟨⟨_, _, rfl, h7.mono b4.out.size, (own_dkept hd6 ho6 hg7).mono b4.out.size⟩, ?_⟩
      exact b4.out.trans ((hP.out.low.grown hg7 hB6 ho6.ge).mono b4.out.size)
end Go.Proofs.YtfaoamdlknlgpaaGreat

/- subst: Body, walked. -/
namespace Go.Proofs.YtfaoamdlknlgpaaGreat
open Go.RowKit
set_option linter.unusedVariables false

theorem EI3 : EI Tryz.prog 38 3 (.int .i64 0) 1 8 := ⟨Tryz.underlying38, by kernel_rfl, rfl, by decide⟩

/-- tokens of pieces -/
def tfZ (p : Pz) : Tf := (p.t, p.css)
def parC (p : Pz) : List Value := [.int .i64 p.par]

/-- what holds while tokens and places are laid -/
structure GB (P : List Pz) (vp : Value) (os : List Tf) (fs : List (List Value)) (vo vf vd : Value) (dss : List (List Value)) (u : Value) (css : List (List Value)) (xb : Nat) (xs : Array Value) (B : Nat) (w z : World) : Prop where
  pz : OwnZ P B vp z
  o : OwnT os B vo z
  f : Own z B 3 1 vf fs
  d : Own z B 68 4 vd dss
  u : Own z B 66 5 u css
  x : z.heap[xb]? = some (.cells xs 118 (0, 0))
  xn : vp.ownBlock = none ∨ vp.ownBlock ≠ some xb
  low : Below B w z
  sz : w.heap.size ≤ z.heap.size
  hB : B ≤ w.heap.size

section
variable {P : List Pz} {vp : Value} {os : List Tf} {fs : List (List Value)} {vo vf vd : Value} {dss : List (List Value)} {u : Value} {css : List (List Value)} {xb : Nat} {xs : Array Value} {B : Nat} {w z : World}

theorem GB.drew (h : GB P vp os fs vo vf vd dss u css xb xs B w z) : GB P vp os fs vo vf vd dss u css xb xs B w z.drew :=
  ⟨h.pz.tr (fun _ h => h.drew) (fun _ _ h => h.drew), h.o.tr (fun _ h => h.drew) (fun _ _ h => h.drew), h.f.drew, h.d.drew, h.u.drew, h.x, h.xn, h.low.drew, h.sz, h.hB⟩

theorem GB.alloc (h : GB P vp os fs vo vf vd dss u css xb xs B w z) (o : Obj) : GB P vp os fs vo vf vd dss u css xb xs B w (z.alloc o) :=
  ⟨h.pz.tr (fun _ h => h.alloc o) (fun _ _ h => h.alloc o), h.o.tr (fun _ h => h.alloc o) (fun _ _ h => h.alloc o), h.f.alloc o, h.d.alloc o, h.u.alloc o, (Lib.alloc_old _ _ _ (lt_of_block h.x)).trans h.x, h.xn, h.low.alloc (Nat.le_trans h.hB h.sz) o, by rw [World.size_alloc]; exact Nat.le_succ_of_le h.sz, h.hB⟩

theorem step_bodyA {P' : Program} (hP : P' = Tryz.prog) {ops : Array Oper} {o : Oper} {ac : Act} {K : Act → World → Prop} {Q : Exit → Act → World → Prop} {Z : Prop}
    (hgd : o.guard = none) {s e : Operand} (ho : o.op = .call { callee := .builtin .append, args := #[s, e], argTypes := #[22, 22] })
    (hG : GB P vp os fs vo vf vd dss u css xb xs B w z) (hs : ac.eval s = vo) {g c : Nat} {t : Tm} (hx : ac.eval e = .slice (some ⟨g, 0, none⟩) 1 c) (hl : z.heap[g]? = some (.cells (tmC t u).toArray 34 (0, 0))) (hn : os.length ≤ 1000000)
    (h : ∀ v' w', GB P vp (os ++ [(t, css)]) fs v' vf vd dss u css xb xs B w w' → (∀ (g : Nat) (c : Array Value) (T : TypeId) (fz : Nat × Nat), z.heap[g]? = some (Obj.cells c T fz) → 34 ≠ T → w'.heap[g]? = some (Obj.cells c T fz)) → K (ac.put o.dst v') w') :
    if Region.wanted o (yielded ops ac.tmps) = true then Oper.wp P' o ac z K Q else Z := by
  subst hP
  obtain ⟨T, o1, l1, r1⟩ := hG.o
  obtain ⟨ua, uc, hu, _⟩ := hG.u.row
  have hone : ∀ q ∈ tmC t u, q.oneCell' = true := by
    intro q hq
    simp only [tmC, hu, List.mem_cons, List.not_mem_nil, or_false] at hq
    rcases hq with rfl | rfl | rfl | rfl | rfl | rfl | rfl | rfl <;> rfl
  refine step_append1 E34 hgd ho o1 hs hx hl rfl hone (by rw [List.length_map, l1]; omega) (by decide) (Nat.le_trans hG.hB hG.sz) ?_
  intro v' w' hown hg
  have hap : ∀ {B' sz e'} {q : Value} {cs : List (List Value)}, e' ≠ 34 → Own z B' e' sz q cs → Own w' B' e' sz q cs := fun he hq => hq.kept hg (own_apart hq o1 he)
  refine h v' w' ⟨hG.pz.tr (fun _ h => hap (by decide) h) (fun _ _ h => hap (by decide) h), ⟨T ++ [(t, u)], by rw [List.map_append]; exact hown, by simp [l1], ?_⟩, hap (by decide) hG.f, hap (by decide) hG.d, hap (by decide) hG.u, grown_block hg hG.x (own_ne o1 hG.x (by decide)), hG.xn, hG.low.grown hg (Nat.le_trans hG.hB hG.sz) o1.ge, Nat.le_trans hG.sz hg.size, hG.hB⟩ (fun g c T' fz hc hT => grown_block hg hc (own_ne o1 hc hT))
  intro i p x hp hx
  by_cases hi : i < T.length
  · rw [List.getElem?_append_left hi] at hp
    rw [List.getElem?_append_left (by omega)] at hx
    exact ⟨(r1 i p x hp hx).1, hap (by decide) (r1 i p x hp hx).2⟩
  · rw [List.getElem?_append_right (by omega)] at hp
    rw [List.getElem?_append_right (by omega)] at hx
    have h0 : i - T.length = 0 := by have := (List.getElem?_eq_some_iff.1 hp).1; simp at this; omega
    rw [h0] at hp
    rw [← l1, h0] at hx
    simp only [List.getElem?_cons_zero, Option.some.injEq] at hp hx
    subst hp hx
    exact ⟨rfl, hap (by decide) hG.u⟩

theorem step_bodyF {P' : Program} (hP : P' = Tryz.prog) {ops : Array Oper} {o : Oper} {ac : Act} {K : Act → World → Prop} {Q : Exit → Act → World → Prop} {Z : Prop}
    (hgd : o.guard = none) {s e : Operand} (ho : o.op = .call { callee := .builtin .append, args := #[s, e], argTypes := #[38, 38] })
    (hG : GB P vp os fs vo vf vd dss u css xb xs B w z) (hs : ac.eval s = vf) {g c : Nat} {k : Int} (hx : ac.eval e = .slice (some ⟨g, 0, none⟩) 1 c) (hl : z.heap[g]? = some (.cells #[.int .i64 k] 3 (0, 0))) (hn : fs.length ≤ 1000000)
    (h : ∀ v' w', GB P vp os (fs ++ [[.int .i64 k]]) vo v' vd dss u css xb xs B w w' → (∀ (g : Nat) (c : Array Value) (T : TypeId) (fz : Nat × Nat), z.heap[g]? = some (Obj.cells c T fz) → 3 ≠ T → w'.heap[g]? = some (Obj.cells c T fz)) → K (ac.put o.dst v') w') :
    if Region.wanted o (yielded ops ac.tmps) = true then Oper.wp P' o ac z K Q else Z := by
  subst hP
  refine step_append1 EI3 hgd ho hG.f hs (news := [.int .i64 k]) hx hl rfl (by simp [Value.oneCell']) (by omega) (by decide) (Nat.le_trans hG.hB hG.sz) ?_
  intro v' w' hown hg
  have hap : ∀ {B' sz e'} {q : Value} {cs : List (List Value)}, e' ≠ 3 → Own z B' e' sz q cs → Own w' B' e' sz q cs := fun he hq => hq.kept hg (own_apart hq hG.f he)
  exact h v' w' ⟨hG.pz.tr (fun _ h => hap (by decide) h) (fun _ _ h => hap (by decide) h), hG.o.tr (fun _ h => hap (by decide) h) (fun _ _ h => hap (by decide) h), hown, hap (by decide) hG.d, hap (by decide) hG.u, grown_block hg hG.x (own_ne hG.f hG.x (by decide)), hG.xn, hG.low.grown hg (Nat.le_trans hG.hB hG.sz) hG.f.ge, Nat.le_trans hG.sz hg.size, hG.hB⟩ (fun g c T' fz hc hT => grown_block hg hc (own_ne hG.f hc hT))
end

theorem cells11 {w : World} {b : Nat} {a0 a1 a2 a3 a4 a5 a6 a7 a8 a9 a10 : Value} {e : TypeId} {fz : Nat × Nat} (h : w.heap[b]? = some (.cells #[a0, a1, a2, a3, a4, a5, a6, a7, a8, a9, a10] e fz)) : w.cell? ⟨b, 0, none⟩ = some a0 ∧ w.cell? ⟨b, 1, none⟩ = some a1 ∧ w.cell? ⟨b, 2, none⟩ = some a2 ∧ w.cell? ⟨b, 3, none⟩ = some a3 ∧ w.cell? ⟨b, 4, none⟩ = some a4 ∧ w.cell? ⟨b, 5, none⟩ = some a5 ∧ w.cell? ⟨b, 6, none⟩ = some a6 ∧ w.cell? ⟨b, 7, none⟩ = some a7 ∧ w.cell? ⟨b, 8, none⟩ = some a8 ∧ w.cell? ⟨b, 9, none⟩ = some a9 ∧ w.cell? ⟨b, 10, none⟩ = some a10 := by
  refine ⟨?_, ?_, ?_, ?_, ?_, ?_, ?_, ?_, ?_, ?_, ?_⟩ <;> rw [Lib.cell_of_heap h] <;> rfl

theorem OwnZ.at11 {X : List Pz} {B n cap k : Nat} {ao : Option Addr} {x : Pz} {w : World} (h : OwnZ X B (.slice ao n cap) w) (hk : X[k]? = some x) : ∃ b sa sn sc, ao = some ⟨b, 0, none⟩ ∧ Own w B 66 5 (.slice sa sn sc) x.css ∧
    (w.cell? ⟨b, k * 11, none⟩ = some (.int .i64 x.t.kind) ∧ w.cell? ⟨b, k * 11 + 1, none⟩ = some (.string x.t.text) ∧ w.cell? ⟨b, k * 11 + 2, none⟩ = some (.bool x.t.sp) ∧ w.cell? ⟨b, k * 11 + 3, none⟩ = some (.string x.t.file) ∧ w.cell? ⟨b, k * 11 + 4, none⟩ = some (.int .i64 x.t.f) ∧ w.cell? ⟨b, k * 11 + 5, none⟩ = some (.int .i64 x.t.t) ∧ w.cell? ⟨b, k * 11 + 6, none⟩ = some (.bool x.t.made) ∧ w.cell? ⟨b, k * 11 + 7, none⟩ = some (.slice sa sn sc) ∧ w.cell? ⟨b, k * 11 + 8, none⟩ = some (.int .i64 x.par) ∧ w.cell? ⟨b, k * 11 + 9, none⟩ = some (.int .i64 x.at_) ∧ w.cell? ⟨b, k * 11 + 10, none⟩ = some (.bool x.full)) := by
  obtain ⟨T, h1, h2, h3⟩ := h
  obtain ⟨⟨p, v⟩, hp⟩ : ∃ p, T[k]? = some p := ⟨_, List.getElem?_eq_getElem (by rw [← List.length_map (f := (·.1)), h1]; exact (List.getElem?_eq_some_iff.1 hk).1)⟩
  have hpx : p = x := by
    have : (T.map (·.1))[k]? = some x := by rw [h1]; exact hk
    rw [List.getElem?_map, hp] at this
    exact Option.some.inj this
  subst hpx
  have e2 := h3 _ (List.mem_of_getElem? hp)
  obtain ⟨sa, sc, hv, _⟩ := e2.row
  simp only at hv
  subst hv
  obtain ⟨g, cap', hv, _⟩ := h2.cons_at (by intro e; simp at e; rw [e] at hp; simp at hp)
  simp only [Value.slice.injEq] at hv
  obtain ⟨rfl, _, _⟩ := hv
  obtain ⟨b, o, e, hat⟩ := h2.here (by intro e; simp at e; rw [e] at hp; simp at hp)
  simp only [Option.some.injEq, Addr.mk.injEq, and_true] at e
  obtain ⟨rfl, rfl⟩ := e
  have hc := fun j u (hj : (pzC p (.slice sa p.css.length sc))[j]? = some u) => hat.cell (i := k) (cs := pzC p (.slice sa p.css.length sc)) (by rw [List.getElem?_map, hp]; rfl) (j := j) (u := u) hj
  simp only [Nat.zero_add] at hc
  exact ⟨g, sa, _, sc, rfl, e2, hc 0 _ rfl, hc 1 _ rfl, hc 2 _ rfl, hc 3 _ rfl, hc 4 _ rfl, hc 5 _ rfl, hc 6 _ rfl, hc 7 _ rfl, hc 8 _ rfl, hc 9 _ rfl, hc 10 _ rfl⟩
end Go.Proofs.YtfaoamdlknlgpaaGreat

/- subst: Body, walked. -/
namespace Go.Proofs.YtfaoamdlknlgpaaGreat
open Go.RowKit
set_option linter.unusedVariables false

theorem pieces_len {m : Mac} {RR FF : List (List Tf)} {S : List (List Value)} {fin : ZS} : ∀ (n i : Nat) (s : ZS), piecesZ m RR FF S n i s = some fin → s.out.length + s.ahead.length + s.ds.length ≤ 900000 → fin.out.length + fin.ahead.length + fin.ds.length ≤ 900000 := by
  intro n
  induction n with
  | zero => intro i s h hs; simp only [piecesZ, Option.some.injEq] at h; subst h; exact hs
  | succ n ih =>
    intro i s h hs
    simp only [piecesZ] at h
    cases hb : m.body[i]? with
    | none => rw [hb] at h; simp only [Option.some.injEq] at h; subst h; exact hs
    | some t =>
      rw [hb] at h
      simp only at h
      cases hst : stepZ s (thingZ m RR FF S i t).1 with
      | none => rw [hst] at h; simp at h
      | some s' =>
        rw [hst] at h
        simp only at h
        cases ho : s'.ok with
        | false => rw [ho] at h; simp at h
        | true =>
          rw [ho] at h
          simp only [if_true] at h
          exact ih _ _ h (by simpa [ZS.ok] using ho)

/-- what holds while tokens are laid -/
structure GL (P : List Pz) (vp : Value) (vd : Value) (dss : List (List Value)) (B : Nat) (w : World) (k : Nat) (vo vf : Value) (z : World) : Prop where
  pz : OwnZ P B vp z
  o : OwnT ((P.map tfZ).take k) B vo z
  f : Own z B 3 1 vf ((P.map parC).take k)
  d : Own z B 68 4 vd dss
  low : Below B w z
  sz : w.heap.size ≤ z.heap.size
  hB : B ≤ w.heap.size

theorem take_snoc {α : Type} {l : List α} {k : Nat} {x : α} (h : l[k]? = some x) : l.take (k + 1) = l.take k ++ [x] := by
  rw [List.take_add_one, h]; rfl

theorem cells9 {w : World} {b : Nat} {a0 a1 a2 a3 a4 a5 a6 a7 a8 a9 a10 : Value} {e : TypeId} {fz : Nat × Nat} (h : w.heap[b]? = some (.cells #[a0, a1, a2, a3, a4, a5, a6, a7, a8, a9, a10] e fz)) : w.cell? ⟨b, 0, none⟩ = some a0 ∧ w.cell? ⟨b, 1, none⟩ = some a1 ∧ w.cell? ⟨b, 2, none⟩ = some a2 ∧ w.cell? ⟨b, 3, none⟩ = some a3 ∧ w.cell? ⟨b, 4, none⟩ = some a4 ∧ w.cell? ⟨b, 5, none⟩ = some a5 ∧ w.cell? ⟨b, 6, none⟩ = some a6 ∧ w.cell? ⟨b, 7, none⟩ = some a7 ∧ w.cell? ⟨b, 8, none⟩ = some a8 := by
  refine ⟨?_, ?_, ?_, ?_, ?_, ?_, ?_, ?_, ?_⟩ <;> rw [Lib.cell_of_heap h] <;> rfl

set_option maxHeartbeats 4000000 in
set_option maxRecDepth 100000 in
theorem sBody_any (m : Mac) (T : List (Tm × Value)) (pao : Option Addr) (pcap : Nat) (bao : Option Addr) (bcap : Nat) (RR FF : List (List Tf)) (rv fv sv : Value) (sm sfile : ByteArray) (sf st : Int) (smade : Bool) (S0 : List (List Value)) (w : World) (hps : Row w 1 pao (m.params.map fun p => [.string p])) (hpl : m.params.length ≤ 1000000) (hrow : Row w 8 bao (T.map tvC)) (hlen : T.length ≤ 1000000) (hcap : T.length ≤ bcap) (hsl : ∀ p ∈ T, SlV p.2) (hbody : T.map (·.1) = m.body) (hR : LsRd w rv RR) (hF : LsRd w fv FF) (hS : SiteIn w sv S0) (hSk : SitesOk (siC sm sfile sf st smade :: S0)) (hRk : ArgsOk RR) (hFk : ArgsOk FF) (fin : ZS) (hfin : piecesZ m RR FF (siC sm sfile sf st smade :: S0) m.body.length 0 ⟨[], [], none, []⟩ = some fin) :
    Calls Tryz.prog 37 #[.agg #[.string m.name, .bool m.fn, .bool m.va, .slice pao m.params.length pcap, .slice bao T.length bcap, .string m.file, .int .i64 m.f, .int .i64 m.t], rv, fv, .agg #[.string sm, .string sfile, .int .i64 sf, .int .i64 st, .bool smade], sv] w fun e w' => (∃ v vf vd, e = .returned (.tuple #[v, vf, vd]) ∧ OwnT ((fin.out ++ fin.ahead).map tfZ) w.heap.size v w' ∧ Own w' w.heap.size 3 1 vf ((fin.out ++ fin.ahead).map parC) ∧ Own w' w.heap.size 68 4 vd (fin.ds.map badV)) ∧ Below w.heap.size w w' := by
  obtain ⟨ra, rc, _, hrv, _⟩ := id hR
  obtain ⟨fa, fc, _, hfv, _⟩ := id hF
  obtain ⟨sa, sc, hsv, _⟩ := id hS
  have hflen := pieces_len _ _ _ hfin (by simp)
  obtain ⟨W1, hW1⟩ : ∃ W1, W1 = w.alloc (.cells #[.string m.name, .bool m.fn, .bool m.va, .slice pao m.params.length pcap, .slice bao T.length bcap, .string m.file, .int .i64 m.f, .int .i64 m.t] 53) := ⟨_, rfl⟩
  obtain ⟨W2, hW2⟩ : ∃ W2, W2 = W1.alloc (.cells #[.string sm, .string sfile, .int .i64 sf, .int .i64 st, .bool smade] 66) := ⟨_, rfl⟩
  have hs1 : W1.heap.size = w.heap.size + 1 := by rw [hW1]; simp
  have b1 : Below w.heap.size w W1 := by rw [hW1]; exact (Below.refl _ w).alloc (Nat.le_refl _) _
  have b2 : Below w.heap.size w W2 := by rw [hW2]; exact b1.alloc b1.size _
  have hc2 : W2.heap[w.heap.size]? = some (.cells #[.string m.name, .bool m.fn, .bool m.va, .slice pao m.params.length pcap, .slice bao T.length bcap, .string m.file, .int .i64 m.f, .int .i64 m.t] 53 (0, 0)) := by
    rw [hW2]
    refine (Lib.alloc_old _ _ _ (by omega)).trans ?_
    rw [hW1]
    exact heap_alloc_new w _
  have hx2 : W2.heap[w.heap.size + 1]? = some (.cells #[.string sm, .string sfile, .int .i64 sf, .int .i64 st, .bool smade] 66 (0, 0)) := by rw [hW2, ← hs1]; exact heap_alloc_new W1 _
  have hM2 : MH w.heap.size m T pao pcap bao bcap W2 := ⟨⟨(0, 0), hc2⟩, hps.below b2, hpl, hrow.below b2, hlen, hcap, hsl, hbody⟩
  have HP := sPieces_any w.heap.size m T pao pcap bao bcap RR FF rv fv sv sm sfile sf st smade S0 W2 hM2 (hR.below b2) (hF.below b2) (hS.below b2) hSk hRk hFk fin hfin
  obtain ⟨P, hP⟩ : ∃ P, P = fin.out ++ fin.ahead := ⟨_, rfl⟩
  rw [← hP] at HP ⊢
  have hPl : P.length ≤ 900000 := by rw [hP, List.length_append]; omega
  obtain ⟨n, hn⟩ : ∃ n, n = P.length := ⟨_, rfl⟩
  rw [← hn] at hPl
  have HN : Hid (P.length = n) := Lib.hid hn.symm
  obtain ⟨x0, x1, x2, x3, x4⟩ := cells5 hx2
  obtain ⟨rn, hrn⟩ : ∃ q, q = RR.length := ⟨_, rfl⟩
  obtain ⟨fn, hfn⟩ : ∃ q, q = FF.length := ⟨_, rfl⟩
  obtain ⟨sn, hsn⟩ : ∃ q, q = S0.length := ⟨_, rfl⟩
  obtain ⟨pn, hpn⟩ : ∃ q, q = m.params.length := ⟨_, rfl⟩
  obtain ⟨tn, htn⟩ : ∃ q, q = T.length := ⟨_, rfl⟩
  rw [← hrn] at hrv
  rw [← hfn] at hfv
  rw [← hsn] at hsv
  subst hrv hfv hsv
  rw [← hpn, ← htn] at hW1
  rw [← hpn, ← htn]
  obtain ⟨mname, mfn, mva, mps, mbody, mfile, mf, mt⟩ := m
  simp only at hW1 ⊢
  replace HP := Lib.hid HP
  replace hP := Lib.hid hP
  replace hrn := Lib.hid hrn
  replace hfn := Lib.hid hfn
  replace hsn := Lib.hid hsn
  replace hpn := Lib.hid hpn
  replace htn := Lib.hid htn
  replace hfin := Lib.hid hfin
  replace b2 := Lib.hid b2
  clear hn hc2 hx2 hM2 hps hrow hlen hcap hsl hbody hR hF hS hSk hRk hFk hflen hpl
  go_enter Tryz.func37, Tryz.ntmps37
  go_upto_region 1 with fail
  rw [← hW1, ← hW2]
  replace hW1 := Lib.hid hW1
  replace hW2 := Lib.hid hW2
  replace hs1 := Lib.hid hs1
  go_wp2_with fail
  refine HP.out.mono ?_
  rintro e w3 ⟨⟨vp, vd, rfl, hz3, hd3⟩, hb3⟩
  obtain ⟨pa, pc, rfl, _⟩ := hz3.len
  rw [HN.out] at hz3 ⊢
  obtain ⟨dn, hdn⟩ : ∃ q, q = (fin.ds.map badV).length := ⟨_, rfl⟩
  obtain ⟨da, dc, rfl, _⟩ := hd3.row
  rw [← hdn] at hd3 ⊢
  replace hdn := Lib.hid hdn
  obtain ⟨dss, hdss⟩ : ∃ d, d = fin.ds.map badV := ⟨_, rfl⟩
  rw [← hdss] at hd3
  replace hdss := Lib.hid hdss
  have hG0 : Hid (GL P (.slice pa n pc) (.slice da dn dc) dss W2.heap.size W2 0 (.slice none 0 0) (.slice none 0 0) w3) := Lib.hid ⟨hz3, by rw [List.take_zero]; exact ⟨[], Own.nil _ _ _ _, rfl, by simp⟩, by rw [List.take_zero]; exact Own.nil _ _ _ _, hd3, hb3, hb3.size, Nat.le_refl _⟩
  clear x0 x1 x2 x3 x4 hb3 hz3 hd3
  go_wp2_with fail
  go_loopg [10, 11, 26] n (fun u o10 f11 i26 wr => ∃ k : Nat, u = n - k ∧ k ≤ n ∧ i26 = .int .i64 k ∧ Hid (GL P (.slice pa n pc) (.slice da dn dc) dss W2.heap.size W2 k o10 f11 wr))
  case atStart => exact ⟨0, rfl, Nat.zero_le _, rfl, hG0⟩
  case round =>
    obtain ⟨k, rfl, hk, rfl, hG⟩ := hrel
    generalize u10 = vo at *
    generalize u11 = vf at *
    by_cases hlt : k < n
    · have hlt' : (k : Int) < n := by omega
      obtain ⟨x, hx⟩ : ∃ x, P[k]? = some x := ⟨_, List.getElem?_eq_getElem (by rw [HN.out]; exact hlt)⟩
      obtain ⟨pb, ua, un, uc, rfl, hu, t0, t1, t2, t3, t4, t5, t6, t7, t8, t9, t10⟩ := hG.out.pz.at11 hx
      have hto := take_snoc (l := P.map tfZ) (k := k) (x := tfZ x) (by rw [List.getElem?_map, hx]; rfl)
      have htf := take_snoc (l := P.map parC) (k := k) (x := parC x) (by rw [List.getElem?_map, hx]; rfl)
      obtain ⟨W4, hW4⟩ : ∃ W4, W4 = wr.alloc (.cells #[.int .i64 x.t.kind, .string x.t.text, .bool x.t.sp, .string x.t.file, .int .i64 x.t.f, .int .i64 x.t.t, .bool x.t.made, .slice ua un uc, .int .i64 x.par, .int .i64 x.at_, .bool x.full] 118) := ⟨_, rfl⟩
      have hG4 : GB P (.slice (some ⟨pb, 0, none⟩) n pc) ((P.map tfZ).take k) ((P.map parC).take k) vo vf (.slice da dn dc) dss (.slice ua un uc) x.css wr.heap.size #[.int .i64 x.t.kind, .string x.t.text, .bool x.t.sp, .string x.t.file, .int .i64 x.t.f, .int .i64 x.t.t, .bool x.t.made, .slice ua un uc, .int .i64 x.par, .int .i64 x.at_, .bool x.full] W2.heap.size W2 W4 := by
        rw [hW4]
        refine ⟨hG.out.pz.tr (fun _ h => h.alloc _) (fun _ _ h => h.alloc _), hG.out.o.tr (fun _ h => h.alloc _) (fun _ _ h => h.alloc _), hG.out.f.alloc _, hG.out.d.alloc _, hu.alloc _, heap_alloc_new wr _, ?_, hG.out.low.alloc (Nat.le_trans hG.out.hB hG.out.sz) _, by rw [World.size_alloc]; exact Nat.le_succ_of_le hG.out.sz, hG.out.hB⟩
        right
        have := hG.out.pz.lt pb rfl
        simp [Value.ownBlock]
        omega
      obtain ⟨tm, cssx, par, atx, fl⟩ := x
      obtain ⟨tk, tx, tsp, tfi, tff, ttt, tma⟩ := tm
      simp only at t0 t1 t2 t3 t4 t5 t6 t7 t8 t9 t10 hW4 hG4
      replace hu := Lib.hid hu
      replace hx := Lib.hid hx
      replace hto := Lib.hid hto
      replace htf := Lib.hid htf
      replace hG4 := Lib.hid hG4
      have hq0 := Lib.hid hG4.out.drew
      have hq1 := Lib.hid (fun o => (hG4.out.alloc o).drew)
      have hq2 := Lib.hid (fun o o' => ((hG4.out.alloc o).alloc o').drew)
      obtain ⟨s0, s1, s2, s3, s4, s5, s6, s7, s8⟩ := cells9 hG4.out.drew.x
      have hk1 := fun o => cells9 ((hG4.out.alloc o).drew).x
      have hk2 := fun o o' => cells9 (((hG4.out.alloc o).alloc o').drew).x
      have hl1 : Hid (∀ cs e, (W4.alloc (.cells cs e)).drew.heap[W4.heap.size]? = some (.cells cs e (0, 0))) := Lib.hid fun cs e => heap_alloc_new W4 (.cells cs e)
      have hl2 : Hid (∀ cs e cs' e', ((W4.alloc (.cells cs e)).alloc (.cells cs' e')).drew.heap[W4.heap.size]? = some (.cells cs e (0, 0))) := Lib.hid fun cs e cs' e' => new_one W4 cs cs' e e'
      have hl3 : Hid (∀ cs e cs' e', ((W4.alloc (.cells cs e)).alloc (.cells cs' e')).drew.heap[W4.heap.size + 1]? = some (.cells cs' e' (0, 0))) := Lib.hid fun cs e cs' e' => new_two W4 cs cs' e e'
      have hol : ((P.map tfZ).take k).length ≤ 1000000 := by rw [List.length_take]; omega
      have hfl : ((P.map parC).take k).length ≤ 1000000 := by rw [List.length_take]; omega
      go_upto_region 5 with fail
      rw [← hW4]
      replace hW4 := Lib.hid hW4
      go_region_held3 (fun z : World => z.cell? ⟨wr.heap.size, 0, none⟩ = some (.int .i64 tk) ∧ z.cell? ⟨wr.heap.size, 1, none⟩ = some (.string tx) ∧ z.cell? ⟨wr.heap.size, 2, none⟩ = some (.bool tsp) ∧ z.cell? ⟨wr.heap.size, 3, none⟩ = some (.string tfi) ∧ z.cell? ⟨wr.heap.size, 4, none⟩ = some (.int .i64 tff) ∧ z.cell? ⟨wr.heap.size, 5, none⟩ = some (.int .i64 ttt) ∧ z.cell? ⟨wr.heap.size, 6, none⟩ = some (.bool tma) ∧ z.cell? ⟨wr.heap.size, 7, none⟩ = some (.slice ua un uc) ∧ z.cell? ⟨wr.heap.size, 8, none⟩ = some (.int .i64 par)) (first | with_reducible exact ⟨s0, s1, s2, s3, s4, s5, s6, s7, s8⟩ | with_reducible exact hk1 _ | with_reducible exact hk2 _ _ | with_reducible exact hk6 | with_reducible exact hk6a _ | with_reducible exact hk7 | fail)
        (first
          | (refine step_bodyA (t := ⟨tk, tx, tsp, tfi, tff, ttt, tma⟩) rfl rfl rfl (hq1.out _) rfl rfl (hl1.out _ _) hol ?_; intro v6 w6 hA6 kp6; have hG6 := hA6; have hk6 := cells9 hG6.x; have hk6a := fun o => cells9 (hG6.alloc o).x)
          | (refine step_bodyA (t := ⟨tk, tx, tsp, tfi, tff, ttt, tma⟩) rfl rfl rfl (hq2.out _ _) rfl rfl (hl2.out _ _ _ _) hol ?_; intro v6 w6 hA6 kp6; have hG6 := hA6; have hk6 := cells9 hG6.x; have hk6a := fun o => cells9 (hG6.alloc o).x; have hlF6 := kp6 _ _ _ _ (hl3.out _ _ _ _) (by decide))
          | (refine step_bodyA (t := ⟨tk, tx, tsp, tfi, tff, ttt, tma⟩) rfl rfl rfl (hq2.out _ _) rfl rfl (hl3.out _ _ _ _) hol ?_; intro v6 w6 hA6 kp6; have hG6 := hA6; have hk6 := cells9 hG6.x; have hk6a := fun o => cells9 (hG6.alloc o).x; have hlF6 := kp6 _ _ _ _ (hl2.out _ _ _ _) (by decide))
          | (refine step_bodyF rfl rfl rfl (hq1.out _) rfl rfl (hl1.out _ _) hfl ?_; intro v6 w6 hF6 kp6; have hG6 := hF6; have hk6 := cells9 hG6.x; have hk6a := fun o => cells9 (hG6.alloc o).x)
          | (refine step_bodyF rfl rfl rfl (hq2.out _ _) rfl rfl (hl2.out _ _ _ _) hfl ?_; intro v6 w6 hF6 kp6; have hG6 := hF6; have hk6 := cells9 hG6.x; have hk6a := fun o => cells9 (hG6.alloc o).x; have hlA6 := kp6 _ _ _ _ (hl3.out _ _ _ _) (by decide))
          | (refine step_bodyF rfl rfl rfl (hq2.out _ _) rfl rfl (hl3.out _ _ _ _) hfl ?_; intro v6 w6 hF6 kp6; have hG6 := hF6; have hk6 := cells9 hG6.x; have hk6a := fun o => cells9 (hG6.alloc o).x; have hlA6 := kp6 _ _ _ _ (hl2.out _ _ _ _) (by decide))
          | (refine step_bodyF rfl rfl rfl (hA6.alloc _) rfl rfl (heap_alloc_new _ _) hfl ?_; intro v7 w7 hG7 kp7; have hk7 := cells9 hG7.x)
          | (refine step_bodyF rfl rfl rfl hA6 rfl rfl hlF6 hfl ?_; intro v7 w7 hG7 kp7; have hk7 := cells9 hG7.x)
          | (refine step_bodyA (t := ⟨tk, tx, tsp, tfi, tff, ttt, tma⟩) rfl rfl rfl (hF6.alloc _) rfl rfl (heap_alloc_new _ _) hol ?_; intro v7 w7 hG7 kp7; have hk7 := cells9 hG7.x)
          | (refine step_bodyA (t := ⟨tk, tx, tsp, tfi, tff, ttt, tma⟩) rfl rfl rfl hF6 rfl rfl hlA6 hol ?_; intro v7 w7 hG7 kp7; have hk7 := cells9 hG7.x))
      all_goals
        go_wp2_with fail
        go_roundg (n - (k + 1))
        case measure => omega
        case rel => exact ⟨k + 1, rfl, hlt, by go_num, Lib.hid ⟨hG7.pz, by rw [hto.out]; exact hG7.o, by rw [htf.out]; exact hG7.f, hG7.d, hG7.low, hG7.sz, hG7.hB⟩⟩
    · obtain rfl : k = n := by omega
      have hlt' : ¬ (k : Int) < k := by omega
      have ho := hG.out.o
      rw [List.take_of_length_le (by rw [List.length_map, HN.out]; omega)] at ho
      have hf := hG.out.f
      rw [List.take_of_length_le (by rw [List.length_map, HN.out]; omega)] at hf
      replace ho := Lib.hid ho
      replace hf := Lib.hid hf
      go_wp2
      go_ret3
      refine ⟨⟨_, _, _, rfl, ho.out.mono b2.out.size, hf.out.mono b2.out.size, ?_⟩, b2.out.trans (hG.out.low.mono b2.out.size)⟩
      rw [← hdss.out]
      exact hG.out.d.mono b2.out.size
end Go.Proofs.YtfaoamdlknlgpaaGreat
