/- Texts of this seat's proofs, laid into one file. -/
import Derived.Test.YtfaoamdlknlgpaaGreatSubstHashDoneG16
import Derived.Test.YtfaoamdlknlgpaaGreatSubstHashDoneG37
import Derived.Test.YtfaoamdlknlgpaaGreatSubstHashDoneG19
import Derived.Deep.OwnRows
import Derived.Deep.RegionHeld3
/- subst: Wants, walked. -/
namespace Go.Proofs.YtfaoamdlknlgpaaGreat
open Go.RowKit
set_option linter.unusedVariables false

theorem infoBoolW : (Tryz.prog.info? 4).map (fun i => (i.zero, i.size, i.bytes)) = some (some (.bool false), 1, 1) := by kernel_rfl

/-- which parameters stand raw, and which full -/
def wantsZ (m : Mac) : Nat → List Tm → List Bool × List Bool → List Bool × List Bool
  | _, [], s => s
  | i, t :: r, s => wantsZ m (i + 1) r (if ofP m.fn m.params t < 0 then s else if rawP m.body i then (s.1.set (ofP m.fn m.params t).toNat true, s.2) else (s.1, s.2.set (ofP m.fn m.params t).toNat true))

def boolC (b : Bool) : List Value := [.bool b]

theorem own_made (w : World) (n : Nat) (hn : n ≤ 1000000) : Own (w.alloc (.cells (madeCells #[Value.bool false] n) 4)) w.heap.size 4 1 (.slice (some ⟨w.heap.size, 0, none⟩) n n) ((List.replicate n false).map boolC) := by
  have hl : ∀ n : Nat, ((List.replicate n false).map boolC).flatten = List.replicate n (Value.bool false) := by
    intro n
    induction n with
    | zero => rfl
    | succ n ih => rw [List.replicate_succ, List.map_cons, List.flatten_cons, ih]; rfl
  refine ⟨⟨?_, .inr ⟨w.heap.size, n, madeCells #[Value.bool false] n, by simp, Nat.le_refl _, heap_alloc_new w _, by simp, by unfold maxLen; omega, ?_, ?_⟩⟩, ?_⟩
  · rw [hl]; simp
  · rw [size_madeCells]; simp
  · rw [hl, toList_madeCells_one]; simp
  · intro c hc
    obtain ⟨b, _, rfl⟩ := List.mem_map.1 hc
    rfl

theorem heap_setW {w : World} {gb j : Nat} {cur : Array Value} {e : TypeId} {fz : Nat × Nat} {u : Value} (h : w.heap[gb]? = some (.cells cur e fz)) : (w.setCell ⟨gb, j, none⟩ u).heap[gb]? = some (.cells (cur.setIfInBounds j u) e fz) := set_at h j u

theorem flatten_setW {css : List (List Value)} {u : Value} (h : ∀ c ∈ css, c.length = 1) : ∀ {k : Nat}, (css.set k [u]).flatten = css.flatten.set k u := by
  induction css with
  | nil => intro k; rfl
  | cons c r ih =>
    intro k
    obtain ⟨v, rfl⟩ : ∃ v, c = [v] := by
      have := h c (by simp)
      match c, this with
      | [v], _ => exact ⟨v, rfl⟩
    cases k with
    | zero => rfl
    | succ k =>
      simp only [List.set_cons_succ, List.flatten_cons, List.singleton_append]
      rw [ih (fun c hc => h c (by simp [hc]))]

theorem own_storeW {w : World} {B e gb n cap k : Nat} {css : List (List Value)} {u : Value} (h : Own w B e 1 (.slice (some ⟨gb, 0, none⟩) n cap) css) (hk : k < css.length) : Own (w.setCell ⟨gb, k, none⟩ u) B e 1 (.slice (some ⟨gb, 0, none⟩) n cap) (css.set k [u]) := by
  rcases h.1.2 with ⟨hv, h0⟩ | ⟨g, cap', cur, hv, hb, hg, hn, hm, hs, ht⟩
  · cases hv
  · simp only [Value.slice.injEq, Option.some.injEq, Addr.mk.injEq, and_true] at hv
    obtain ⟨rfl, rfl, rfl⟩ := hv
    refine ⟨⟨?_, .inr ⟨gb, cap, cur.setIfInBounds k u, by rw [List.length_set], hb, heap_setW hg, by rw [List.length_set]; exact hn, hm, by simpa using hs, ?_⟩⟩, ?_⟩
    · rw [flatten_setW h.2, List.length_set, List.length_set]
      exact h.1.1
    · rw [flatten_setW h.2, ← ht, List.length_set, Array.toList_setIfInBounds, List.take_set]
    · intro c hc
      rcases List.mem_or_eq_of_mem_set hc with hc | rfl
      · exact h.2 c hc
      · rfl

/-- a cell of an owned row of one-celled elements, and that it may be written -/
theorem own_cellW {w : World} {B e gb n cap k : Nat} {css : List (List Value)} {u : Value} (h : Own w B e 1 (.slice (some ⟨gb, 0, none⟩) n cap) css) (hk : css[k]? = some [u]) : w.cell? ⟨gb, k, none⟩ = some u ∧ w.frozen? ⟨gb, k, none⟩ = false := by
  rcases h.1.2 with ⟨hv, h0⟩ | ⟨g, cap', cur, hv, hb, hg, hn, hm, hs, ht⟩
  · cases hv
  · simp only [Value.slice.injEq, Option.some.injEq, Addr.mk.injEq, and_true] at hv
    obtain ⟨rfl, rfl, rfl⟩ := hv
    refine ⟨?_, Lib.frozen_of_heap hg k⟩
    have := h.1.cells (g := gb) rfl (k * 1 + 0) u (flatten_at h.2 hk rfl)
    rw [Addr.add_lit] at this
    simpa using this

/-- what holds between the tokens of a body -/
structure WZ (W : World) (m : Mac) (n : Nat) (g1 g2 : Nat) (i : Nat) (rs fs : List Bool) (wr : World) : Prop where
  r : Own wr W.heap.size 4 1 (.slice (some ⟨g1, 0, none⟩) n n) (rs.map boolC)
  f : Own wr W.heap.size 4 1 (.slice (some ⟨g2, 0, none⟩) n n) (fs.map boolC)
  ne : g1 ≠ g2
  rl : rs.length = n
  fl : fs.length = n
  low : Below W.heap.size W wr
  run : wantsZ m i (m.body.drop i) (rs, fs) = wantsZ m 0 m.body (List.replicate n false, List.replicate n false)

theorem of_ltW {fn : Bool} {ps : List ByteArray} {t : Tm} (h : ¬ ofP fn ps t < 0) : ofP fn ps t < ps.length := by
  have step : ∀ (x : ByteArray) (zs : List ByteArray) (i : Nat), Lib.idxFromS zs x i = match zs with | [] => -1 | z :: r => if z = x then (i : Int) else Lib.idxFromS r x (i + 1) := by
    intro x zs i
    cases zs with
    | nil => rfl
    | cons z r => by_cases h : z = x <;> simp [Lib.idxFromS, h]
  unfold ofP at h ⊢
  split
  · rename_i hc; rw [if_pos hc] at h; omega
  · unfold Lib.idxOfS
    have : ∀ (zs : List ByteArray) (i : Nat), Lib.idxFromS zs t.text i < i + zs.length := by
      intro zs
      induction zs with
      | nil => intro i; simp [Lib.idxFromS]; omega
      | cons z r ih =>
        intro i
        rw [step]
        simp only
        split
        · simp; omega
        · have := ih (i + 1)
          simp
          omega
    have := this ps 0
    omega

theorem wz_start (W1 : World) (m : Mac) (pn : Nat) (CB : Array Value) (hOm : ∀ W : World, Own (W.alloc (.cells CB 4)) W.heap.size 4 1 (.slice (some ⟨W.heap.size, 0, none⟩) pn pn) ((List.replicate pn false).map boolC)) :
    WZ W1 m pn W1.heap.size (W1.heap.size + 1) 0 (List.replicate pn false) (List.replicate pn false) ((W1.alloc (.cells CB 4)).alloc (.cells CB 4)).drew ∧
    WZ W1 m pn (W1.heap.size + 1) W1.heap.size 0 (List.replicate pn false) (List.replicate pn false) ((W1.alloc (.cells CB 4)).alloc (.cells CB 4)).drew := by
  have h1 : Own ((W1.alloc (.cells CB 4)).alloc (.cells CB 4)).drew W1.heap.size 4 1 (.slice (some ⟨W1.heap.size, 0, none⟩) pn pn) ((List.replicate pn false).map boolC) := ((hOm W1).alloc _).drew
  have h2 : Own ((W1.alloc (.cells CB 4)).alloc (.cells CB 4)).drew W1.heap.size 4 1 (.slice (some ⟨W1.heap.size + 1, 0, none⟩) pn pn) ((List.replicate pn false).map boolC) := by
    have := (hOm (W1.alloc (.cells CB 4))).drew
    rw [World.size_alloc] at this
    exact this.mono (by omega)
  have hb : Below W1.heap.size W1 ((W1.alloc (.cells CB 4)).alloc (.cells CB 4)).drew := (((Below.refl _ W1).alloc (Nat.le_refl _) _).alloc (by simp) _).drew
  exact ⟨⟨h1, h2, by omega, by simp, by simp, hb, by rw [List.drop_zero]⟩, ⟨h2, h1, by omega, by simp, by simp, hb, by rw [List.drop_zero]⟩⟩

set_option maxHeartbeats 2000000 in
set_option maxRecDepth 100000 in
theorem sWants_any (m : Mac) (T : List (Tm × Value)) (pao : Option Addr) (pcap : Nat) (bao : Option Addr) (bcap : Nat) (w : World) (hps : Row w 1 pao (m.params.map fun p => [.string p])) (hpl : m.params.length ≤ 1000000) (hrow : Row w 8 bao (T.map tvC)) (hlen : T.length ≤ 1000000) (hcap : T.length ≤ bcap) (hsl : ∀ p ∈ T, SlV p.2) (hbody : T.map (·.1) = m.body) :
    Calls Tryz.prog 56 #[.agg #[.string m.name, .bool m.fn, .bool m.va, .slice pao m.params.length pcap, .slice bao T.length bcap, .string m.file, .int .i64 m.f, .int .i64 m.t]] w fun e w' => (∃ vr vf, e = .returned (.tuple #[vr, vf]) ∧ Own w' w.heap.size 4 1 vr ((wantsZ m 0 m.body (List.replicate m.params.length false, List.replicate m.params.length false)).1.map boolC) ∧ Own w' w.heap.size 4 1 vf ((wantsZ m 0 m.body (List.replicate m.params.length false, List.replicate m.params.length false)).2.map boolC)) ∧ Below w.heap.size w w' := by
  obtain ⟨W1, hW1⟩ : ∃ W1, W1 = w.alloc (.cells #[.string m.name, .bool m.fn, .bool m.va, .slice pao m.params.length pcap, .slice bao T.length bcap, .string m.file, .int .i64 m.f, .int .i64 m.t] 53) := ⟨_, rfl⟩
  have b1 : Below w.heap.size w W1 := by rw [hW1]; exact (Below.refl _ w).alloc (Nat.le_refl _) _
  have hc1 : W1.heap[w.heap.size]? = some (.cells #[.string m.name, .bool m.fn, .bool m.va, .slice pao m.params.length pcap, .slice bao T.length bcap, .string m.file, .int .i64 m.f, .int .i64 m.t] 53 (0, 0)) := by rw [hW1]; exact heap_alloc_new w _
  have hM1 : MH w.heap.size m T pao pcap bao bcap W1 := ⟨⟨(0, 0), hc1⟩, hps.below b1, hpl, hrow.below b1, hlen, hcap, hsl, hbody⟩
  obtain ⟨pn, hpn⟩ : ∃ q, q = m.params.length := ⟨_, rfl⟩
  obtain ⟨n, hn⟩ : ∃ q, q = T.length := ⟨_, rfl⟩
  have HN : Hid (T.length = n) := Lib.hid hn.symm
  have HB : Hid (m.body.length = n) := Lib.hid (by rw [hn, ← hbody, List.length_map])
  rw [← hpn] at hpl hW1 hc1 ⊢
  rw [← hn] at hlen hcap hW1 hc1 ⊢
  have mkB := run_make_row' (P := Tryz.prog) 104 4 (.bool false) 1 Tryz.underlying104 infoBoolW rfl .i64 .i64 pn (by omega) (by omega)
  obtain ⟨CB, hCB⟩ : ∃ C, C = madeCells #[Value.bool false] pn := ⟨_, rfl⟩
  have hOm := fun W => own_made W pn hpl
  rw [← hCB] at mkB hOm
  replace hCB := Lib.hid hCB
  have HC : Hid (∀ x, Below W1.heap.size W1 x → x.cell? ⟨w.heap.size, 3, none⟩ = some (.slice pao pn pcap) ∧ x.cell? ⟨w.heap.size, 4, none⟩ = some (.slice bao n bcap)) := Lib.hid fun x hx => by
    have := (hx.block _ (lt_of_block hc1)).trans hc1
    exact ⟨(cells8 this).2.2.2.1, (cells8 this).2.2.2.2.1⟩
  obtain ⟨c3, c4⟩ := HC.out W1.drew ((Below.refl _ W1).drew)
  have c3a := fun o => (HC.out (W1.alloc o).drew (((Below.refl _ W1).alloc (Nat.le_refl _) o).drew)).1
  replace b1 := Lib.hid b1
  replace hM1 := Lib.hid hM1
  replace hOm := Lib.hid hOm
  clear hps hrow hsl hbody hn hc1
  replace hpn := Lib.hid hpn
  go_enter Tryz.func56, Tryz.ntmps56
  go_upto_region 1 with fail
  rw [← hW1]
  replace hW1 := Lib.hid hW1
  go_cut [2, 3] from 7 to 14 (fun s2 s3 wx => ∃ g1 g2, s2 = .slice (some ⟨g1, 0, none⟩) pn pn ∧ s3 = .slice (some ⟨g2, 0, none⟩) pn pn ∧ Hid (WZ W1 m pn g1 g2 0 (List.replicate pn false) (List.replicate pn false) wx))
  case first =>
    go_region
    all_goals
      go_wp2_with fail
      go_meet
      case rel => first | exact ⟨_, _, rfl, rfl, Lib.hid (wz_start W1 m pn CB hOm.out).1⟩ | exact ⟨_, _, rfl, rfl, Lib.hid (wz_start W1 m pn CB hOm.out).2⟩
  case rest =>
    obtain ⟨g1, g2, rfl, rfl, hZ0⟩ := hcut
    clear c3 c4 c3a
    obtain ⟨c3, c4⟩ := HC.out wc hZ0.out.low
    go_wp2_with fail
    go_loopg [18] n (fun u i18 wr => ∃ (i : Nat) (rs fs : List Bool), u = n - i ∧ i ≤ n ∧ i18 = .int .i64 i ∧ Hid (WZ W1 m pn g1 g2 i rs fs wr))
    case atStart => exact ⟨0, _, _, rfl, Nat.zero_le _, rfl, hZ0⟩
    case round =>
      obtain ⟨i, rs, fs, rfl, hi, rfl, hZ⟩ := hrel
      clear c3 c4
      obtain ⟨c3, c4⟩ := HC.out wr hZ.out.low
      by_cases hin : i < n
      · have hin' : (i : Int) < n := by omega
        obtain ⟨bb, bo, t, sa, sn, sc, rfl, hT, hB, t0, t1, t2, t3, t4, t5, t6, t7⟩ := (hM1.out.below hZ.out.low).tok (i := i) (by rw [HN.out]; exact hin)
        have hdr : m.body.drop i = t :: m.body.drop (i + 1) := by
          rw [List.drop_eq_getElem_cons (by rw [HB.out]; exact hin), (List.getElem?_eq_some_iff.1 hB).2]
        have hrun := hZ.out.run
        rw [hdr, wantsZ] at hrun
        obtain ⟨W2, hW2⟩ : ∃ W2, W2 = wr.alloc (.cells #[.int .i64 t.kind, .string t.text, .bool t.sp, .string t.file, .int .i64 t.f, .int .i64 t.t, .bool t.made, .slice sa sn sc] 34) := ⟨_, rfl⟩
        have b2 : Below wr.heap.size wr W2 := by rw [hW2]; exact (Below.refl _ wr).alloc (Nat.le_refl _) _
        have hlow2 : Below W1.heap.size W1 W2 := hZ.out.low.trans (b2.mono hZ.out.low.size)
        have h2 : W2.heap[wr.heap.size]? = some (.cells #[.int .i64 t.kind, .string t.text, .bool t.sp, .string t.file, .int .i64 t.f, .int .i64 t.t, .bool t.made, .slice sa sn sc] 34 (0, 0)) := by rw [hW2]; exact heap_alloc_new wr _
        have HOf := (hM1.out.below hlow2).of t (.slice sa sn sc)
        obtain ⟨xo, hxo⟩ : ∃ xo, xo = ofP m.fn m.params t := ⟨_, rfl⟩
        have hlt := fun h => of_ltW (fn := m.fn) (ps := m.params) (t := t) h
        rw [← hxo] at HOf hrun hlt
        replace hlow2 := Lib.hid hlow2
        replace HOf := Lib.hid HOf
        replace hrun := Lib.hid hrun
        replace hT := Lib.hid hT
        replace hB := Lib.hid hB
        replace hdr := Lib.hid hdr
        replace hxo := Lib.hid hxo
        replace hlt := Lib.hid hlt
        obtain ⟨k0, k1, k2, k3, k4, k5, k6, k7⟩ := cells8 h2
        replace h2 := Lib.hid h2
        replace b2 := Lib.hid b2
        go_upto_region 5 with fail
        rw [← hW2]
        replace hW2 := Lib.hid hW2
        go_wp2_with fail
        refine HOf.out.mono ?_
        rintro e w3 ⟨rfl, hb3⟩
        have b3 : Below wr.heap.size wr w3 := b2.out.trans (hb3.mono b2.out.size)
        have hlow3 : Below W1.heap.size W1 w3 := hZ.out.low.trans (b3.mono hZ.out.low.size)
        have f4 : Hid (n - (i + 1) < n - i) := Lib.hid (by omega)
        by_cases hneg : xo < 0
        · have hru := hrun.out
          rw [if_pos hneg] at hru
          replace hru := Lib.hid hru
          go_wp2_with fail
          go_roundg (n - (i + 1))
          case measure => exact f4.out
          case rel => exact ⟨i + 1, rs, fs, rfl, hin, by go_num, Lib.hid ⟨hZ.out.r.below b3, hZ.out.f.below b3, hZ.out.ne, hZ.out.rl, hZ.out.fl, hlow3, hru.out⟩⟩
        · obtain ⟨kp, hkp⟩ : ∃ kp : Nat, xo = kp := ⟨xo.toNat, by omega⟩
          have hkl := hlt.out (by omega)
          subst hkp
          have hkl2 : kp < pn := by rw [hpn.out]; omega
          have hkl3 : (kp : Int) < pn := by omega
          have hru := hrun.out
          rw [if_neg hneg, Int.toNat_natCast] at hru
          have HRw := sRaw_any w.heap.size m T pao pcap (some ⟨bb, bo, none⟩) bcap i (by rw [HN.out]; exact hin) w3 (hM1.out.below hlow3)
          cases hrw : rawP m.body i with
          | true =>
            rw [hrw] at HRw hru
            simp only [if_true] at hru
            replace HRw := Lib.hid HRw
            replace hru := Lib.hid hru
            replace hrw := Lib.hid hrw
            go_wp2_with fail
            refine HRw.out.mono ?_
            rintro e w4 ⟨rfl, hb4⟩
            have b4 : Below wr.heap.size wr w4 := b3.trans (hb4.mono b3.size)
            have hlow4 : Below W1.heap.size W1 w4 := hZ.out.low.trans (b4.mono hZ.out.low.size)
            have hr4 := hZ.out.r.below b4
            have hf4 := hZ.out.f.below b4
            obtain ⟨bv, hbv⟩ : ∃ bv, rs[kp]? = some bv := ⟨_, List.getElem?_eq_getElem (by rw [hZ.out.rl]; exact hkl2)⟩
            obtain ⟨y0, y1⟩ := own_cellW hr4 (k := kp) (u := .bool bv) (by rw [List.getElem?_map, hbv]; rfl)
            have hge := hr4.ge g1 rfl
            replace hbv := Lib.hid hbv
            go_wp2_with fail
            go_roundg (n - (i + 1))
            case measure => exact f4.out
            case rel =>
              refine ⟨i + 1, rs.set kp true, fs, rfl, hin, by go_num, Lib.hid ⟨?_, ?_, hZ.out.ne, by rw [List.length_set]; exact hZ.out.rl, hZ.out.fl, hlow4.setCell (p := ⟨g1, kp, none⟩) hge _, hru.out⟩⟩
              · have := own_storeW (u := .bool true) hr4 (k := kp) (by rw [List.length_map, hZ.out.rl]; exact hkl2)
                rw [List.map_set]
                exact this
              · exact hf4.kept (set_grown _ _ _ _) (.inr (by simp [Value.ownBlock]; exact fun e => hZ.out.ne e.symm))
          | false =>
            rw [hrw] at HRw hru
            simp only [Bool.false_eq_true, if_false] at hru
            replace HRw := Lib.hid HRw
            replace hru := Lib.hid hru
            replace hrw := Lib.hid hrw
            go_wp2_with fail
            refine HRw.out.mono ?_
            rintro e w4 ⟨rfl, hb4⟩
            have b4 : Below wr.heap.size wr w4 := b3.trans (hb4.mono b3.size)
            have hlow4 : Below W1.heap.size W1 w4 := hZ.out.low.trans (b4.mono hZ.out.low.size)
            have hr4 := hZ.out.r.below b4
            have hf4 := hZ.out.f.below b4
            obtain ⟨bv, hbv⟩ : ∃ bv, fs[kp]? = some bv := ⟨_, List.getElem?_eq_getElem (by rw [hZ.out.fl]; exact hkl2)⟩
            obtain ⟨y0, y1⟩ := own_cellW hf4 (k := kp) (u := .bool bv) (by rw [List.getElem?_map, hbv]; rfl)
            have hge := hf4.ge g2 rfl
            replace hbv := Lib.hid hbv
            go_wp2_with fail
            go_roundg (n - (i + 1))
            case measure => exact f4.out
            case rel =>
              refine ⟨i + 1, rs, fs.set kp true, rfl, hin, by go_num, Lib.hid ⟨?_, ?_, hZ.out.ne, hZ.out.rl, by rw [List.length_set]; exact hZ.out.fl, hlow4.setCell (p := ⟨g2, kp, none⟩) hge _, hru.out⟩⟩
              · exact hr4.kept (set_grown _ _ _ _) (.inr (by simp [Value.ownBlock]; exact fun e => hZ.out.ne e))
              · have := own_storeW (u := .bool true) hf4 (k := kp) (by rw [List.length_map, hZ.out.fl]; exact hkl2)
                rw [List.map_set]
                exact this
      · obtain rfl : i = n := by omega
        have hin' : ¬ (i : Int) < i := by omega
        have hrun := hZ.out.run
        rw [List.drop_eq_nil_of_le (by rw [HB.out]; omega), wantsZ] at hrun
        replace hrun := Lib.hid hrun
        go_wp2
        go_ret2
        rw [← hrun.out]
        exact ⟨⟨_, _, rfl, hZ.out.r.mono b1.out.size, hZ.out.f.mono b1.out.size⟩, b1.out.trans (hZ.out.low.mono b1.out.size)⟩
end Go.Proofs.YtfaoamdlknlgpaaGreat
