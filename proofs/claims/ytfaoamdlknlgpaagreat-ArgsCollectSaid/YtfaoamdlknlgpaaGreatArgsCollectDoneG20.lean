/- Texts of this seat's proofs, laid into one file. -/
import Derived.Test.YtfaoamdlknlgpaaGreatArgsCollectDoneG10
import Derived.Test.YtfaoamdlknlgpaaGreatArgsCollectDoneG11
import Derived.Deep.Cut
import Derived.Deep.CutRange
/- oxbowref4's Lines: the walk. -/
namespace Go.Proofs.YtfaoamdlknlgpaaGreat
open Go.RowKit
set_option linter.unusedVariables false

theorem rF_atX {R : List Rn} {i : Nat} {r : Rn} (h : R[i]? = some r) : rF R i = r.f := by simp [rF, h]
theorem rT_atX {R : List Rn} {i : Nat} {r : Rn} (h : R[i]? = some r) : rT R i = r.t := by simp [rT, h]

theorem line_cells {w : World} {b : Nat} {a0 a1 a2 a3 : Value} {e : TypeId} {fz : Nat × Nat} (h : w.heap[b]? = some (.cells #[a0, a1, a2, a3] e fz)) :
    w.cell? ⟨b, 0, none⟩ = some a0 ∧ w.cell? ⟨b, 1, none⟩ = some a1 ∧ w.cell? ⟨b, 2, none⟩ = some a2 ∧ w.cell? ⟨b, 3, none⟩ = some a3 :=
  ⟨by simpa using Lib.cell_of_heap h 0, by simpa using Lib.cell_of_heap h 1, by simpa using Lib.cell_of_heap h 2, by simpa using Lib.cell_of_heap h 3⟩

theorem span_cells {w : World} {b : Nat} {a0 a1 a2 : Value} {e : TypeId} {fz : Nat × Nat} (h : w.heap[b]? = some (.cells #[a0, a1, a2] e fz)) :
    w.cell? ⟨b, 0, none⟩ = some a0 ∧ w.cell? ⟨b, 1, none⟩ = some a1 ∧ w.cell? ⟨b, 2, none⟩ = some a2 :=
  ⟨by simpa using Lib.cell_of_heap h 0, by simpa using Lib.cell_of_heap h 1, by simpa using Lib.cell_of_heap h 2⟩

theorem LsAt.diag {w0 w w' : World} {H : Nat} {file : ByteArray} {s : LS} {vo vd vn vd' : Value} {d : Dg} (h : LsAt w0 w H file s vo vd vn) (h5 : Own w' (H + 1) 68 4 vd' (s.diags.map (dgC file) ++ [dgC file d])) (hg : w.grownBy w' vd.ownBlock) :
    LsAt w0 w' H file ⟨s.i, s.toks, s.from_, s.space, s.out, s.diags ++ [d]⟩ vo vd' vn := by
  obtain ⟨⟨S, lcs, h1, h2, h3, h4, h5'⟩, h6, h7, h8⟩ := h
  have hoth := others_app h6 hg
  refine ⟨⟨S, lcs, h1, Nat.le_trans h2 hg.size, own_kt0 h3 (by decide) hoth, own_kt0 h4 (by decide) hoth, h5'.kept (KeptTok.others hoth (by decide) (by simp))⟩, ?_, ?_, bapp h8 (h6.mono (Nat.le_succ _)) hg (Nat.le_of_lt (lt_of_block h7))⟩
  · rw [List.map_append]; exact h5
  · exact (hg.block _ (lt_of_block h7) (by intro e; have := h6.ge _ e.symm; omega)).trans h7

theorem info_line : ((Tryz.prog).info? 101).map (·.size) = some 4 := by kernel_rfl

set_option maxHeartbeats 4000000 in
set_option maxRecDepth 100000 in
theorem rLines_any (file s : ByteArray) (hs : s.size ≤ 1000000) (w : World) :
    Calls Tryz.prog 53 #[.string file, .string s] w fun e w' => ∃ vo vd lcs, e = .returned (.tuple #[vo, vd]) ∧ Own w' w.heap.size 101 4 vo lcs ∧ LnsAt w' w'.heap.size file (linesL s.data.toList).1 lcs ∧ Own w' w.heap.size 68 4 vd ((linesL s.data.toList).2.map (dgC file)) ∧ Below w.heap.size w w' := by
  have HLL : Hid (linesL s.data.toList = linesFrom (charsL s.data.toList) s.size ⟨0, [], 0, false, [], []⟩) := Lib.hid (by unfold linesL linesFrom; rw [← Lib.size_eq])
  have hRl : (charsL s.data.toList).length ≤ s.size + 1 := by rw [Lib.size_eq]; exact charsL_len _
  go_enter Tryz.func53, Tryz.ntmps53
  go_wp2_with fail
  refine (rchars_any s hs _).mono ?_
  rintro e w1 ⟨v1, rfl, hown1, hb1⟩
  obtain ⟨R, hR⟩ : ∃ R, R = charsL s.data.toList := ⟨_, rfl⟩
  rw [← hR] at HLL hRl hown1
  clear hR
  obtain ⟨n, hnn⟩ : ∃ n, n = R.length := ⟨_, rfl⟩
  have HN2 : Hid (R.length = n) := Lib.hid hnn.symm
  rw [← hnn] at hRl
  obtain ⟨ao, cap, rfl, hcap, _, hrow, _⟩ := hown1.rown (n := n) (by rw [List.length_map, hnn])
  clear hown1 hnn
  have HRW : Hid (∀ w', Below w1.heap.size w1 w' → Row w' 3 ao (R.map Rn.v)) := Lib.hid (fun w' h => hrow.below h)
  have HI : LsAt w1 (w1.alloc (.cells #[.slice none 0 0, .int .i64 0, .int .i64 0, .bool false] 101)) w1.heap.size file ⟨0, [], 0, false, [], []⟩ (.slice none 0 0) (.slice none 0 0) (.slice none 0 0) :=
    ⟨⟨w1.heap.size + 1, [], Nat.le_refl _, by simp, Own.nil _ _ _ _, Own.nil _ _ _ _, .nil⟩, Own.nil _ _ _ _, heap_alloc_new w1 _, (Below.refl _ _).alloc (Nat.le_refl _) _⟩
  clear hrow
  go_wp2_with fail
  go_loopg [7, 8, 10, 11] n (fun q v7 v8 v10 v11 wr => ∃ (st : LS) (vo vd vn : Value), q = n - st.i ∧ st.i ≤ n ∧ vo = v7 ∧ vd = v8 ∧ v10 = .bool st.space ∧ v11 = .int .i64 st.i ∧ LsAt w1 wr w1.heap.size file st vo vd vn ∧ Hid (linesL s.data.toList = linesFrom R s.size st) ∧ st.toks.length ≤ st.i ∧ st.out.length ≤ st.i ∧ st.diags.length ≤ st.i)
  case atStart => exact ⟨⟨0, [], 0, false, [], []⟩, _, _, _, rfl, Nat.zero_le _, rfl, rfl, rfl, rfl, HI, HLL, Nat.le_refl _, Nat.le_refl _, Nat.le_refl _⟩
  case round =>
    obtain ⟨st, vo, vd, vn, rfl, hi, rfl, rfl, rfl, rfl, hls, hres, hlt1, hlt2, hlt3⟩ := hrel
    by_cases hlt : st.i < n
    · have hrow := HRW.out _ hls.below
      have hne : R.map Rn.v ≠ [] := by intro h; simp at h; have := HN2.out; rw [h] at this; simp at this; omega
      obtain ⟨r, hr⟩ : ∃ r, R[st.i]? = some r := ⟨R[st.i]'(by rw [HN2.out]; exact hlt), by simp⟩
      obtain ⟨rb, ro, rfl, hat⟩ := hrow hne
      have c0 := hat.cell (i := st.i) (cs := r.v) (by simp [hr]) (j := 0) (u := .int .u8 r.c.toNat) rfl
      have c1 := hat.cell (i := st.i) (cs := r.v) (by simp [hr]) (j := 1) (u := .int .i64 r.f) rfl
      have c2 := hat.cell (i := st.i) (cs := r.v) (by simp [hr]) (j := 2) (u := .int .i64 r.t) rfl
      simp only [Nat.add_zero] at c0
      have hca := cs_at hr
      have hinl := fun s' h => linesFrom_inl (s := st) (s' := s') (R := R) (n := s.size) (by rw [HN2.out]; exact hlt) h
      have hstep : Hid (∀ y, lineStep R s.size st = y → lineStep R s.size st = y) := Lib.hid (fun _ h => h)
      obtain ⟨x, hx⟩ : ∃ x : Int, x = (r.c.toNat : Int) := ⟨_, rfl⟩
      rw [← hx] at c0
      by_cases hx10 : x = 10
      · subst hx10
        have hc10 : chAt (cs R) st.i = 10 := by rw [hca]; exact (u8eq _ _).2 hx.symm
        have HS : Hid (linesL s.data.toList = linesFrom R s.size ⟨st.i + 1, [], rT R st.i, false, st.out ++ [⟨st.toks, st.from_, rT R st.i, false⟩], st.diags⟩) := Lib.hid (hres.out.trans (hinl _ (by unfold lineStep; rw [if_pos hc10])))
        rw [rT_atX hr] at HS
        clear hinl hc10 hca hx hres
        obtain ⟨⟨S, lcs, hS1, hS2, hn, ho, hlns⟩, hd, hh, hb⟩ := hls
        obtain ⟨nao, ncap, rfl, _, _, _, _⟩ := hn.rown (n := st.toks.length) (by simp)
        obtain ⟨d0, d1, d2, d3⟩ := line_cells hh
        have hf := fun j => Lib.frozen_of_heap hh j
        have hol := hlns.len
        have hoH : vo.ownBlock ≠ some w1.heap.size := by intro e; have := ho.ge _ e; omega
        have ho2 : Own (wr.setCell ⟨w1.heap.size, 2, none⟩ (.int .i64 r.t)) (w1.heap.size + 1) 101 4 vo lcs := ⟨ownsRow_setCell_other ho.1 hoH _, ho.2⟩
        have hh2 := setCell_eq_setRow wr w1.heap.size 2 _ _ _ (.int .i64 r.t) hh
        have hb2 : Below w1.heap.size w1 (wr.setCell ⟨w1.heap.size, 2, none⟩ (.int .i64 r.t)) := hb.setCell (Nat.le_refl _) _
        have hlen1 : lcs.length + 1 ≤ 1000000000 := by rw [hol]; omega
        have hsz2 : w1.heap.size + 1 ≤ (wr.setCell ⟨w1.heap.size, 2, none⟩ (.int .i64 r.t)).heap.size := by have := lt_of_block hh; simp [World.setCell]; omega
        replace hh2 := Lib.hid hh2
        replace hr := Lib.hid hr
        go_wp2_with (first
          | (at_builtin; go_must (refine wpList_append1 E101 rfl rfl ho2 rfl rfl (news := [.slice nao st.toks.length ncap, .int .i64 st.from_, .int .i64 r.t, .bool false]) (by simp [World.setCell]) rfl (by simp [Value.oneCell']) hlen1 (by decide) hsz2 ?_); intro v7 w7 hown7 hg7; have hb7 := bapp hb2 (ho2.mono (Nat.le_succ _)) hg7 (Nat.le_of_succ_le hsz2); have hr7 := HRW.out _ hb7; obtain ⟨rb7, ro7, e7, hat7⟩ := hr7 hne; obtain ⟨rfl, rfl⟩ : rb = rb7 ∧ ro = ro7 := by (simp at e7; exact e7)
             have c27 := hat7.cell (i := st.i) (cs := r.v) (by simp [hr.out]) (j := 2) (u := .int .i64 r.t) rfl
             have hh7 : w7.heap[w1.heap.size]? = some (.cells #[.slice nao st.toks.length ncap, .int .i64 st.from_, .int .i64 r.t, .bool false] 101 (0, 0)) := by (rw [hg7.block _ (by omega) (fun e => hoH e.symm), hh2.out, setRow_heap _ _ _ _ _ _ hh]; rfl))
          | (refine wpList_store_row rfl 101 (.tmp 9) (.tmp 45) rfl w1.heap.size _ rfl rfl 101 _ hh7 info_line rfl (by simp [Value.oneCell']) ?_))
        go_roundg (n - (st.i + 1))
        case measure => omega
        case rel =>
          have hk2 : ∀ S', KeptTok S' (wr.setCell ⟨w1.heap.size, 2, none⟩ (.int .i64 r.t)) w7 := fun S' => KeptTok.others (others_app ho2 hg7) (by decide) (by simp)
          have hk : ∀ S', KeptTok S' wr (w7.setRow w1.heap.size #[.slice none 0 0, .int .i64 r.t, .int .i64 0, .bool false]) := fun S' => ((KeptTok.setCell hh (by decide) _ _).trans (hk2 S')).trans (KeptTok.setRow hh7 (by decide) _)
          have hsz : wr.heap.size ≤ (w7.setRow w1.heap.size #[.slice none 0 0, .int .i64 r.t, .int .i64 0, .bool false]).heap.size := by
            have := hg7.size
            simp [World.setCell] at this ⊢
            exact this
          refine ⟨⟨st.i + 1, [], r.t, false, st.out ++ [⟨st.toks, st.from_, r.t, false⟩], st.diags⟩, v7, vd, .slice none 0 0, rfl, (show st.i + 1 ≤ n by omega), rfl, rfl, rfl, by go_num, ⟨⟨wr.heap.size, lcs ++ [[.slice nao st.toks.length ncap, .int .i64 st.from_, .int .i64 r.t, .bool false]], by omega, hsz, Own.nil _ _ _ _, hown7.rowBelow (Nat.lt_succ_self _) _, ((hlns.mono hS2).kept (hk _)).snoc ((LnAt.of_own hn st.from_ r.t false).kept (hk _))⟩, ?_, setRow_heap _ _ _ _ _ _ hh7, Below.row hb7 (Nat.le_refl _) _⟩, HS, Nat.zero_le _, by simp; omega, by simp; omega⟩
          exact (own_kt0 (hd.setBelow (Nat.lt_succ_self _) _) (by decide) (others_app ho2 hg7)).rowBelow (Nat.lt_succ_self _) _
      · have hx10' : (x == 10) = false := by simpa using hx10
        have hc10 : ¬ chAt (cs R) st.i = 10 := by rw [hca]; intro e; exact hx10 (hx.trans ((u8eq _ _).1 e))
        have HW := rWhite_any (chAt (cs R) st.i) wr
        have HCM := rcomment_any R (some ⟨rb, ro, none⟩) cap st.i (by rw [HN2.out]; omega) (by rw [HN2.out]; omega) wr hrow
        rw [HN2.out] at HCM
        obtain ⟨wb, hwb⟩ : ∃ b, b = whiteB (chAt (cs R) st.i) := ⟨_, rfl⟩
        rw [← hwb, hca, ← hx] at HW
        replace HW := Lib.hid HW
        cases wb with
        | true =>
          have HS : Hid (linesL s.data.toList = linesFrom R s.size ⟨st.i + 1, st.toks, st.from_, true, st.out, st.diags⟩) := Lib.hid (hres.out.trans (hinl _ (by unfold lineStep; rw [if_neg hc10, if_pos hwb.symm])))
          clear hinl hc10 hca hx hres HCM hwb hr hat hrow
          go_wp2_with fail
          refine HW.out.mono ?_
          rintro e w' ⟨rfl, rfl⟩
          go_wp2_with fail
          go_roundg (n - (st.i + 1))
          case measure => omega
          case rel => exact ⟨⟨st.i + 1, st.toks, st.from_, true, st.out, st.diags⟩, vo, vd, vn, rfl, (show st.i + 1 ≤ n by omega), rfl, rfl, rfl, by go_num, ⟨hls.lines, hls.diags, hls.here, hls.below⟩, HS, Nat.le_succ_of_le hlt1, Nat.le_succ_of_le hlt2, Nat.le_succ_of_le hlt3⟩
        | false =>
          obtain ⟨⟨cj, co⟩, hcm⟩ : ∃ p, p = commentL (cs R) st.i := ⟨_, rfl⟩
          rw [← hcm] at HCM
          have hcl := commentL_len (A := cs R) (i := st.i) (by rw [cs_len, HN2.out]; exact hlt)
          rw [← hcm, cs_len, HN2.out] at hcl
          simp only at hcl HCM
          replace HCM := Lib.hid HCM
          have hw0 : ¬ whiteB (chAt (cs R) st.i) = true := by rw [← hwb]; decide
          replace hw0 := Lib.hid hw0
          replace hc10 := Lib.hid hc10
          replace hcm := Lib.hid hcm
          replace hr := Lib.hid hr
          clear hx hca hwb
          go_wp2_with fail
          refine HW.out.mono ?_
          rintro e w' ⟨rfl, rfl⟩
          go_wp2_with fail
          refine HCM.out.mono ?_
          rintro e w' ⟨rfl, rfl⟩
          by_cases hcj : st.i < cj
          · have hcji : (st.i : Int) < cj := by omega
            cases co with
            | false =>
              have HS : Hid (linesL s.data.toList = linesFrom R s.size ⟨cj, st.toks, st.from_, true, st.out, st.diags⟩) := Lib.hid (hres.out.trans (hinl _ (by unfold lineStep; rw [if_neg hc10.out, if_neg hw0.out, ← hcm.out, if_pos hcj]; rfl)))
              clear hinl hc10 hres hr hat hrow hw0 hcm
              go_wp2_with fail
              go_roundg (n - cj)
              case measure => omega
              case rel => exact ⟨⟨cj, st.toks, st.from_, true, st.out, st.diags⟩, vo, vd, vn, rfl, (show cj ≤ n by omega), rfl, rfl, rfl, by go_num, ⟨hls.lines, hls.diags, hls.here, hls.below⟩, HS, Nat.le_trans hlt1 hcl.1, Nat.le_trans hlt2 hcl.1, Nat.le_trans hlt3 hcl.1⟩
            | true =>
              have hi1 : st.i + 1 < n := by have := com_open (A := cs R) (i := st.i) (by rw [← hcm.out]); rw [cs_len, HN2.out] at this; exact this
              obtain ⟨r2, hr2⟩ : ∃ r, R[st.i + 1]? = some r := ⟨R[st.i + 1]'(by rw [HN2.out]; exact hi1), by simp⟩
              have e2 := hat.cell (i := st.i + 1) (cs := r2.v) (by simp [hr2]) (j := 2) (u := .int .i64 r2.t) rfl
              have HS : Hid (linesL s.data.toList = (st.out ++ [⟨st.toks, st.from_, s.size, true⟩], st.diags ++ [⟨1, r.f, r2.t⟩])) := Lib.hid (by
                rw [hres.out, linesFrom_inr (by rw [HN2.out]; exact hlt) (show lineStep R s.size st = .inr (st.out ++ [⟨st.toks, st.from_, s.size, true⟩], st.diags ++ [⟨1, r.f, r2.t⟩]) by
                  unfold lineStep; rw [if_neg hc10.out, if_neg hw0.out, ← hcm.out, if_pos hcj, if_pos rfl, rF_atX hr.out, rT_atX hr2])])
              clear hinl hc10 hres hr hat hrow hw0 hcm hr2 HW HCM
              obtain ⟨⟨S, lcs, hS1, hS2, hn, ho, hlns⟩, hd, hh, hb⟩ := hls
              obtain ⟨nao, ncap, rfl, _, _, _, _⟩ := hn.rown (n := st.toks.length) (by simp)
              have hol := hlns.len
              have hlenD : (st.diags.map (dgC file)).length + 1 ≤ 1000000000 := by rw [List.length_map]; omega
              have hlenO : lcs.length + 1 ≤ 1000000000 := by rw [hol]; omega
              have hi1i : (st.i : Int) + 1 < n := by omega
              have hHw := lt_of_block hh
              have hdH : vd.ownBlock ≠ some w1.heap.size := by intro e; have := hd.ge _ e; omega
              have hwr : IntKind.i64.wrap ((st.i : Int) + 1) = (st.i : Int) + 1 := wrap_small (by omega)
              have h0i : (0 : Int) ≤ (st.i : Int) + 1 := by omega
              have htn : ((st.i : Int) + 1).toNat = st.i + 1 := by omega
              go_wp2_with fail
              go_region_law (refine step_append1 E68 rfl rfl (hd.drew.alloc _) rfl rfl (heap_alloc_new _ _) rfl (by simp [Value.oneCell']) hlenD (by decide) (by simp; omega) ?_; intro v5 w5 hown5 hg5'; have hg5 : (w'.drew.alloc (.cells [.int .i64 1, .string file, .int .i64 r.f, .int .i64 r2.t].toArray 68)).grownBy w5 vd.ownBlock := hg5'; have hh5 := app_kept hh hdH hg5; obtain ⟨q0, q1, q2, q3⟩ := line_cells hh5; have qf := fun j => Lib.frozen_of_heap hh5 j)
              all_goals
                have hoth := others_app (hd.drew.alloc (.cells [.int .i64 1, .string file, .int .i64 r.f, .int .i64 r2.t].toArray 68)) hg5
                have ho5 := own_kt0 (ho.drew.alloc (.cells [.int .i64 1, .string file, .int .i64 r.f, .int .i64 r2.t].toArray 68)) (by decide) hoth
                have ho6 := (ho5.setBelow (b := w1.heap.size) (j := 2) (Nat.lt_succ_self _) (.int .i64 s.size)).setBelow (b := w1.heap.size) (j := 3) (Nat.lt_succ_self _) (.bool true)
                have hbw5 : Below w.heap.size w w5 := bapp ((hb1.trans (hb.mono hb1.size)).drew.alloc (by have := hb1.size; have := hb.size; simp; omega) _) ((hd.drew.alloc _).mono (Nat.le_succ_of_le hb1.size)) hg5 (by have := hb1.size; have := hb.size; simp; omega)
                have hsz5 : w'.heap.size ≤ w5.heap.size := by have := hg5.size; simp at this; omega
                have hb6 : Below w.heap.size w ((w5.setCell ⟨w1.heap.size, 2, none⟩ (.int .i64 s.size)).setCell ⟨w1.heap.size, 3, none⟩ (.bool true)) := (hbw5.setCell (p := ⟨w1.heap.size, 2, none⟩) hb1.size _).setCell (p := ⟨w1.heap.size, 3, none⟩) hb1.size _
                have hsz6 : w1.heap.size + 1 ≤ ((w5.setCell ⟨w1.heap.size, 2, none⟩ (.int .i64 s.size)).setCell ⟨w1.heap.size, 3, none⟩ (.bool true)).heap.size := by simp [World.setCell]; omega
                go_wp2_with (at_builtin; go_must (refine wpList_append1 E101 rfl rfl ho6 rfl rfl (news := [.slice nao st.toks.length ncap, .int .i64 st.from_, .int .i64 s.size, .bool true]) (by simp [World.setCell]) rfl (by simp [Value.oneCell']) hlenO (by decide) hsz6 ?_); intro v7 w7 hown7 hg7)
                go_ret2
                have hh6 := setCell_eq_setRow w5 w1.heap.size 2 _ _ _ (.int .i64 s.size) hh5
                have hk : ∀ S', KeptTok S' w' w7 := fun S' => ((((KeptTok.fresh w' _).trans (KeptTok.others hoth (by decide) (by simp))).trans (KeptTok.setCell hh5 (by decide) 2 _)).trans (KeptTok.setCell (by rw [hh6]; exact setRow_heap _ _ _ _ _ _ hh5) (by decide) 3 _)).trans (KeptTok.others (others_app ho6 hg7) (by decide) (by simp))
                have hsz7 : w'.heap.size ≤ w7.heap.size := by have := hg7.size; simp [World.setCell] at this; omega
                have hw1 : w.heap.size ≤ w1.heap.size + 1 := Nat.le_succ_of_le hb1.size
                refine ⟨v7, v5, lcs ++ [[.slice nao st.toks.length ncap, .int .i64 st.from_, .int .i64 s.size, .bool true]], rfl, hown7.mono hw1, ?_, ?_, bapp hb6 (ho6.mono hw1) hg7 hb6.size⟩
                · rw [HS.out]
                  exact (((hlns.mono (Nat.le_trans hS2 hsz7)).kept (hk _)).snoc (((LnAt.of_own hn st.from_ s.size true).mono hsz7).kept (hk _)))
                · rw [HS.out, List.map_append]
                  exact (own_kt0 ((hown5.setBelow (b := w1.heap.size) (j := 2) (Nat.lt_succ_self _) (.int .i64 s.size)).setBelow (b := w1.heap.size) (j := 3) (Nat.lt_succ_self _) (.bool true)) (by decide) (others_app ho6 hg7)).mono hw1
          · have hcje : cj = st.i := by omega
            obtain ⟨⟨nk, ne, nb⟩, hnx⟩ : ∃ p, p = nextL (cs R) st.i := ⟨_, rfl⟩
            have hNX := rnext_any R (some ⟨rb, ro, none⟩) cap st.i (by rw [HN2.out]; omega) (by rw [HN2.out]; exact hlt) w' hrow
            rw [← hnx, HN2.out] at hNX
            have hnl := nextL_len (A := cs R) (i := st.i) (by rw [cs_len, HN2.out]; exact hlt)
            rw [← hnx, cs_len, HN2.out] at hnl
            simp only at hnl hNX
            obtain ⟨E, rfl⟩ : ∃ E, ne = E + 1 := ⟨ne - 1, by omega⟩
            obtain ⟨r3, hr3⟩ : ∃ r, R[E]? = some r := ⟨R[E]'(by rw [HN2.out]; omega), by simp⟩
            have e3 := hat.cell (i := E) (cs := r3.v) (by simp [hr3]) (j := 2) (u := .int .i64 r3.t) rfl
            have HTK : Hid (tokAt R st = ⟨nk, ((cs R).drop st.i).take (E + 1 - st.i), st.space, r.f, r3.t⟩) := Lib.hid (by
              unfold tokAt; rw [← hnx]; simp only [Nat.add_sub_cancel]; rw [rF_atX hr.out, rT_atX hr3])
            have HS : Hid (linesL s.data.toList = linesFrom R s.size ⟨E + 1, st.toks ++ [tokAt R st], st.from_, false, st.out, if nb then st.diags ++ [⟨2, r.f, r3.t⟩] else st.diags⟩) := Lib.hid (hres.out.trans (hinl _ (by
              unfold lineStep; rw [if_neg hc10.out, if_neg hw0.out, ← hcm.out, if_neg hcj, ← hnx]; simp only [Nat.add_sub_cancel]; rw [rF_atX hr.out, rT_atX hr3])))
            replace hNX := Lib.hid hNX
            clear hinl hc10 hres hw0 hcm hnx HW HCM hr3
            go_wp2_with fail
            refine hNX.out.mono ?_
            rintro e w5 ⟨rfl, hb5⟩
            have hls5 := hls.later hb5 (Nat.le_refl _)
            have c15 := kept_cell hb5 c1
            have e35 := kept_cell hb5 e3
            have hrow5 := hrow.below hb5
            clear hls c0 c1 c2 e3 hNX hat hb5 hrow
            have c15o := fun o => kept_cell ((Below.refl _ w5).alloc (Nat.le_refl _) o) c15
            have e35o := fun o => kept_cell ((Below.refl _ w5).alloc (Nat.le_refl _) o) e35
            have hEi : (0 : Int) ≤ (E : Int) := by omega
            have hEn : (E : Int) < n := by omega
            have hwr : IntKind.i64.wrap (E : Int) = (E : Int) := wrap_small (by omega)
            go_wp2_with fail
            go_region
            have hbs : Below w5.heap.size w5 (w5.alloc (.cells [.string file, .int .i64 r.f, .int .i64 r3.t].toArray 31)).drew := ((Below.refl _ w5).alloc (Nat.le_refl _) _).drew
            have hls6 := hls5.later hbs (Nat.le_refl _)
            have hrow6 := hrow5.below hbs
            have g0 : (w5.alloc (.cells [.string file, .int .i64 r.f, .int .i64 r3.t].toArray 31)).drew.cell? ⟨w5.heap.size, 0, none⟩ = some (.string file) := cell_new w5 _ _ rfl
            have g1 : (w5.alloc (.cells [.string file, .int .i64 r.f, .int .i64 r3.t].toArray 31)).drew.cell? ⟨w5.heap.size, 1, none⟩ = some (.int .i64 r.f) := cell_new w5 _ _ rfl
            have g2 : (w5.alloc (.cells [.string file, .int .i64 r.f, .int .i64 r3.t].toArray 31)).drew.cell? ⟨w5.heap.size, 2, none⟩ = some (.int .i64 r3.t) := cell_new w5 _ _ rfl
            have hHw5 : w1.heap.size < w5.heap.size := lt_of_block hls5.here
            have HSP : (w5.alloc (.cells [.string file, .int .i64 r.f, .int .i64 r3.t].toArray 31)).drew.heap[w5.heap.size]? = some (.cells #[.string file, .int .i64 r.f, .int .i64 r3.t] 31 (0, 0)) := heap_alloc_new w5 _
            have hw56 : (w5.alloc (.cells [.string file, .int .i64 r.f, .int .i64 r3.t].toArray 31)).drew.heap.size = w5.heap.size + 1 := by simp
            replace hw56 := Lib.hid hw56
            obtain ⟨w6, hw6⟩ : ∃ w6, w6 = (w5.alloc (.cells [.string file, .int .i64 r.f, .int .i64 r3.t].toArray 31)).drew := ⟨_, rfl⟩
            rw [← hw6] at hls6 hrow6 g0 g1 g2 hw56 HSP
            change Exit.then _ _ _ _ (w5.alloc (.cells [.string file, .int .i64 r.f, .int .i64 r3.t].toArray 31)).drew
            rw [← hw6]
            clear hw6 hbs hls5 hrow5 c15 e35 c15o e35o
            obtain ⟨⟨S, lcs, hS1, hS2, hn, ho, hlns⟩, hd, hh, hb⟩ := hls6
            obtain ⟨nao, ncap, rfl, _, _, _, _⟩ := hn.rown (n := st.toks.length) (by simp)
            obtain ⟨d0, d1, d2, d3⟩ := line_cells hh
            have hf := fun j => Lib.frozen_of_heap hh j
            have hEc : E + 1 ≤ cap := by omega
            have hiE : st.i ≤ E + 1 := by omega
            have hE0 : (0 : Int) ≤ (E : Int) + 1 := by omega
            have hEci : (E : Int) + 1 ≤ (cap : Int) := by omega
            have hci : ¬ cap = st.i := by omega
            have hneH : (Value.slice nao st.toks.length ncap).ownBlock ≠ some w1.heap.size := by intro e; have := hn.ge _ e; omega
            have hlenT : (st.toks.map (tkC file)).length + 1 ≤ 1000000000 := by rw [List.length_map]; omega
            have hTX : Hid (∀ w', Below w6.heap.size w6 w' → Calls Tryz.prog 79 #[.slice (some ⟨rb, ro + st.i * 3, none⟩) (E + 1 - st.i) (cap - st.i)] w' fun e w'' => e = .returned (.string ⟨(((cs R).drop st.i).take (E + 1 - st.i)).toArray⟩) ∧ Below w'.heap.size w' w'') := Lib.hid (by
              intro w' hb'
              have := rtext_any ((R.drop st.i).take (E + 1 - st.i)) (some ⟨rb, ro + st.i * 3, none⟩) (E + 1 - st.i) (cap - st.i) (by rw [List.length_take, List.length_drop, HN2.out]; omega) (by omega) w' (fun _ => ⟨rb, ro + st.i * 3, rfl, by
                obtain ⟨rb', ro', e', hat'⟩ := (hrow6.below hb') hne
                simp at e'
                obtain ⟨rfl, rfl⟩ := e'
                have := hat'.sub st.i (E + 1 - st.i)
                rw [List.map_take, List.map_drop]
                exact this⟩)
              simpa [cs, List.map_take, List.map_drop] using this)
            have hsp6 : w6.heap[w5.heap.size]? = some (.cells #[.string file, .int .i64 r.f, .int .i64 r3.t] 31 (0, 0)) := HSP
            go_upto_region 28 with fail
            go_cut [] from 113 to 125 (fun wx => ∃ v9, LsAt w1 wx w1.heap.size file ⟨E + 1, st.toks ++ [tokAt R st], st.from_, false, st.out, st.diags⟩ vo vd v9 ∧ wx.heap[w5.heap.size]? = some (.cells #[.string file, .int .i64 r.f, .int .i64 r3.t] 31 (0, 0)))
            case first =>
              go_region_law (first
                | (refine step_append1 E34 rfl rfl ((hn.below hbt).alloc _) rfl rfl (heap_alloc_new _ _) rfl (by simp [Value.oneCell']) hlenT (by decide) (by have := hbt.size; simp; omega) ?_; intro v9 w9 hown9 hg9; have hh9 := tok_kept hh hbt hg9 hneH; obtain ⟨q0, q1, q2, q3⟩ := line_cells hh9; have qf := fun j => Lib.frozen_of_heap hh9 j; obtain ⟨ao9, cap9, rfl, _, _, _, _⟩ := hown9.rown (n := st.toks.length + 1) (by simp))
                | (go_simp; go_at_call 79; refine (hTX.out _ (Below.refl _ w6).drew).mono ?_; rintro e wt ⟨rfl, hbt0⟩; have hbt : Below w6.heap.size w6 wt := ((Below.refl _ w6).drew).trans hbt0; have d0t := kept_cell hbt d0; have g0t := kept_cell hbt g0; have g1t := kept_cell hbt g1; have g2t := kept_cell hbt g2; have d0a := fun o => kept_cell ((Below.refl _ wt).alloc (Nat.le_refl _) o) d0t))
              all_goals
                have hown9' : Own w9 S 34 8 (.slice ao9 (st.toks.length + 1) cap9) (st.toks.map (tkC file) ++ [tkC file (tokAt R st)]) := by rw [HTK.out]; exact hown9
                have hls10 := LsAt.token (tk := tokAt R st) (sp := false) (i := E + 1) (Nat.le_refl _) hS1 hS2 hn ho hlns hd hh hb hbt hown9' hg9
                have hsp9 := tok_kept hsp6 hbt hg9 (by
                  intro e
                  obtain ⟨x2, fz2, h2⟩ := hn.size_lt _ e
                  rw [hsp6] at h2
                  simp at h2)
                have hsp10 : (w9.setCell ⟨w1.heap.size, 0, none⟩ (.slice ao9 (st.toks.length + 1) cap9)).heap[w5.heap.size]? = _ := (Below.heap_setCell _ _ _ _ (show w5.heap.size ≠ w1.heap.size by omega)).trans hsp9
                go_wp2_with fail
                go_meet
                case rel => exact ⟨_, hls10, hsp10⟩
            case rest =>
              obtain ⟨v9, hls10, hsp10⟩ := hcut
              cases nb with
              | false =>
                go_wp2_with fail
                go_roundg (n - (E + 1))
                case measure => omega
                case rel => exact ⟨⟨E + 1, st.toks ++ [tokAt R st], st.from_, false, st.out, st.diags⟩, vo, vd, v9, rfl, (show E + 1 ≤ n by omega), rfl, rfl, rfl, by go_num, hls10, HS, by simp; omega, (show st.out.length ≤ E + 1 by omega), (show st.diags.length ≤ E + 1 by omega)⟩
              | true =>
                have hsz10 : w1.heap.size + 1 ≤ wc.heap.size := lt_of_block hls10.here
                have hlenD : (st.diags.map (dgC file)).length + 1 ≤ 1000000000 := by rw [List.length_map]; omega
                obtain ⟨s0, s1, s2⟩ := span_cells hsp10
                go_wp2_with (at_builtin; go_must (refine wpList_append1 E68 rfl rfl hls10.diags rfl rfl (news := [.int .i64 2, .string file, .int .i64 r.f, .int .i64 r3.t]) (by simp) rfl (by simp [Value.oneCell']) hlenD (by decide) hsz10 ?_); intro v11 w11 hown11 hg11)
                have hls11 := hls10.diag (d := ⟨2, r.f, r3.t⟩) hown11 hg11
                go_roundg (n - (E + 1))
                case measure => omega
                case rel => exact ⟨⟨E + 1, st.toks ++ [tokAt R st], st.from_, false, st.out, st.diags ++ [⟨2, r.f, r3.t⟩]⟩, vo, v11, v9, rfl, (show E + 1 ≤ n by omega), rfl, rfl, rfl, by go_num, hls11, HS, by simp; omega, (show st.out.length ≤ E + 1 by omega), by simp; omega⟩
    · have hres2 : Hid (linesL s.data.toList = (finL s.size st.out, st.diags)) := Lib.hid (hres.out.trans (linesFrom_end (by rw [HN2.out]; exact hlt)))
      clear hres
      obtain ⟨⟨S, lcs, hS1, hS2, hn, ho, hlns⟩, hd, hh, hb⟩ := hls
      have hbw : Below w.heap.size w wr := hb1.trans (hb.mono hb1.size)
      have hw1 : w.heap.size ≤ w1.heap.size + 1 := Nat.le_succ_of_le hb1.size
      have hol := hlns.len
      obtain ⟨oao, ocap, rfl, hoc, _, horow, _⟩ := ho.rown (n := st.out.length) (by rw [hol])
      by_cases ho0 : st.out = []
      · have hfin : finL s.size st.out = [] := by rw [ho0]; rfl
        have hl0 : lcs = [] := by rw [ho0] at hol; exact List.eq_nil_of_length_eq_zero hol
        have hz : st.out.length = 0 := by rw [ho0]; rfl
        rw [hz] at ho ⊢
        replace hres2 := Lib.hid (show linesL s.data.toList = ([], st.diags) by rw [hres2.out, hfin])
        clear hfin hz horow hoc
        go_wp2
        go_ret2
        refine ⟨_, vd, [], rfl, hl0 ▸ ho.mono hw1, ?_, ?_, hbw⟩
        · rw [hres2.out]; exact .nil
        · rw [hres2.out]; exact hd.mono hw1
      · obtain ⟨M, hM⟩ : ∃ M, st.out.length = M + 1 := ⟨st.out.length - 1, by cases h : st.out with | nil => exact (ho0 h).elim | cons => simp⟩
        rw [hM] at ho hoc ⊢
        have hoa : oao ≠ none := by
          intro e
          subst e
          rcases ho.1.2 with ⟨h1, _⟩ | ⟨g, cap', cur, h1, _⟩
          · simp at h1
          · simp at h1
        obtain ⟨⟨g, go, gs⟩, rfl⟩ := Option.ne_none_iff_exists'.1 hoa
        obtain ⟨rfl, rfl⟩ : go = 0 ∧ gs = none := by
          rcases ho.1.2 with ⟨h1, _⟩ | ⟨g', cap', cur, h1, _⟩
          · simp at h1
          · simp at h1; exact ⟨h1.1.2.1, h1.1.2.2⟩
        obtain ⟨old, lcs', hc, hfr, ho', hl', hBg⟩ := lines_last ho hlns hM s.size
        obtain ⟨y, fz, hy⟩ := ho.size_lt g rfl
        have hd' : Own (wr.setCell ⟨g, M * 4 + 2, none⟩ (.int .i64 s.size)) (w1.heap.size + 1) 68 4 vd (st.diags.map (dgC file)) := ⟨ownsRow_setCell_other hd.1 (by
          intro e
          obtain ⟨y2, fz2, hy2⟩ := hd.size_lt g e
          rw [hy] at hy2
          simp at hy2) _, hd.2⟩
        have hbw' := hbw.setCell (p := ⟨g, M * 4 + 2, none⟩) (by simp; omega) (.int .i64 s.size)
        have hM5 : M ≤ 1000001 := by omega
        clear hn hh horow hlns ho0 hol hd
        replace hM := Lib.hid hM
        go_wp2
        go_ret2
        refine ⟨_, vd, lcs', rfl, ho'.mono hw1, ?_, ?_, hbw'⟩
        · rw [hres2.out]; exact hl'.mono (by simp [World.setCell]; omega)
        · rw [hres2.out]; exact hd'.mono hw1
end Go.Proofs.YtfaoamdlknlgpaaGreat
