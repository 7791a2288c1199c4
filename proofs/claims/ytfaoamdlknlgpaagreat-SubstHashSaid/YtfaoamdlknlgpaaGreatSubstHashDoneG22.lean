/- Texts of this seat's proofs, laid into one file. -/
import Derived.Test.YtfaoamdlknlgpaaGreatSubstHashDoneG21
import Derived.BigQuiet
/- lex's One. -/
namespace Go.Proofs.YtfaoamdlknlgpaaGreat
open Go.RowKit
set_option linter.unusedVariables false

/-- a text's characters as they stand -/
def plainR (l : List UInt8) : List Rn := (List.range l.length).map fun i => ⟨l.getD i 0, i, i + 1⟩
theorem plainR_len (l : List UInt8) : (plainR l).length = l.length := by simp [plainR]
theorem plainR_get {l : List UInt8} {i : Nat} (h : i < l.length) : (plainR l)[i]? = some ⟨l.getD i 0, i, i + 1⟩ := by simp [plainR, h]
theorem plainR_cs (l : List UInt8) : cs (plainR l) = l := by
  apply List.ext_getElem
  · simp [cs, plainR]
  · intro i h1 h2
    simp [cs, plainR, List.getD_eq_getElem?_getD, h2]
theorem plainR_take {l : List UInt8} {k : Nat} (h : k < l.length) : (plainR l).take (k + 1) = (plainR l).take k ++ [⟨l.getD k 0, k, k + 1⟩] := by
  rw [List.take_add_one, plainR_get h]
  rfl

/-- what One gives -/
def OnePost (l : List UInt8) (e : Ending) : Prop :=
  ∃ s, Skips (plainR l) ⟨0, [], false, -1, false⟩ s ∧ ((¬ AtIn (plainR l) s ∧ e = .returned (.tuple #[.agg zeroTok.toArray, .bool false])) ∨
    (AtTok (plainR l) s ∧ e = .returned (.tuple #[.agg (if (afterTok (plainR l) s).i < l.length ∨ s.sp = true ∨ 0 < (afterTok (plainR l) s).ds.length then zeroTok.toArray else #[.int .i64 (tokN (plainR l) s).kind, .string ⟨(tokN (plainR l) s).text.toArray⟩, .bool false, .string ⟨#[]⟩, .int .i64 0, .int .i64 0, .bool false, .slice none 0 0]), .bool (decide (¬ ((afterTok (plainR l) s).i < l.length ∨ s.sp = true ∨ 0 < (afterTok (plainR l) s).ds.length)))])))

theorem Own.rn {w w' : World} {B sz : Nat} {v : Value} {css : List (List Value)} (h : Own w B 123 sz v css) (k : KeptRn w w') : Own w' B 123 sz v css := by
  refine ⟨⟨h.1.1, ?_⟩, h.2⟩
  rcases h.1.2 with h0 | ⟨g, cap, cur, hv, hg1, hg, r⟩
  · exact .inl h0
  · exact .inr ⟨g, cap, cur, hv, hg1, k g _ _ hg, r⟩

/-- what holds while the characters are laid -/
structure OneL (w wr : World) (l : List UInt8) (k : Nat) (v : Value) : Prop where
  walk : wr.heap[w.heap.size + 1]? = some (.cells #[.string ⟨#[]⟩, v, .int .i64 0, .slice none 0 0, .bool false, .int .i64 (-1)] 122 (0, 0))
  own : Own wr (w.heap.size + 2) 123 3 v (((plainR l).take k).map Rn.v)
  res : wr.heap[w.heap.size]? = some (.cells zeroTok.toArray 34 (0, 0))
  below : Below w.heap.size w wr

theorem get_byte {s : ByteArray} {k : Nat} (h : k < s.size) : s.data.toList.getD k 0 = s[k]'h := by
  rw [List.getD_eq_getElem?_getD, List.getElem?_eq_getElem (by rw [← Lib.size_eq]; exact h)]
  rfl

set_option maxHeartbeats 4000000 in
set_option maxRecDepth 100000 in
theorem lexOne_any (s : ByteArray) (hs : s.size ≤ 1000) (w : World) :
    Calls Tryz.prog 39 #[.string s] w fun e w' => OnePost s.data.toList e ∧ Below w.heap.size w w' := by
  obtain ⟨l, hl⟩ : ∃ l, l = s.data.toList := ⟨_, rfl⟩
  have HN : Hid (l.length = s.size) := Lib.hid (by rw [hl, ← Lib.size_eq])
  have HB : Hid (∀ k (h : k < s.size), l.getD k 0 = s[k]'h) := Lib.hid (by intro k h; rw [hl]; exact get_byte h)
  rw [← hl]
  go_enter Tryz.func39, Tryz.ntmps39
  clear hl
  have HI : OneL w ((w.alloc (.cells zeroTok.toArray 34)).alloc (.cells #[.string ⟨#[]⟩, .slice none 0 0, .int .i64 0, .slice none 0 0, .bool false, .int .i64 (-1)] 122)) l 0 (.slice none 0 0) :=
    ⟨by have := heap_alloc_new (w.alloc (.cells zeroTok.toArray 34)) (.cells #[.string ⟨#[]⟩, .slice none 0 0, .int .i64 0, .slice none 0 0, .bool false, .int .i64 (-1)] 122); simpa using this, Own.nil _ _ _ _, (Lib.alloc_old _ _ _ (by simp)).trans (heap_alloc_new w _), ((Below.refl _ w).alloc (Nat.le_refl _) _).alloc (by simp) _⟩
  unfold zeroTok at HI
  go_wp2_with fail
  go_loopg [13] s.size (fun u v wr => ∃ (k : Nat) (vl : Value), u = s.size - k ∧ k ≤ s.size ∧ v = .int .i64 k ∧ OneL w wr l k vl)
  case atStart => exact ⟨0, _, rfl, Nat.zero_le _, rfl, HI⟩
  case round =>
    obtain ⟨k, vl, rfl, hk, rfl, hO⟩ := hrel
    obtain ⟨vao, vcap, rfl, _, _, _, _⟩ := hO.own.rown (n := k) (by rw [List.length_map, List.length_take, plainR_len, HN.out]; omega)
    obtain ⟨c0, c1, c2, c3, c4, c5⟩ := cells6 hO.walk
    have fr := fun j => Lib.frozen_of_heap hO.walk j
    by_cases hlt : k < s.size
    · have e1 : (k : Int) < (s.size : Int) := by omega
      have q1 : IntKind.i64.wrap ((k : Int) + 1) = (k : Int) + 1 := IntWalk.i64_in _ (by omega)
      have hlenO : (((plainR l).take k).map Rn.v).length + 1 ≤ 1000000000 := by rw [List.length_map, List.length_take]; omega
      have hlk : (((plainR l).take k).map Rn.v).length = k := by rw [List.length_map, List.length_take, plainR_len, HN.out]; omega
      have hneb : (Value.slice vao k vcap).ownBlock ≠ some (w.heap.size + 1) := by intro e; have := hO.own.ge _ e; omega
      have hlb := lt_of_block hO.walk
      have hx : Hid (((plainR l).take (k + 1)).map Rn.v = ((plainR l).take k).map Rn.v ++ [[.int .u8 (s[k]'hlt).toNat, .int .i64 k, .int .i64 ((k : Int) + 1)]]) := Lib.hid (by
        rw [plainR_take (by rw [HN.out]; exact hlt), List.map_append, HB.out k hlt]
        rfl)
      go_upto_region 16 with fail
      go_region_law (first
        | (refine step_append1 E26 rfl rfl (Own.drew (hO.own.alloc _)) rfl rfl (heap_alloc_new wr _) rfl (by simp [Value.oneCell']) hlenO (by decide) (by simp; omega) ?_; intro v9 w9 hown9 hg9; have hc9 := (hg9.block (w.heap.size + 1) (by simp; omega) (fun e => hneb e.symm)).trans ((Lib.alloc_old wr _ _ hlb).trans hO.walk); obtain ⟨ao9, cap9, rfl, _, _, _, _⟩ := hown9.rown (n := k + 1) (by rw [List.length_append, hlk]; rfl); have qf := fun j => Lib.frozen_of_heap hc9 j; obtain ⟨z0, z1, z2, z3, z4, z5⟩ := cells6 hc9))
      all_goals
        have hO9 : OneL w (w9.setCell ⟨w.heap.size + 1, 1, none⟩ (.slice ao9 (k + 1) cap9)) l (k + 1) (.slice ao9 (k + 1) cap9) := by
          refine ⟨?_, ?_, ?_, ?_⟩
          · have := set_at hc9 1 (.slice ao9 (k + 1) cap9)
            simpa using this
          · rw [hx.out]
            exact hown9.setBelow (Nat.lt_succ_self _) _
          · exact (Below.heap_setCell _ _ _ _ (Nat.ne_of_lt (Nat.lt_succ_self _))).trans ((hg9.block w.heap.size (by simp; omega) (fun e => by have := hO.own.ge _ e.symm; omega)).trans ((Lib.alloc_old wr _ _ (by omega)).trans hO.res))
          · exact (bapp (hO.below.alloc hO.below.size _).drew (Own.drew ((hO.own.mono (by omega)).alloc _)) hg9 (by have := hO.below.size; simp; omega)).setCell (p := ⟨w.heap.size + 1, 1, none⟩) (by simp) _
        go_wp2_with fail
        go_roundg (s.size - (k + 1))
        case measure => omega
        case rel => exact ⟨k + 1, _, rfl, by omega, by go_num, hO9⟩
    · obtain rfl : k = s.size := by omega
      have e1 : ¬ (s.size : Int) < (s.size : Int) := by omega
      have hown := hO.own
      rw [List.take_of_length_le (by rw [plainR_len, HN.out]; exact Nat.le_refl _)] at hown
      have hL : LwAt wr wr (w.heap.size + 1) ⟨#[]⟩ s.size vao vcap 0 (.slice none 0 0) [] false (-1) := ⟨hO.walk, Bel.refl _ _, Own.nil _ _ _ _⟩
      have hcap : s.size ≤ vcap := by assumption
      have HC := next_any wr (w.heap.size + 1) ⟨#[]⟩ (plainR l) vao vcap (.slice none 0 0) ⟨0, [], false, -1, false⟩ (fun w' h => by
        obtain ⟨ao', cap', e', _, _, hr, _⟩ := (hown.rn h.rn).row
        simp only [Value.slice.injEq] at e'
        rw [e'.1]
        exact hr) (by rw [plainR_len, HN.out]; exact hcap) (by rw [plainR_len, HN.out]; omega) (Nat.zero_le _) (by simp) rfl wr (by rw [plainR_len, HN.out]; exact hL)
      rw [plainR_len, HN.out] at HC
      unfold NextPost at HC
      replace HC := Lib.hid HC
      clear hL hown
      go_wp2_with fail
      refine HC.out.mono ?_
      rintro e w8 ⟨st, hsk, hX8, hend | htok⟩
      · obtain ⟨hne, rfl, vd8, h8⟩ := hend
        clear c0 c1 c2 c3 c4 c5 fr
        unfold zeroTok
        have h9 := h8.after ((Below.refl _ w8).alloc (Nat.le_refl _) (.cells #[.int .i64 0, .string ⟨#[]⟩, .bool false, .string ⟨#[]⟩, .int .i64 0, .int .i64 0, .bool false, .slice none 0 0] 34))
        have hT9 := heap_alloc_new w8 (.cells #[.int .i64 0, .string ⟨#[]⟩, .bool false, .string ⟨#[]⟩, .int .i64 0, .int .i64 0, .bool false, .slice none 0 0] 34)
        have hR9 : (w8.alloc (.cells #[.int .i64 0, .string ⟨#[]⟩, .bool false, .string ⟨#[]⟩, .int .i64 0, .int .i64 0, .bool false, .slice none 0 0] 34)).heap[w.heap.size]? = _ := (h9.below.lo.block w.heap.size (Nat.lt_succ_self _)).trans hO.res
        have hB9 : Below w.heap.size w (w8.alloc (.cells #[.int .i64 0, .string ⟨#[]⟩, .bool false, .string ⟨#[]⟩, .int .i64 0, .int .i64 0, .bool false, .slice none 0 0] 34)) := hO.below.trans (h9.below.lo.mono (Nat.le_succ _))
        obtain ⟨c0, c1, c2, c3, c4, c5⟩ := cells6 h9.cells
        obtain ⟨t0, t1, t2, t3, t4, t5, t6, t7⟩ := cells8x hT9
        go_wp2_with fail
        go_quiet (fail)
        have hRz := ((drewN_below (w8.alloc (.cells #[.int .i64 0, .string ⟨#[]⟩, .bool false, .string ⟨#[]⟩, .int .i64 0, .int .i64 0, .bool false, .slice none 0 0] 34)) nq).block w.heap.size (lt_of_block hR9)).trans hR9
        have hTz := ((drewN_below (w8.alloc (.cells #[.int .i64 0, .string ⟨#[]⟩, .bool false, .string ⟨#[]⟩, .int .i64 0, .int .i64 0, .bool false, .slice none 0 0] 34)) nq).block w8.heap.size (lt_of_block hT9)).trans hT9
        have hBz := hB9.trans ((drewN_below (w8.alloc (.cells #[.int .i64 0, .string ⟨#[]⟩, .bool false, .string ⟨#[]⟩, .int .i64 0, .int .i64 0, .bool false, .slice none 0 0] 34)) nq).mono hB9.size)
        obtain ⟨wz, hwz⟩ : ∃ wz, wz = (w8.alloc (.cells #[.int .i64 0, .string ⟨#[]⟩, .bool false, .string ⟨#[]⟩, .int .i64 0, .int .i64 0, .bool false, .slice none 0 0] 34)).drewN nq := ⟨_, rfl⟩
        rw [← hwz] at hRz hTz hBz ⊢
        clear hwz hR9 hB9 c0 c1 c2 c3 c4 c5 t0 t1 t2 t3 t4 t5 t6 t7 h9 hT9
        obtain ⟨r0, r1, r2, r3, r4, r5, r6, r7⟩ := cells8x hRz
        have fr := fun j => Lib.frozen_of_heap hRz j
        obtain ⟨t0, t1, t2, t3, t4, t5, t6, t7⟩ := cells8x hTz
        have hg := set8_at (b0 := .int .i64 0) (b1 := .string ⟨#[]⟩) (b2 := .bool false) (b3 := .string ⟨#[]⟩) (b4 := .int .i64 0) (b5 := .int .i64 0) (b6 := .bool false) (b7 := .slice none 0 0) hRz
        have hfin : Hid (OnePost l (.returned (.tuple #[.agg #[.int .i64 0, .string ⟨#[]⟩, .bool false, .string ⟨#[]⟩, .int .i64 0, .int .i64 0, .bool false, .slice none 0 0], .bool false])) ∧ Below w.heap.size w (set8 wz w.heap.size (.int .i64 0) (.string ⟨#[]⟩) (.bool false) (.string ⟨#[]⟩) (.int .i64 0) (.int .i64 0) (.bool false) (.slice none 0 0))) := Lib.hid ⟨⟨st, hsk, .inl ⟨hne, rfl⟩⟩, set8_below hBz (Nat.le_refl _)⟩
        obtain ⟨m0, m1, m2, m3, m4, m5, m6, m7⟩ := cells8x hg
        clear hg
        unfold set8 at m0 m1 m2 m3 m4 m5 m6 m7
        go_wp2
        refine bodyPost_ret (v := .tuple #[.agg #[.int .i64 0, .string ⟨#[]⟩, .bool false, .string ⟨#[]⟩, .int .i64 0, .int .i64 0, .bool false, .slice none 0 0], .bool false]) (by simp [results, Tryz.results39, go_sem, m0, m1, m2, m3, m4, m5, m6, m7]) rfl hfin.out
      · obtain ⟨hat, rfl, vd8, h8⟩ := htok
        clear c0 c1 c2 c3 c4 c5 fr
        have hpost : ∀ v, v = Ending.returned (.tuple #[.agg (if (afterTok (plainR l) st).i < l.length ∨ st.sp = true ∨ 0 < (afterTok (plainR l) st).ds.length then zeroTok.toArray else #[.int .i64 (tokN (plainR l) st).kind, .string ⟨(tokN (plainR l) st).text.toArray⟩, .bool false, .string ⟨#[]⟩, .int .i64 0, .int .i64 0, .bool false, .slice none 0 0]), .bool (decide (¬ ((afterTok (plainR l) st).i < l.length ∨ st.sp = true ∨ 0 < (afterTok (plainR l) st).ds.length)))]) → OnePost l v := fun v hv => ⟨st, hsk, .inr ⟨hat, hv⟩⟩
        have hsp : (tokN (plainR l) st).space = st.sp := rfl
        rw [← hsp] at hpost
        obtain ⟨A, hA⟩ : ∃ A, A = afterTok (plainR l) st := ⟨_, rfl⟩
        obtain ⟨tk, htk⟩ : ∃ tk, tk = tokN (plainR l) st := ⟨_, rfl⟩
        rw [← hA, ← htk, HN.out] at hpost
        rw [← hA] at h8
        rw [← htk]
        clear hA htk hsk hat hsp HC
        replace hpost := Lib.hid hpost
        obtain ⟨dvo, dvc, rfl, _, _, _, _⟩ := h8.diags.rown (n := A.ds.length) (by simp)
        unfold tkC
        have h9 := h8.after ((Below.refl _ w8).alloc (Nat.le_refl _) (.cells #[.int .i64 tk.kind, .string ⟨tk.text.toArray⟩, .bool tk.space, .string ⟨#[]⟩, .int .i64 tk.f, .int .i64 tk.t, .bool false, .slice none 0 0] 34))
        have hT9 := heap_alloc_new w8 (.cells #[.int .i64 tk.kind, .string ⟨tk.text.toArray⟩, .bool tk.space, .string ⟨#[]⟩, .int .i64 tk.f, .int .i64 tk.t, .bool false, .slice none 0 0] 34)
        have hR9 : (w8.alloc (.cells #[.int .i64 tk.kind, .string ⟨tk.text.toArray⟩, .bool tk.space, .string ⟨#[]⟩, .int .i64 tk.f, .int .i64 tk.t, .bool false, .slice none 0 0] 34)).heap[w.heap.size]? = _ := (h9.below.lo.block w.heap.size (Nat.lt_succ_self _)).trans hO.res
        have hB9 : Below w.heap.size w (w8.alloc (.cells #[.int .i64 tk.kind, .string ⟨tk.text.toArray⟩, .bool tk.space, .string ⟨#[]⟩, .int .i64 tk.f, .int .i64 tk.t, .bool false, .slice none 0 0] 34)) := hO.below.trans (h9.below.lo.mono (Nat.le_succ _))
        obtain ⟨c0, c1, c2, c3, c4, c5⟩ := cells6 h9.cells
        obtain ⟨t0, t1, t2, t3, t4, t5, t6, t7⟩ := cells8x hT9
        by_cases h1 : A.i < s.size
        · have e2 : (A.i : Int) < (s.size : Int) := by omega
          have d1 : decide ((A.i : Int) < (s.size : Int)) = true := decide_eq_true e2
          go_wp2_with fail
          go_quiet (fail)
          have hRz := ((drewN_below (w8.alloc (.cells #[.int .i64 tk.kind, .string ⟨tk.text.toArray⟩, .bool tk.space, .string ⟨#[]⟩, .int .i64 tk.f, .int .i64 tk.t, .bool false, .slice none 0 0] 34)) nq).block w.heap.size (lt_of_block hR9)).trans hR9
          have hTz := ((drewN_below (w8.alloc (.cells #[.int .i64 tk.kind, .string ⟨tk.text.toArray⟩, .bool tk.space, .string ⟨#[]⟩, .int .i64 tk.f, .int .i64 tk.t, .bool false, .slice none 0 0] 34)) nq).block w8.heap.size (lt_of_block hT9)).trans hT9
          have hBz := hB9.trans ((drewN_below (w8.alloc (.cells #[.int .i64 tk.kind, .string ⟨tk.text.toArray⟩, .bool tk.space, .string ⟨#[]⟩, .int .i64 tk.f, .int .i64 tk.t, .bool false, .slice none 0 0] 34)) nq).mono hB9.size)
          obtain ⟨wz, hwz⟩ : ∃ wz, wz = (w8.alloc (.cells #[.int .i64 tk.kind, .string ⟨tk.text.toArray⟩, .bool tk.space, .string ⟨#[]⟩, .int .i64 tk.f, .int .i64 tk.t, .bool false, .slice none 0 0] 34)).drewN nq := ⟨_, rfl⟩
          rw [← hwz] at hRz hTz hBz ⊢
          clear hwz hR9 hB9 c0 c1 c2 c3 c4 c5 t0 t1 t2 t3 t4 t5 t6 t7 h9 hT9
          obtain ⟨r0, r1, r2, r3, r4, r5, r6, r7⟩ := cells8x hRz
          have fr := fun j => Lib.frozen_of_heap hRz j
          obtain ⟨t0, t1, t2, t3, t4, t5, t6, t7⟩ := cells8x hTz
          have hg := set8_at (b0 := .int .i64 0) (b1 := .string ⟨#[]⟩) (b2 := .bool false) (b3 := .string ⟨#[]⟩) (b4 := .int .i64 0) (b5 := .int .i64 0) (b6 := .bool false) (b7 := .slice none 0 0) hRz
          have hfin : Hid (OnePost l (.returned (.tuple #[.agg #[.int .i64 0, .string ⟨#[]⟩, .bool false, .string ⟨#[]⟩, .int .i64 0, .int .i64 0, .bool false, .slice none 0 0], .bool false])) ∧ Below w.heap.size w (set8 wz w.heap.size (.int .i64 0) (.string ⟨#[]⟩) (.bool false) (.string ⟨#[]⟩) (.int .i64 0) (.int .i64 0) (.bool false) (.slice none 0 0))) := Lib.hid ⟨hpost.out _ (by simp [h1, zeroTok]), set8_below hBz (Nat.le_refl _)⟩
          obtain ⟨m0, m1, m2, m3, m4, m5, m6, m7⟩ := cells8x hg
          clear hg
          unfold set8 at m0 m1 m2 m3 m4 m5 m6 m7
          go_wp2
          refine bodyPost_ret (v := .tuple #[.agg #[.int .i64 0, .string ⟨#[]⟩, .bool false, .string ⟨#[]⟩, .int .i64 0, .int .i64 0, .bool false, .slice none 0 0], .bool false]) (by simp [results, Tryz.results39, go_sem, m0, m1, m2, m3, m4, m5, m6, m7]) rfl hfin.out
        · have e2 : ¬ (A.i : Int) < (s.size : Int) := by omega
          have d1 : decide ((A.i : Int) < (s.size : Int)) = false := decide_eq_false e2
          cases h2 : tk.space with
          | true =>
            rw [h2] at hpost
            rw [h2] at h9 hT9 hR9 hB9 t0 t1 t2 t3 t4 t5 t6 t7 c0 c1 c2 c3 c4 c5
            go_wp2_with fail
            go_quiet (fail)
            have hRz := ((drewN_below (w8.alloc (.cells #[.int .i64 tk.kind, .string ⟨tk.text.toArray⟩, .bool true, .string ⟨#[]⟩, .int .i64 tk.f, .int .i64 tk.t, .bool false, .slice none 0 0] 34)) nq).block w.heap.size (lt_of_block hR9)).trans hR9
            have hTz := ((drewN_below (w8.alloc (.cells #[.int .i64 tk.kind, .string ⟨tk.text.toArray⟩, .bool true, .string ⟨#[]⟩, .int .i64 tk.f, .int .i64 tk.t, .bool false, .slice none 0 0] 34)) nq).block w8.heap.size (lt_of_block hT9)).trans hT9
            have hBz := hB9.trans ((drewN_below (w8.alloc (.cells #[.int .i64 tk.kind, .string ⟨tk.text.toArray⟩, .bool true, .string ⟨#[]⟩, .int .i64 tk.f, .int .i64 tk.t, .bool false, .slice none 0 0] 34)) nq).mono hB9.size)
            obtain ⟨wz, hwz⟩ : ∃ wz, wz = (w8.alloc (.cells #[.int .i64 tk.kind, .string ⟨tk.text.toArray⟩, .bool true, .string ⟨#[]⟩, .int .i64 tk.f, .int .i64 tk.t, .bool false, .slice none 0 0] 34)).drewN nq := ⟨_, rfl⟩
            rw [← hwz] at hRz hTz hBz ⊢
            clear hwz hR9 hB9 c0 c1 c2 c3 c4 c5 t0 t1 t2 t3 t4 t5 t6 t7 h9 hT9
            obtain ⟨r0, r1, r2, r3, r4, r5, r6, r7⟩ := cells8x hRz
            have fr := fun j => Lib.frozen_of_heap hRz j
            obtain ⟨t0, t1, t2, t3, t4, t5, t6, t7⟩ := cells8x hTz
            have hg := set8_at (b0 := .int .i64 0) (b1 := .string ⟨#[]⟩) (b2 := .bool false) (b3 := .string ⟨#[]⟩) (b4 := .int .i64 0) (b5 := .int .i64 0) (b6 := .bool false) (b7 := .slice none 0 0) hRz
            have hfin : Hid (OnePost l (.returned (.tuple #[.agg #[.int .i64 0, .string ⟨#[]⟩, .bool false, .string ⟨#[]⟩, .int .i64 0, .int .i64 0, .bool false, .slice none 0 0], .bool false])) ∧ Below w.heap.size w (set8 wz w.heap.size (.int .i64 0) (.string ⟨#[]⟩) (.bool false) (.string ⟨#[]⟩) (.int .i64 0) (.int .i64 0) (.bool false) (.slice none 0 0))) := Lib.hid ⟨hpost.out _ (by simp [zeroTok]), set8_below hBz (Nat.le_refl _)⟩
            obtain ⟨m0, m1, m2, m3, m4, m5, m6, m7⟩ := cells8x hg
            clear hg
            unfold set8 at m0 m1 m2 m3 m4 m5 m6 m7
            go_wp2
            refine bodyPost_ret (v := .tuple #[.agg #[.int .i64 0, .string ⟨#[]⟩, .bool false, .string ⟨#[]⟩, .int .i64 0, .int .i64 0, .bool false, .slice none 0 0], .bool false]) (by simp [results, Tryz.results39, go_sem, m0, m1, m2, m3, m4, m5, m6, m7]) rfl hfin.out
          | false =>
            rw [h2] at hpost
            rw [h2] at h9 hT9 hR9 hB9 t0 t1 t2 t3 t4 t5 t6 t7 c0 c1 c2 c3 c4 c5
            by_cases h3 : 0 < A.ds.length
            · have d3 : decide ((0 : Int) < (A.ds.length : Int)) = true := decide_eq_true (by omega)
              have e3 : (0 : Int) < (A.ds.length : Int) := by omega
              go_wp2_with fail
              go_quiet (fail)
              have hRz := ((drewN_below (w8.alloc (.cells #[.int .i64 tk.kind, .string ⟨tk.text.toArray⟩, .bool false, .string ⟨#[]⟩, .int .i64 tk.f, .int .i64 tk.t, .bool false, .slice none 0 0] 34)) nq).block w.heap.size (lt_of_block hR9)).trans hR9
              have hTz := ((drewN_below (w8.alloc (.cells #[.int .i64 tk.kind, .string ⟨tk.text.toArray⟩, .bool false, .string ⟨#[]⟩, .int .i64 tk.f, .int .i64 tk.t, .bool false, .slice none 0 0] 34)) nq).block w8.heap.size (lt_of_block hT9)).trans hT9
              have hBz := hB9.trans ((drewN_below (w8.alloc (.cells #[.int .i64 tk.kind, .string ⟨tk.text.toArray⟩, .bool false, .string ⟨#[]⟩, .int .i64 tk.f, .int .i64 tk.t, .bool false, .slice none 0 0] 34)) nq).mono hB9.size)
              obtain ⟨wz, hwz⟩ : ∃ wz, wz = (w8.alloc (.cells #[.int .i64 tk.kind, .string ⟨tk.text.toArray⟩, .bool false, .string ⟨#[]⟩, .int .i64 tk.f, .int .i64 tk.t, .bool false, .slice none 0 0] 34)).drewN nq := ⟨_, rfl⟩
              rw [← hwz] at hRz hTz hBz ⊢
              clear hwz hR9 hB9 c0 c1 c2 c3 c4 c5 t0 t1 t2 t3 t4 t5 t6 t7 h9 hT9
              obtain ⟨r0, r1, r2, r3, r4, r5, r6, r7⟩ := cells8x hRz
              have fr := fun j => Lib.frozen_of_heap hRz j
              obtain ⟨t0, t1, t2, t3, t4, t5, t6, t7⟩ := cells8x hTz
              have hg := set8_at (b0 := .int .i64 0) (b1 := .string ⟨#[]⟩) (b2 := .bool false) (b3 := .string ⟨#[]⟩) (b4 := .int .i64 0) (b5 := .int .i64 0) (b6 := .bool false) (b7 := .slice none 0 0) hRz
              have hfin : Hid (OnePost l (.returned (.tuple #[.agg #[.int .i64 0, .string ⟨#[]⟩, .bool false, .string ⟨#[]⟩, .int .i64 0, .int .i64 0, .bool false, .slice none 0 0], .bool false])) ∧ Below w.heap.size w (set8 wz w.heap.size (.int .i64 0) (.string ⟨#[]⟩) (.bool false) (.string ⟨#[]⟩) (.int .i64 0) (.int .i64 0) (.bool false) (.slice none 0 0))) := Lib.hid ⟨hpost.out _ (by simp [h3, zeroTok]), set8_below hBz (Nat.le_refl _)⟩
              obtain ⟨m0, m1, m2, m3, m4, m5, m6, m7⟩ := cells8x hg
              clear hg
              unfold set8 at m0 m1 m2 m3 m4 m5 m6 m7
              go_wp2
              refine bodyPost_ret (v := .tuple #[.agg #[.int .i64 0, .string ⟨#[]⟩, .bool false, .string ⟨#[]⟩, .int .i64 0, .int .i64 0, .bool false, .slice none 0 0], .bool false]) (by simp [results, Tryz.results39, go_sem, m0, m1, m2, m3, m4, m5, m6, m7]) rfl hfin.out
            · have d3 : decide ((0 : Int) < (A.ds.length : Int)) = false := decide_eq_false (by omega)
              have e3 : ¬ (0 : Int) < (A.ds.length : Int) := by omega
              go_wp2_with fail
              go_quiet (fail)
              have hRz := ((drewN_below (w8.alloc (.cells #[.int .i64 tk.kind, .string ⟨tk.text.toArray⟩, .bool false, .string ⟨#[]⟩, .int .i64 tk.f, .int .i64 tk.t, .bool false, .slice none 0 0] 34)) nq).block w.heap.size (lt_of_block hR9)).trans hR9
              have hTz := ((drewN_below (w8.alloc (.cells #[.int .i64 tk.kind, .string ⟨tk.text.toArray⟩, .bool false, .string ⟨#[]⟩, .int .i64 tk.f, .int .i64 tk.t, .bool false, .slice none 0 0] 34)) nq).block w8.heap.size (lt_of_block hT9)).trans hT9
              have hBz := hB9.trans ((drewN_below (w8.alloc (.cells #[.int .i64 tk.kind, .string ⟨tk.text.toArray⟩, .bool false, .string ⟨#[]⟩, .int .i64 tk.f, .int .i64 tk.t, .bool false, .slice none 0 0] 34)) nq).mono hB9.size)
              obtain ⟨wz, hwz⟩ : ∃ wz, wz = (w8.alloc (.cells #[.int .i64 tk.kind, .string ⟨tk.text.toArray⟩, .bool false, .string ⟨#[]⟩, .int .i64 tk.f, .int .i64 tk.t, .bool false, .slice none 0 0] 34)).drewN nq := ⟨_, rfl⟩
              rw [← hwz] at hRz hTz hBz ⊢
              clear hwz hR9 hB9 c0 c1 c2 c3 c4 c5 t0 t1 t2 t3 t4 t5 t6 t7 h9 hT9
              obtain ⟨r0, r1, r2, r3, r4, r5, r6, r7⟩ := cells8x hRz
              have fr := fun j => Lib.frozen_of_heap hRz j
              obtain ⟨t0, t1, t2, t3, t4, t5, t6, t7⟩ := cells8x hTz
              have hg := set8_at (b0 := .int .i64 tk.kind) (b1 := .string ⟨tk.text.toArray⟩) (b2 := .bool false) (b3 := .string ⟨#[]⟩) (b4 := .int .i64 0) (b5 := .int .i64 0) (b6 := .bool false) (b7 := .slice none 0 0) hRz
              have hfin : Hid (OnePost l (.returned (.tuple #[.agg #[.int .i64 tk.kind, .string ⟨tk.text.toArray⟩, .bool false, .string ⟨#[]⟩, .int .i64 0, .int .i64 0, .bool false, .slice none 0 0], .bool true])) ∧ Below w.heap.size w (set8 wz w.heap.size (.int .i64 tk.kind) (.string ⟨tk.text.toArray⟩) (.bool false) (.string ⟨#[]⟩) (.int .i64 0) (.int .i64 0) (.bool false) (.slice none 0 0))) := Lib.hid ⟨hpost.out _ (by simp [h1, h3]), set8_below hBz (Nat.le_refl _)⟩
              obtain ⟨m0, m1, m2, m3, m4, m5, m6, m7⟩ := cells8x hg
              clear hg
              unfold set8 at m0 m1 m2 m3 m4 m5 m6 m7
              go_wp2
              refine bodyPost_ret (v := .tuple #[.agg #[.int .i64 tk.kind, .string ⟨tk.text.toArray⟩, .bool false, .string ⟨#[]⟩, .int .i64 0, .int .i64 0, .bool false, .slice none 0 0], .bool true]) (by simp [results, Tryz.results39, go_sem, m0, m1, m2, m3, m4, m5, m6, m7]) rfl hfin.out
end Go.Proofs.YtfaoamdlknlgpaaGreat

/- lex.One: a text's first token, where nothing stands ahead of it. -/
namespace Go.Proofs.YtfaoamdlknlgpaaGreat
open Go.RowKit
set_option linter.unusedVariables false

theorem skips_stay {R : List Rn} {s t : NS} (h : Skips R s t) (hs : ¬ AtIn R s ∨ AtTok R s) : t = s := by
  induction h with
  | refl => rfl
  | white h hi hw ih =>
    subst ih
    rcases hs with hs | hs
    · exact absurd hi hs
    · rw [hs.2.1] at hw; cases hw
  | com h hi hw hc ih =>
    subst ih
    rcases hs with hs | hs
    · exact absurd hi hs
    · exact absurd hc hs.2.2

/-- a text's first token, where no blank and no comment stands ahead of it -/
theorem one_tok {l : List UInt8} {e : Ending} (hp : OnePost l e) (hl : 0 < l.length) (h10 : chAt l 0 ≠ 10) (hw : whiteB (chAt l 0) = false) (hc : ¬ 0 < (commentL l 0).1) :
    e = .returned (.tuple #[.agg (if (nextL l 0).2.1 < l.length ∨ tellB l 0 (-1) = true then zeroTok.toArray else #[.int .i64 (nextL l 0).1, .string ⟨(l.take (nextL l 0).2.1).toArray⟩, .bool false, .string ⟨#[]⟩, .int .i64 0, .int .i64 0, .bool false, .slice none 0 0]), .bool (decide (¬ ((nextL l 0).2.1 < l.length ∨ tellB l 0 (-1) = true)))]) := by
  have hat : AtTok (plainR l) ⟨0, [], false, -1, false⟩ := by
    unfold AtTok AtIn
    rw [plainR_cs, plainR_len]
    exact ⟨⟨hl, h10⟩, hw, hc⟩
  obtain ⟨s, hsk, hh⟩ := hp
  have hs := skips_stay hsk (.inr hat)
  subst hs
  rcases hh with ⟨h1, _⟩ | ⟨_, rfl⟩
  · exact absurd hat.1 h1
  · have hd : (0 < (afterTok (plainR l) ⟨0, [], false, -1, false⟩).ds.length) ↔ tellB l 0 (-1) = true := by
      unfold afterTok
      simp only [plainR_cs]
      cases tellB l 0 (-1) <;> simp
    have hi : (afterTok (plainR l) ⟨0, [], false, -1, false⟩).i = (nextL l 0).2.1 := by unfold afterTok; simp only [plainR_cs]
    simp only [hd, hi, Bool.false_eq_true, false_or]
    unfold tokN
    simp only [plainR_cs, List.drop_zero, Nat.sub_zero]
end Go.Proofs.YtfaoamdlknlgpaaGreat

/- args: a string read as a text, in plain Lean: what the program does is what the document says. -/
namespace Go.Proofs.YtfaoamdlknlgpaaGreat
set_option linter.unusedVariables false

/-- what stands within the quotes, by the document -/
def inR : List UInt8 → Option (List UInt8)
  | [] => some []
  | [c] => if c = 34 ∨ c = 10 ∨ c = 92 then none else some [c]
  | c :: d :: r =>
    if c = 34 ∨ c = 10 then none
    else if c ≠ 92 then (inR (d :: r)).map (c :: ·)
    else if d = 34 ∨ d = 92 then (inR r).map (d :: ·)
    else if d = 10 then none
    else (inR r).map (92 :: d :: ·)

/-- the same, by the program, which knows that it is well formed -/
def unesc : List UInt8 → List UInt8
  | [] => []
  | [c] => [c]
  | c :: d :: r => if c = 92 ∧ (d = 34 ∨ d = 92) then d :: unesc r else c :: unesc (d :: r)

theorem quoL_leU (q : UInt8) : ∀ (L : List UInt8) (j : Nat), quoL q j L ≤ j + L.length
  | [], j => by simp [quoL]
  | [c], j => by unfold quoL; split <;> (try split) <;> simp
  | c :: d :: r, j => by
    have h1 := quoL_leU q r (j + 2)
    have h2 := quoL_leU q (d :: r) (j + 1)
    simp only [List.length_cons] at *
    unfold quoL
    split
    · omega
    · split
      · omega
      · split
        · omega
        · omega

theorem quoL_gtU (q : UInt8) : ∀ (L : List UInt8) (j : Nat), 0 < quoL q j L → j < quoL q j L
  | [], j => by simp [quoL]
  | [c], j => by unfold quoL; split <;> (try split) <;> simp
  | c :: d :: r, j => by
    have h1 := quoL_gtU q r (j + 2)
    have h2 := quoL_gtU q (d :: r) (j + 1)
    intro h
    unfold quoL at h ⊢
    split at h
    · omega
    · rename_i hc
      rw [if_neg hc]
      split at h
      · rename_i h3
        rw [if_pos h3]
        have := h1 h
        omega
      · rename_i h3
        rw [if_neg h3]
        split at h
        · rename_i h4
          rw [if_pos h4]; omega
        · rename_i h4
          rw [if_neg h4]
          have := h2 h
          omega

/-- a constant that is all of a text ends with its quote -/
theorem quoL_last : ∀ (L : List UInt8) (j : Nat), quoL 34 j L = j + L.length → L ≠ [] → ∃ X, L = X ++ [34] ∧ (inR X).isSome = true
  | [], j, _, hn => absurd rfl hn
  | [c], j, h, _ => by
    unfold quoL at h
    by_cases h1 : c = 10
    · rw [if_pos h1] at h; simp at h
    · rw [if_neg h1] at h
      by_cases h2 : c = 34
      · subst h2; exact ⟨[], rfl, rfl⟩
      · rw [if_neg h2] at h; simp at h
  | c :: d :: r, j, h, _ => by
    simp only [List.length_cons] at h
    unfold quoL at h
    by_cases h1 : c = 10
    · rw [if_pos h1] at h; omega
    · rw [if_neg h1] at h
      by_cases h2 : c = 92 ∧ d ≠ 10
      · rw [if_pos h2] at h
        by_cases hr : r = []
        · subst hr; simp [quoL] at h
        · obtain ⟨X, hX, hi⟩ := quoL_last r (j + 2) (by omega) hr
          refine ⟨c :: d :: X, by rw [hX]; rfl, ?_⟩
          obtain ⟨rfl, hd⟩ := h2
          unfold inR
          rw [if_neg (by decide), if_neg (by simp)]
          by_cases h3 : d = 34 ∨ d = 92
          · rw [if_pos h3]; simpa using hi
          · rw [if_neg h3, if_neg hd]; simpa using hi
      · rw [if_neg h2] at h
        by_cases h3 : c = 34
        · rw [if_pos h3] at h; omega
        · rw [if_neg h3] at h
          obtain ⟨X, hX, hi⟩ := quoL_last (d :: r) (j + 1) (by simp only [List.length_cons]; omega) (by simp)
          have hc92 : c ≠ 92 := by
            intro e
            have hd : d = 10 := Classical.byContradiction fun hd => h2 ⟨e, hd⟩
            subst hd
            rw [show quoL 34 (j + 1) (10 :: r) = 0 by cases r <;> simp [quoL]] at h
            omega
          refine ⟨c :: X, by rw [hX]; rfl, ?_⟩
          cases X with
          | nil => unfold inR; rw [if_neg (by simp [h1, h3, hc92])]; rfl
          | cons x X =>
            unfold inR
            rw [if_neg (by simp [h1, h3]), if_pos hc92]
            simpa using hi

theorem quoL_good : ∀ (X : List UInt8) (j : Nat), (inR X).isSome = true → quoL 34 j (X ++ [34]) = j + X.length + 1
  | [], j, _ => by simp [quoL]
  | [c], j, h => by
    unfold inR at h
    by_cases h1 : c = 34 ∨ c = 10 ∨ c = 92
    · rw [if_pos h1] at h; cases h
    · have a1 : c ≠ 34 := fun e => h1 (.inl e)
      have a2 : c ≠ 10 := fun e => h1 (.inr (.inl e))
      have a3 : c ≠ 92 := fun e => h1 (.inr (.inr e))
      show quoL 34 j [c, 34] = _
      unfold quoL
      rw [if_neg a2, if_neg (fun e => a3 e.1), if_neg a1]
      simp [quoL]
  | c :: d :: r, j, h => by
    unfold inR at h
    by_cases h1 : c = 34 ∨ c = 10
    · rw [if_pos h1] at h; cases h
    · rw [if_neg h1] at h
      have a1 : c ≠ 34 := fun e => h1 (.inl e)
      have a2 : c ≠ 10 := fun e => h1 (.inr e)
      show quoL 34 j (c :: d :: (r ++ [34])) = _
      unfold quoL
      rw [if_neg a2]
      by_cases h2 : c ≠ 92
      · rw [if_pos h2] at h
        rw [if_neg (fun e => h2 e.1), if_neg a1]
        have := quoL_good (d :: r) (j + 1) (by simpa using h)
        rw [List.cons_append] at this
        rw [this]
        simp only [List.length_cons]; omega
      · rw [if_neg h2] at h
        have hc : c = 92 := Classical.byContradiction h2
        have hd10 : d ≠ 10 := by
          intro e
          subst e
          rw [if_neg (by decide), if_pos rfl] at h
          cases h
        rw [if_pos ⟨hc, hd10⟩]
        have hr : (inR r).isSome = true := by
          by_cases h3 : d = 34 ∨ d = 92
          · rw [if_pos h3] at h; simpa using h
          · rw [if_neg h3, if_neg hd10] at h; simpa using h
        rw [quoL_good r (j + 2) hr]
        simp only [List.length_cons]; omega

theorem unesc_inR : ∀ (X Y : List UInt8), inR X = some Y → unesc X = Y
  | [], Y, h => by simpa [inR, unesc] using h
  | [c], Y, h => by
    unfold inR at h
    by_cases h1 : c = 34 ∨ c = 10 ∨ c = 92
    · rw [if_pos h1] at h; cases h
    · rw [if_neg h1] at h; simpa [unesc] using h
  | c :: d :: r, Y, h => by
    unfold inR at h
    by_cases h1 : c = 34 ∨ c = 10
    · rw [if_pos h1] at h; cases h
    · rw [if_neg h1] at h
      unfold unesc
      by_cases h2 : c ≠ 92
      · rw [if_pos h2] at h
        obtain ⟨Z, hZ, rfl⟩ := Option.map_eq_some_iff.1 h
        rw [if_neg (fun e => h2 e.1), unesc_inR (d :: r) Z hZ]
      · rw [if_neg h2] at h
        have hc : c = 92 := Classical.byContradiction h2
        subst hc
        by_cases h3 : d = 34 ∨ d = 92
        · rw [if_pos h3] at h
          obtain ⟨Z, hZ, rfl⟩ := Option.map_eq_some_iff.1 h
          rw [if_pos ⟨rfl, h3⟩, unesc_inR r Z hZ]
        · rw [if_neg h3] at h
          by_cases h4 : d = 10
          · rw [if_pos h4] at h; cases h
          · rw [if_neg h4] at h
            obtain ⟨Z, hZ, rfl⟩ := Option.map_eq_some_iff.1 h
            rw [if_neg (fun e => h3 e.2)]
            have hd92 : d ≠ 92 := fun e => h3 (.inr e)
            congr 1
            have := unesc_inR r Z hZ
            cases r with
            | nil => simpa [unesc] using this
            | cons x r =>
              unfold unesc
              rw [if_neg (fun e => hd92 e.1)]
              rw [this]
end Go.Proofs.YtfaoamdlknlgpaaGreat

/- args: a string read as a text: the program's way, and the document's, give the same. -/
namespace Go.Proofs.YtfaoamdlknlgpaaGreat
set_option linter.unusedVariables false

/-- the token that all of a text is, by the program: its kind -/
def oneK (A : List UInt8) : Option Nat :=
  if A.length = 0 ∨ chAt A 0 = 10 ∨ whiteB (chAt A 0) = true ∨ 0 < (commentL A 0).1 ∨ (nextL A 0).2.1 < A.length ∨ tellB A 0 (-1) = true then none else some (nextL A 0).1

theorem skips_sp {R : List Rn} {s t : NS} (h : Skips R s t) : t = s ∨ t.sp = true := by
  cases h with
  | refl => exact .inl rfl
  | white => exact .inr rfl
  | com => exact .inr rfl

def oneTok (A : List UInt8) : List Value :=
  match oneK A with
  | none => zeroTok
  | some k => [.int .i64 k, .string ⟨A.toArray⟩, .bool false, .string ⟨#[]⟩, .int .i64 0, .int .i64 0, .bool false, .slice none 0 0]

theorem one_plain {l : List UInt8} {e : Ending} (hp : OnePost l e) : e = .returned (.tuple #[.agg (oneTok l).toArray, .bool (oneK l).isSome]) := by
  by_cases h1 : l.length = 0 ∨ chAt l 0 = 10
  · have hk : oneK l = none := if_pos (by rcases h1 with h | h; exact .inl h; exact .inr (.inl h))
    have hnot : ¬ AtIn (plainR l) ⟨0, [], false, -1, false⟩ := by
      unfold AtIn
      rw [plainR_cs, plainR_len]
      rcases h1 with h | h
      · intro hh; simp only at hh; omega
      · exact fun hh => hh.2 h
    obtain ⟨s, hsk, hh⟩ := hp
    have hs := skips_stay hsk (.inl hnot)
    subst hs
    unfold oneTok
    rw [hk]
    rcases hh with ⟨_, rfl⟩ | ⟨h2, _⟩
    · rfl
    · exact absurd h2.1 hnot
  · have h0 : 0 < l.length := by omega
    have h10 : chAt l 0 ≠ 10 := fun e => h1 (.inr e)
    by_cases h2 : whiteB (chAt l 0) = true ∨ 0 < (commentL l 0).1
    · have hk : oneK l = none := if_pos (by rcases h2 with h | h; exact .inr (.inr (.inl h)); exact .inr (.inr (.inr (.inl h))))
      have hin : AtIn (plainR l) ⟨0, [], false, -1, false⟩ := by
        unfold AtIn
        rw [plainR_cs, plainR_len]
        exact ⟨h0, h10⟩
      have hnt : ¬ AtTok (plainR l) ⟨0, [], false, -1, false⟩ := by
        unfold AtTok
        rw [plainR_cs]
        rintro ⟨_, ha, hb⟩
        rcases h2 with h | h
        · rw [h] at ha; cases ha
        · exact hb h
      obtain ⟨s, hsk, hh⟩ := hp
      unfold oneTok
      rw [hk]
      rcases hh with ⟨_, rfl⟩ | ⟨hat, rfl⟩
      · rfl
      · rcases skips_sp hsk with e | hsp
        · subst e; exact absurd hat hnt
        · have hc : ((afterTok (plainR l) s).i < l.length ∨ s.sp = true ∨ 0 < (afterTok (plainR l) s).ds.length) := .inr (.inl hsp)
          simp [hc]
    · have hw : whiteB (chAt l 0) = false := by
        cases e : whiteB (chAt l 0) with
        | false => rfl
        | true => exact absurd (.inl e) h2
      have hc : ¬ 0 < (commentL l 0).1 := fun e => h2 (.inr e)
      rw [one_tok hp h0 h10 hw hc]
      unfold oneTok oneK
      by_cases h3 : (nextL l 0).2.1 < l.length ∨ tellB l 0 (-1) = true
      · have hh : l.length = 0 ∨ chAt l 0 = 10 ∨ whiteB (chAt l 0) = true ∨ 0 < (commentL l 0).1 ∨ (nextL l 0).2.1 < l.length ∨ tellB l 0 (-1) = true := .inr (.inr (.inr (.inr h3)))
        rw [if_pos hh, if_pos h3]
        simp [h3]
      · have hh : ¬ (l.length = 0 ∨ chAt l 0 = 10 ∨ whiteB (chAt l 0) = true ∨ 0 < (commentL l 0).1 ∨ (nextL l 0).2.1 < l.length ∨ tellB l 0 (-1) = true) := by
          rintro (h | h | h | h | h)
          · omega
          · exact h10 h
          · rw [hw] at h; cases h
          · exact hc h
          · exact h3 h
        rw [if_neg hh, if_neg h3]
        have ht : l.take (nextL l 0).2.1 = l := List.take_of_length_le (by omega)
        simp [h3, ht]

def prefs : List (List UInt8) := [[], [76], [117], [85], [117, 56]]
def aheadB (A p : List UInt8) : Bool := decide (p.length + 2 ≤ A.length) && (A.take p.length == p) && decide (chAt A p.length = 34) && decide (chAt A (A.length - 1) = 34)
/-- how many letters a string has ahead of its quote, by the document -/
def aheadL (A : List UInt8) : Option Nat := (prefs.find? (aheadB A)).map List.length
def insideL (A : List UInt8) (n : Nat) : List UInt8 := (A.drop (n + 1)).take (A.length - 1 - (n + 1))
def unqR (A : List UInt8) : Option (List UInt8) := (aheadL A).bind fun n => inR (insideL A n)
def unqP (A : List UInt8) : Option (List UInt8) := if oneK A = some 4 then some (unesc (insideL A (lettersL A 0).toNat)) else none

theorem chAt_cons0 (c : UInt8) (r : List UInt8) : chAt (c :: r) 0 = c := rfl
theorem chAt_consS (c : UInt8) (r : List UInt8) (i : Nat) : chAt (c :: r) (i + 1) = chAt r i := rfl
theorem chAt_app {p r : List UInt8} {i : Nat} : chAt (p ++ r) (p.length + i) = chAt r i := by
  unfold chAt
  rw [List.getD_eq_getElem?_getD, List.getD_eq_getElem?_getD, List.getElem?_append_right (by omega)]
  congr 2
  omega

/-- a string as it must be -/
theorem ahead_form {A : List UInt8} {n : Nat} (h : aheadL A = some n) : ∃ p X, p ∈ prefs ∧ p.length = n ∧ A = p ++ 34 :: (X ++ [34]) ∧ insideL A n = X := by
  unfold aheadL at h
  obtain ⟨p, hp, rfl⟩ := Option.map_eq_some_iff.1 h
  have hm := List.mem_of_find?_eq_some hp
  have hb := List.find?_some hp
  unfold aheadB at hb
  simp only [Bool.and_eq_true, decide_eq_true_eq, beq_iff_eq] at hb
  obtain ⟨⟨⟨h1, h2⟩, h3⟩, h4⟩ := hb
  have hA : A = p ++ A.drop p.length := by
    have := List.take_append_drop p.length A
    rw [h2] at this
    exact this.symm
  have hd : A.drop p.length = 34 :: A.drop (p.length + 1) := by rw [drop_at (by omega), h3]
  have hl : (A.drop (p.length + 1)).length = A.length - (p.length + 1) := List.length_drop
  have hlast : A.drop (p.length + 1) = (A.drop (p.length + 1)).take (A.length - 1 - (p.length + 1)) ++ [34] := by
    have h5 : (A.drop (p.length + 1)).drop (A.length - 1 - (p.length + 1)) = [34] := by
      rw [List.drop_drop, show p.length + 1 + (A.length - 1 - (p.length + 1)) = A.length - 1 by omega, drop_at (by omega), h4, List.drop_eq_nil_of_le (by omega)]
    conv => lhs; rw [← List.take_append_drop (A.length - 1 - (p.length + 1)) (A.drop (p.length + 1)), h5]
  refine ⟨p, insideL A p.length, hm, rfl, ?_, rfl⟩
  unfold insideL
  rw [← hlast, ← hd]
  exact hA

theorem ahead_of {p X : List UInt8} (hp : p ∈ prefs) : aheadL (p ++ 34 :: (X ++ [34])) = some p.length := by
  have hl1 : (p ++ 34 :: (X ++ [34])).length - 1 = p.length + (X.length + 1) := by simp
  have hlast : chAt (p ++ 34 :: (X ++ [34])) ((p ++ 34 :: (X ++ [34])).length - 1) = 34 := by
    rw [hl1, chAt_app, chAt_consS]
    have := chAt_app (p := X) (r := [34]) (i := 0)
    rw [Nat.add_zero] at this
    rw [this]; rfl
  have e : ∀ q, aheadB (p ++ 34 :: (X ++ [34])) q = (decide (q.length + 2 ≤ (p ++ 34 :: (X ++ [34])).length) && ((p ++ 34 :: (X ++ [34])).take q.length == q) && decide (chAt (p ++ 34 :: (X ++ [34])) q.length = 34)) := by
    intro q
    unfold aheadB
    rw [decide_eq_true hlast, Bool.and_true]
  clear hlast hl1
  simp only [prefs, List.mem_cons, List.not_mem_nil, or_false] at hp
  unfold aheadL prefs
  simp only [List.find?_cons, e]
  clear e
  rcases hp with rfl | rfl | rfl | rfl | rfl <;> simp [chAt, List.getD]

theorem letters_of {p X : List UInt8} (hp : p ∈ prefs) : lettersL (p ++ 34 :: (X ++ [34])) 0 = (p.length : Int) ∧ chAt (p ++ 34 :: (X ++ [34])) p.length = 34 := by
  simp only [prefs, List.mem_cons, List.not_mem_nil, or_false] at hp
  rcases hp with rfl | rfl | rfl | rfl | rfl <;> exact ⟨by simp [lettersL, chAt, List.getD], by simp [chAt, List.getD]⟩

theorem one_form {p X : List UInt8} (hp : p ∈ prefs) (hX : (inR X).isSome = true) : oneK (p ++ 34 :: (X ++ [34])) = some 4 := by
  obtain ⟨h1, h2⟩ := letters_of (X := X) hp
  obtain ⟨A, hA⟩ : ∃ A, A = p ++ 34 :: (X ++ [34]) := ⟨_, rfl⟩
  rw [← hA] at h1 h2 ⊢
  have hlen : A.length = p.length + X.length + 2 := by rw [hA]; simp; omega
  have hq : quotedL A p.length = A.length := by
    unfold quotedL
    rw [h2]
    have hd : A.drop (p.length + 1) = X ++ [34] := by rw [hA]; simp [List.drop_append]
    rw [hd, quoL_good X _ hX, hlen]
    omega
  have hn : (lettersL A 0).toNat = p.length := by rw [h1]; rfl
  have hnx : nextL A 0 = (4, A.length, false) := by
    unfold nextL
    rw [hn, Nat.zero_add, h2, hq, if_pos ⟨by rw [h1]; omega, by omega, rfl⟩]
  have hc0 : chAt A 0 = 34 ∨ chAt A 0 = 76 ∨ chAt A 0 = 117 ∨ chAt A 0 = 85 := by
    rw [hA]
    simp only [prefs, List.mem_cons, List.not_mem_nil, or_false] at hp
    rcases hp with rfl | rfl | rfl | rfl | rfl <;> simp [chAt, List.getD]
  unfold oneK
  rw [hnx, if_neg]
  rintro (h | h | h | h | h | h)
  · omega
  · rcases hc0 with e | e | e | e <;> rw [e] at h <;> exact absurd h (by decide)
  · rcases hc0 with e | e | e | e <;> rw [e] at h <;> exact absurd h (by decide)
  · have : (commentL A 0).1 = 0 := by
      unfold commentL
      rw [if_pos]
      rcases hc0 with e | e | e | e <;> rw [e] <;> decide
    omega
  · simp at h
  · unfold tellB closesL at h
    rw [hn, Nat.zero_add, hq] at h
    have := of_decide_eq_true h
    rw [if_neg (by omega)] at this
    omega

theorem one_back {A : List UInt8} (h : oneK A = some 4) : ∃ p X, p ∈ prefs ∧ A = p ++ 34 :: (X ++ [34]) ∧ (inR X).isSome = true ∧ lettersL A 0 = (p.length : Int) := by
  unfold oneK at h
  split at h
  · cases h
  · rename_i hh
    have hlen : ¬ (nextL A 0).2.1 < A.length := fun e => hh (.inr (.inr (.inr (.inr (.inl e)))))
    have hk : (nextL A 0).1 = 4 := Option.some.inj h
    obtain ⟨a1, a2, a3⟩ : 0 ≤ lettersL A 0 ∧ 0 < quotedL A (0 + (lettersL A 0).toNat) ∧ chAt A (0 + (lettersL A 0).toNat) = 34 := by
      apply Classical.byContradiction
      intro hn
      unfold nextL at hk
      rw [if_neg hn] at hk
      revert hk
      split
      · intro e; simp at e
      · split
        · intro e; simp at e
        · split
          · intro e; simp at e
          · split
            · intro e; simp at e
            · split <;> intro e <;> simp at e
    have he : (nextL A 0).2.1 = quotedL A (0 + (lettersL A 0).toNat) := by
      unfold nextL
      rw [if_pos ⟨a1, a2, a3⟩]
    rw [Nat.zero_add] at a2 a3 he
    obtain ⟨n, hn⟩ : ∃ n, n = (lettersL A 0).toNat := ⟨_, rfl⟩
    rw [← hn] at a2 a3 he
    have hle := (quotedL_le A n a2).2
    have hq : quotedL A n = A.length := by omega
    have hnl : n < A.length := by
      have := (quotedL_le A n a2).1
      omega
    have hne : A.drop (n + 1) ≠ [] := by
      intro e
      unfold quotedL at a2
      rw [e] at a2
      simp [quoL] at a2
    have hlast := quoL_last (A.drop (n + 1)) (n + 1) (by
      unfold quotedL at hq
      rw [a3] at hq
      rw [hq, List.length_drop]
      omega) hne
    obtain ⟨X, hX, hi⟩ := hlast
    have hp : A.take n ∈ prefs := by
      have hr := lettersL A 0
      have hcase : (lettersL A 0 = 0) ∨ (lettersL A 0 = 2 ∧ chAt A 0 = 117 ∧ chAt A 1 = 56) ∨ (lettersL A 0 = 1 ∧ (chAt A 0 = 76 ∨ chAt A 0 = 117 ∨ chAt A 0 = 85)) := by
        have h0 := a1
        unfold lettersL at h0 ⊢
        split
        · exact .inl rfl
        · split
          · rename_i hb; exact .inr (.inl ⟨rfl, hb.1, hb.2.1⟩)
          · split
            · rename_i hb; exact .inr (.inr ⟨rfl, hb.1⟩)
            · rename_i x1 x2 x3
              rw [if_neg x1, if_neg x2, if_neg x3] at h0
              omega
      have hch : ∀ j, j < n → A[j]? = some (chAt A j) := by
        intro j hj
        rw [List.getElem?_eq_getElem (by omega)]
        unfold chAt
        rw [List.getD_eq_getElem?_getD, List.getElem?_eq_getElem (by omega)]
        rfl
      rcases hcase with e | ⟨e, e0, e1⟩ | ⟨e, e0⟩
      · have : n = 0 := by rw [hn, e]; rfl
        subst this
        simp [prefs]
      · have : n = 2 := by rw [hn, e]; rfl
        subst this
        have h0 := hch 0 (by omega)
        have h1 := hch 1 (by omega)
        rw [e0] at h0
        rw [e1] at h1
        have : A.take 2 = [117, 56] := by
          rw [List.take_add_one, List.take_add_one, h0, h1]; rfl
        rw [this]; simp [prefs]
      · have : n = 1 := by rw [hn, e]; rfl
        subst this
        have h0 := hch 0 (by omega)
        have : A.take 1 = [chAt A 0] := by
          rw [List.take_add_one, h0]; rfl
        rw [this]
        rcases e0 with e0 | e0 | e0 <;> rw [e0] <;> simp [prefs]
    have hpl : (A.take n).length = n := by rw [List.length_take]; omega
    refine ⟨A.take n, X, hp, ?_, hi, by rw [hpl, hn]; omega⟩
    rw [← hX, ← a3, ← drop_at hnl, List.take_append_drop]

theorem unq_same (A : List UInt8) : unqP A = unqR A := by
  unfold unqP unqR
  by_cases h : oneK A = some 4
  · rw [if_pos h]
    obtain ⟨p, X, hp, hA, hi, hl⟩ := one_back h
    have hah : aheadL A = some p.length := by rw [hA]; exact ahead_of hp
    obtain ⟨p', X', hp', hpl, hA', hin⟩ := ahead_form hah
    have hX : X' = X := by
      rw [hA] at hA'
      have h1 := List.append_inj hA' hpl.symm
      have h2 := List.cons.inj h1.2
      exact (List.append_cancel_right h2.2).symm
    rw [hah]
    simp only [Option.bind_some]
    rw [show (lettersL A 0).toNat = p.length by rw [hl]; rfl, hin, hX]
    obtain ⟨Y, hY⟩ := Option.isSome_iff_exists.1 hi
    rw [hY, unesc_inR X Y hY]
  · rw [if_neg h]
    cases ha : aheadL A with
    | none => rfl
    | some n =>
      simp only [Option.bind_some]
      obtain ⟨p, X, hp, rfl, hA, hin⟩ := ahead_form ha
      rw [hin]
      cases hx : inR X with
      | none => rfl
      | some Y =>
        exfalso
        apply h
        rw [hA]
        exact one_form hp (by rw [hx]; rfl)
end Go.Proofs.YtfaoamdlknlgpaaGreat
