/- Texts of this seat's proofs, laid into one file. -/
import Derived.Test.YtfaoamdlknlgpaaGreatArgsCollectDoneG40
import Derived.BigQuiet
/- lex's One. -/
namespace Go.Proofs.YtfaoamdlknlgpaaGreat
open Go.RowKit
set_option linter.unusedVariables false

/-- a text's characters as they stand -/
def plainR (l : List UInt8) : List Rn := (List.range l.length).map fun i => ⟨l.getD i 0, i, i + 1⟩
theorem plainR_len (l : List UInt8) : (plainR l).length = l.length := by simp [plainR]
theorem plainR_get {l : List UInt8} {i : Nat} (h : i < l.length) : (plainR l)[i]? = some ⟨l.getD i 0, i, i + 1⟩ := by simp [plainR, h]
theorem plainR_cs (l : List UInt8) : cs (plainR l) = l := by
  apply List.ext_getElem
  · simp [cs, plainR]
  · intro i h1 h2
    simp [cs, plainR, List.getD_eq_getElem?_getD, h2]
theorem plainR_take {l : List UInt8} {k : Nat} (h : k < l.length) : (plainR l).take (k + 1) = (plainR l).take k ++ [⟨l.getD k 0, k, k + 1⟩] := by
  rw [List.take_add_one, plainR_get h]
  rfl

/-- what One gives -/
def OnePost (l : List UInt8) (e : Ending) : Prop :=
  ∃ s, Skips (plainR l) ⟨0, [], false, -1, false⟩ s ∧ ((¬ AtIn (plainR l) s ∧ e = .returned (.tuple #[.agg zeroTok.toArray, .bool false])) ∨
    (AtTok (plainR l) s ∧ e = .returned (.tuple #[.agg (if (afterTok (plainR l) s).i < l.length ∨ s.sp = true ∨ 0 < (afterTok (plainR l) s).ds.length then zeroTok.toArray else #[.int .i64 (tokN (plainR l) s).kind, .string ⟨(tokN (plainR l) s).text.toArray⟩, .bool false, .string ⟨#[]⟩, .int .i64 0, .int .i64 0, .bool false, .slice none 0 0]), .bool (decide (¬ ((afterTok (plainR l) s).i < l.length ∨ s.sp = true ∨ 0 < (afterTok (plainR l) s).ds.length)))])))

theorem Own.rn {w w' : World} {B sz : Nat} {v : Value} {css : List (List Value)} (h : Own w B 123 sz v css) (k : KeptRn w w') : Own w' B 123 sz v css := by
  refine ⟨⟨h.1.1, ?_⟩, h.2⟩
  rcases h.1.2 with h0 | ⟨g, cap, cur, hv, hg1, hg, r⟩
  · exact .inl h0
  · exact .inr ⟨g, cap, cur, hv, hg1, k g _ _ hg, r⟩

/-- what holds while the characters are laid -/
structure OneL (w wr : World) (l : List UInt8) (k : Nat) (v : Value) : Prop where
  walk : wr.heap[w.heap.size + 1]? = some (.cells #[.string ⟨#[]⟩, v, .int .i64 0, .slice none 0 0, .bool false, .int .i64 (-1)] 122 (0, 0))
  own : Own wr (w.heap.size + 2) 123 3 v (((plainR l).take k).map Rn.v)
  res : wr.heap[w.heap.size]? = some (.cells zeroTok.toArray 34 (0, 0))
  below : Below w.heap.size w wr

theorem get_byte {s : ByteArray} {k : Nat} (h : k < s.size) : s.data.toList.getD k 0 = s[k]'h := by
  rw [List.getD_eq_getElem?_getD, List.getElem?_eq_getElem (by rw [← Lib.size_eq]; exact h)]
  rfl

set_option maxHeartbeats 4000000 in
set_option maxRecDepth 100000 in
theorem lexOne_any (s : ByteArray) (hs : s.size ≤ 1000) (w : World) :
    Calls Tryz.prog 39 #[.string s] w fun e w' => OnePost s.data.toList e ∧ Below w.heap.size w w' := by
  obtain ⟨l, hl⟩ : ∃ l, l = s.data.toList := ⟨_, rfl⟩
  have HN : Hid (l.length = s.size) := Lib.hid (by rw [hl, ← Lib.size_eq])
  have HB : Hid (∀ k (h : k < s.size), l.getD k 0 = s[k]'h) := Lib.hid (by intro k h; rw [hl]; exact get_byte h)
  rw [← hl]
  go_enter Tryz.func39, Tryz.ntmps39
  clear hl
  have HI : OneL w ((w.alloc (.cells zeroTok.toArray 34)).alloc (.cells #[.string ⟨#[]⟩, .slice none 0 0, .int .i64 0, .slice none 0 0, .bool false, .int .i64 (-1)] 122)) l 0 (.slice none 0 0) :=
    ⟨by have := heap_alloc_new (w.alloc (.cells zeroTok.toArray 34)) (.cells #[.string ⟨#[]⟩, .slice none 0 0, .int .i64 0, .slice none 0 0, .bool false, .int .i64 (-1)] 122); simpa using this, Own.nil _ _ _ _, (Lib.alloc_old _ _ _ (by simp)).trans (heap_alloc_new w _), ((Below.refl _ w).alloc (Nat.le_refl _) _).alloc (by simp) _⟩
  unfold zeroTok at HI
  go_wp2_with fail
  go_loopg [13] s.size (fun u v wr => ∃ (k : Nat) (vl : Value), u = s.size - k ∧ k ≤ s.size ∧ v = .int .i64 k ∧ OneL w wr l k vl)
  case atStart => exact ⟨0, _, rfl, Nat.zero_le _, rfl, HI⟩
  case round =>
    obtain ⟨k, vl, rfl, hk, rfl, hO⟩ := hrel
    obtain ⟨vao, vcap, rfl, _, _, _, _⟩ := hO.own.rown (n := k) (by rw [List.length_map, List.length_take, plainR_len, HN.out]; omega)
    obtain ⟨c0, c1, c2, c3, c4, c5⟩ := cells6 hO.walk
    have fr := fun j => Lib.frozen_of_heap hO.walk j
    by_cases hlt : k < s.size
    · have e1 : (k : Int) < (s.size : Int) := by omega
      have q1 : IntKind.i64.wrap ((k : Int) + 1) = (k : Int) + 1 := IntWalk.i64_in _ (by omega)
      have hlenO : (((plainR l).take k).map Rn.v).length + 1 ≤ 1000000000 := by rw [List.length_map, List.length_take]; omega
      have hlk : (((plainR l).take k).map Rn.v).length = k := by rw [List.length_map, List.length_take, plainR_len, HN.out]; omega
      have hneb : (Value.slice vao k vcap).ownBlock ≠ some (w.heap.size + 1) := by intro e; have := hO.own.ge _ e; omega
      have hlb := lt_of_block hO.walk
      have hx : Hid (((plainR l).take (k + 1)).map Rn.v = ((plainR l).take k).map Rn.v ++ [[.int .u8 (s[k]'hlt).toNat, .int .i64 k, .int .i64 ((k : Int) + 1)]]) := Lib.hid (by
        rw [plainR_take (by rw [HN.out]; exact hlt), List.map_append, HB.out k hlt]
        rfl)
      go_upto_region 16 with fail
      go_region_law (first
        | (refine step_append1 E26 rfl rfl (Own.drew (hO.own.alloc _)) rfl rfl (heap_alloc_new wr _) rfl (by simp [Value.oneCell']) hlenO (by decide) (by simp; omega) ?_; intro v9 w9 hown9 hg9; have hc9 := (hg9.block (w.heap.size + 1) (by simp; omega) (fun e => hneb e.symm)).trans ((Lib.alloc_old wr _ _ hlb).trans hO.walk); obtain ⟨ao9, cap9, rfl, _, _, _, _⟩ := hown9.rown (n := k + 1) (by rw [List.length_append, hlk]; rfl); have qf := fun j => Lib.frozen_of_heap hc9 j; obtain ⟨z0, z1, z2, z3, z4, z5⟩ := cells6 hc9))
      all_goals
        have hO9 : OneL w (w9.setCell ⟨w.heap.size + 1, 1, none⟩ (.slice ao9 (k + 1) cap9)) l (k + 1) (.slice ao9 (k + 1) cap9) := by
          refine ⟨?_, ?_, ?_, ?_⟩
          · have := set_at hc9 1 (.slice ao9 (k + 1) cap9)
            simpa using this
          · rw [hx.out]
            exact hown9.setBelow (Nat.lt_succ_self _) _
          · exact (Below.heap_setCell _ _ _ _ (Nat.ne_of_lt (Nat.lt_succ_self _))).trans ((hg9.block w.heap.size (by simp; omega) (fun e => by have := hO.own.ge _ e.symm; omega)).trans ((Lib.alloc_old wr _ _ (by omega)).trans hO.res))
          · exact (bapp (hO.below.alloc hO.below.size _).drew (Own.drew ((hO.own.mono (by omega)).alloc _)) hg9 (by have := hO.below.size; simp; omega)).setCell (p := ⟨w.heap.size + 1, 1, none⟩) (by simp) _
        go_wp2_with fail
        go_roundg (s.size - (k + 1))
        case measure => omega
        case rel => exact ⟨k + 1, _, rfl, by omega, by go_num, hO9⟩
    · obtain rfl : k = s.size := by omega
      have e1 : ¬ (s.size : Int) < (s.size : Int) := by omega
      have hown := hO.own
      rw [List.take_of_length_le (by rw [plainR_len, HN.out]; exact Nat.le_refl _)] at hown
      have hL : LwAt wr wr (w.heap.size + 1) ⟨#[]⟩ s.size vao vcap 0 (.slice none 0 0) [] false (-1) := ⟨hO.walk, Bel.refl _ _, Own.nil _ _ _ _⟩
      have hcap : s.size ≤ vcap := by assumption
      have HC := next_any wr (w.heap.size + 1) ⟨#[]⟩ (plainR l) vao vcap (.slice none 0 0) ⟨0, [], false, -1, false⟩ (fun w' h => by
        obtain ⟨ao', cap', e', _, _, hr, _⟩ := (hown.rn h.rn).row
        simp only [Value.slice.injEq] at e'
        rw [e'.1]
        exact hr) (by rw [plainR_len, HN.out]; exact hcap) (by rw [plainR_len, HN.out]; omega) (Nat.zero_le _) (by simp) rfl wr (by rw [plainR_len, HN.out]; exact hL)
      rw [plainR_len, HN.out] at HC
      unfold NextPost at HC
      replace HC := Lib.hid HC
      clear hL hown
      go_wp2_with fail
      refine HC.out.mono ?_
      rintro e w8 ⟨st, hsk, hX8, hend | htok⟩
      · obtain ⟨hne, rfl, vd8, h8⟩ := hend
        clear c0 c1 c2 c3 c4 c5 fr
        unfold zeroTok
        have h9 := h8.after ((Below.refl _ w8).alloc (Nat.le_refl _) (.cells #[.int .i64 0, .string ⟨#[]⟩, .bool false, .string ⟨#[]⟩, .int .i64 0, .int .i64 0, .bool false, .slice none 0 0] 34))
        have hT9 := heap_alloc_new w8 (.cells #[.int .i64 0, .string ⟨#[]⟩, .bool false, .string ⟨#[]⟩, .int .i64 0, .int .i64 0, .bool false, .slice none 0 0] 34)
        have hR9 : (w8.alloc (.cells #[.int .i64 0, .string ⟨#[]⟩, .bool false, .string ⟨#[]⟩, .int .i64 0, .int .i64 0, .bool false, .slice none 0 0] 34)).heap[w.heap.size]? = _ := (h9.below.lo.block w.heap.size (Nat.lt_succ_self _)).trans hO.res
        have hB9 : Below w.heap.size w (w8.alloc (.cells #[.int .i64 0, .string ⟨#[]⟩, .bool false, .string ⟨#[]⟩, .int .i64 0, .int .i64 0, .bool false, .slice none 0 0] 34)) := hO.below.trans (h9.below.lo.mono (Nat.le_succ _))
        obtain ⟨c0, c1, c2, c3, c4, c5⟩ := cells6 h9.cells
        obtain ⟨t0, t1, t2, t3, t4, t5, t6, t7⟩ := cells8x hT9
        go_wp2_with fail
        go_quiet (fail)
        have hRz := ((drewN_below (w8.alloc (.cells #[.int .i64 0, .string ⟨#[]⟩, .bool false, .string ⟨#[]⟩, .int .i64 0, .int .i64 0, .bool false, .slice none 0 0] 34)) nq).block w.heap.size (lt_of_block hR9)).trans hR9
        have hTz := ((drewN_below (w8.alloc (.cells #[.int .i64 0, .string ⟨#[]⟩, .bool false, .string ⟨#[]⟩, .int .i64 0, .int .i64 0, .bool false, .slice none 0 0] 34)) nq).block w8.heap.size (lt_of_block hT9)).trans hT9
        have hBz := hB9.trans ((drewN_below (w8.alloc (.cells #[.int .i64 0, .string ⟨#[]⟩, .bool false, .string ⟨#[]⟩, .int .i64 0, .int .i64 0, .bool false, .slice none 0 0] 34)) nq).mono hB9.size)
        obtain ⟨wz, hwz⟩ : ∃ wz, wz = (w8.alloc (.cells #[.int .i64 0, .string ⟨#[]⟩, .bool false, .string ⟨#[]⟩, .int .i64 0, .int .i64 0, .bool false, .slice none 0 0] 34)).drewN nq := ⟨_, rfl⟩
        rw [← hwz] at hRz hTz hBz ⊢
        clear hwz hR9 hB9 c0 c1 c2 c3 c4 c5 t0 t1 t2 t3 t4 t5 t6 t7 h9 hT9
        obtain ⟨r0, r1, r2, r3, r4, r5, r6, r7⟩ := cells8x hRz
        have fr := fun j => Lib.frozen_of_heap hRz j
        obtain ⟨t0, t1, t2, t3, t4, t5, t6, t7⟩ := cells8x hTz
        have hg := set8_at (b0 := .int .i64 0) (b1 := .string ⟨#[]⟩) (b2 := .bool false) (b3 := .string ⟨#[]⟩) (b4 := .int .i64 0) (b5 := .int .i64 0) (b6 := .bool false) (b7 := .slice none 0 0) hRz
        have hfin : Hid (OnePost l (.returned (.tuple #[.agg #[.int .i64 0, .string ⟨#[]⟩, .bool false, .string ⟨#[]⟩, .int .i64 0, .int .i64 0, .bool false, .slice none 0 0], .bool false])) ∧ Below w.heap.size w (set8 wz w.heap.size (.int .i64 0) (.string ⟨#[]⟩) (.bool false) (.string ⟨#[]⟩) (.int .i64 0) (.int .i64 0) (.bool false) (.slice none 0 0))) := Lib.hid ⟨⟨st, hsk, .inl ⟨hne, rfl⟩⟩, set8_below hBz (Nat.le_refl _)⟩
        obtain ⟨m0, m1, m2, m3, m4, m5, m6, m7⟩ := cells8x hg
        clear hg
        unfold set8 at m0 m1 m2 m3 m4 m5 m6 m7
        go_wp2
        refine bodyPost_ret (v := .tuple #[.agg #[.int .i64 0, .string ⟨#[]⟩, .bool false, .string ⟨#[]⟩, .int .i64 0, .int .i64 0, .bool false, .slice none 0 0], .bool false]) (by simp [results, Tryz.results39, go_sem, m0, m1, m2, m3, m4, m5, m6, m7]) rfl hfin.out
      · obtain ⟨hat, rfl, vd8, h8⟩ := htok
        clear c0 c1 c2 c3 c4 c5 fr
        have hpost : ∀ v, v = Ending.returned (.tuple #[.agg (if (afterTok (plainR l) st).i < l.length ∨ st.sp = true ∨ 0 < (afterTok (plainR l) st).ds.length then zeroTok.toArray else #[.int .i64 (tokN (plainR l) st).kind, .string ⟨(tokN (plainR l) st).text.toArray⟩, .bool false, .string ⟨#[]⟩, .int .i64 0, .int .i64 0, .bool false, .slice none 0 0]), .bool (decide (¬ ((afterTok (plainR l) st).i < l.length ∨ st.sp = true ∨ 0 < (afterTok (plainR l) st).ds.length)))]) → OnePost l v := fun v hv => ⟨st, hsk, .inr ⟨hat, hv⟩⟩
        have hsp : (tokN (plainR l) st).space = st.sp := rfl
        rw [← hsp] at hpost
        obtain ⟨A, hA⟩ : ∃ A, A = afterTok (plainR l) st := ⟨_, rfl⟩
        obtain ⟨tk, htk⟩ : ∃ tk, tk = tokN (plainR l) st := ⟨_, rfl⟩
        rw [← hA, ← htk, HN.out] at hpost
        rw [← hA] at h8
        rw [← htk]
        clear hA htk hsk hat hsp HC
        replace hpost := Lib.hid hpost
        obtain ⟨dvo, dvc, rfl, _, _, _, _⟩ := h8.diags.rown (n := A.ds.length) (by simp)
        unfold tkC
        have h9 := h8.after ((Below.refl _ w8).alloc (Nat.le_refl _) (.cells #[.int .i64 tk.kind, .string ⟨tk.text.toArray⟩, .bool tk.space, .string ⟨#[]⟩, .int .i64 tk.f, .int .i64 tk.t, .bool false, .slice none 0 0] 34))
        have hT9 := heap_alloc_new w8 (.cells #[.int .i64 tk.kind, .string ⟨tk.text.toArray⟩, .bool tk.space, .string ⟨#[]⟩, .int .i64 tk.f, .int .i64 tk.t, .bool false, .slice none 0 0] 34)
        have hR9 : (w8.alloc (.cells #[.int .i64 tk.kind, .string ⟨tk.text.toArray⟩, .bool tk.space, .string ⟨#[]⟩, .int .i64 tk.f, .int .i64 tk.t, .bool false, .slice none 0 0] 34)).heap[w.heap.size]? = _ := (h9.below.lo.block w.heap.size (Nat.lt_succ_self _)).trans hO.res
        have hB9 : Below w.heap.size w (w8.alloc (.cells #[.int .i64 tk.kind, .string ⟨tk.text.toArray⟩, .bool tk.space, .string ⟨#[]⟩, .int .i64 tk.f, .int .i64 tk.t, .bool false, .slice none 0 0] 34)) := hO.below.trans (h9.below.lo.mono (Nat.le_succ _))
        obtain ⟨c0, c1, c2, c3, c4, c5⟩ := cells6 h9.cells
        obtain ⟨t0, t1, t2, t3, t4, t5, t6, t7⟩ := cells8x hT9
        by_cases h1 : A.i < s.size
        · have e2 : (A.i : Int) < (s.size : Int) := by omega
          have d1 : decide ((A.i : Int) < (s.size : Int)) = true := decide_eq_true e2
          go_wp2_with fail
          go_quiet (fail)
          have hRz := ((drewN_below (w8.alloc (.cells #[.int .i64 tk.kind, .string ⟨tk.text.toArray⟩, .bool tk.space, .string ⟨#[]⟩, .int .i64 tk.f, .int .i64 tk.t, .bool false, .slice none 0 0] 34)) nq).block w.heap.size (lt_of_block hR9)).trans hR9
          have hTz := ((drewN_below (w8.alloc (.cells #[.int .i64 tk.kind, .string ⟨tk.text.toArray⟩, .bool tk.space, .string ⟨#[]⟩, .int .i64 tk.f, .int .i64 tk.t, .bool false, .slice none 0 0] 34)) nq).block w8.heap.size (lt_of_block hT9)).trans hT9
          have hBz := hB9.trans ((drewN_below (w8.alloc (.cells #[.int .i64 tk.kind, .string ⟨tk.text.toArray⟩, .bool tk.space, .string ⟨#[]⟩, .int .i64 tk.f, .int .i64 tk.t, .bool false, .slice none 0 0] 34)) nq).mono hB9.size)
          obtain ⟨wz, hwz⟩ : ∃ wz, wz = (w8.alloc (.cells #[.int .i64 tk.kind, .string ⟨tk.text.toArray⟩, .bool tk.space, .string ⟨#[]⟩, .int .i64 tk.f, .int .i64 tk.t, .bool false, .slice none 0 0] 34)).drewN nq := ⟨_, rfl⟩
          rw [← hwz] at hRz hTz hBz ⊢
          clear hwz hR9 hB9 c0 c1 c2 c3 c4 c5 t0 t1 t2 t3 t4 t5 t6 t7 h9 hT9
          obtain ⟨r0, r1, r2, r3, r4, r5, r6, r7⟩ := cells8x hRz
          have fr := fun j => Lib.frozen_of_heap hRz j
          obtain ⟨t0, t1, t2, t3, t4, t5, t6, t7⟩ := cells8x hTz
          have hg := set8_at (b0 := .int .i64 0) (b1 := .string ⟨#[]⟩) (b2 := .bool false) (b3 := .string ⟨#[]⟩) (b4 := .int .i64 0) (b5 := .int .i64 0) (b6 := .bool false) (b7 := .slice none 0 0) hRz
          have hfin : Hid (OnePost l (.returned (.tuple #[.agg #[.int .i64 0, .string ⟨#[]⟩, .bool false, .string ⟨#[]⟩, .int .i64 0, .int .i64 0, .bool false, .slice none 0 0], .bool false])) ∧ Below w.heap.size w (set8 wz w.heap.size (.int .i64 0) (.string ⟨#[]⟩) (.bool false) (.string ⟨#[]⟩) (.int .i64 0) (.int .i64 0) (.bool false) (.slice none 0 0))) := Lib.hid ⟨hpost.out _ (by simp [h1, zeroTok]), set8_below hBz (Nat.le_refl _)⟩
          obtain ⟨m0, m1, m2, m3, m4, m5, m6, m7⟩ := cells8x hg
          clear hg
          unfold set8 at m0 m1 m2 m3 m4 m5 m6 m7
          go_wp2
          refine bodyPost_ret (v := .tuple #[.agg #[.int .i64 0, .string ⟨#[]⟩, .bool false, .string ⟨#[]⟩, .int .i64 0, .int .i64 0, .bool false, .slice none 0 0], .bool false]) (by simp [results, Tryz.results39, go_sem, m0, m1, m2, m3, m4, m5, m6, m7]) rfl hfin.out
        · have e2 : ¬ (A.i : Int) < (s.size : Int) := by omega
          have d1 : decide ((A.i : Int) < (s.size : Int)) = false := decide_eq_false e2
          cases h2 : tk.space with
          | true =>
            rw [h2] at hpost
            rw [h2] at h9 hT9 hR9 hB9 t0 t1 t2 t3 t4 t5 t6 t7 c0 c1 c2 c3 c4 c5
            go_wp2_with fail
            go_quiet (fail)
            have hRz := ((drewN_below (w8.alloc (.cells #[.int .i64 tk.kind, .string ⟨tk.text.toArray⟩, .bool true, .string ⟨#[]⟩, .int .i64 tk.f, .int .i64 tk.t, .bool false, .slice none 0 0] 34)) nq).block w.heap.size (lt_of_block hR9)).trans hR9
            have hTz := ((drewN_below (w8.alloc (.cells #[.int .i64 tk.kind, .string ⟨tk.text.toArray⟩, .bool true, .string ⟨#[]⟩, .int .i64 tk.f, .int .i64 tk.t, .bool false, .slice none 0 0] 34)) nq).block w8.heap.size (lt_of_block hT9)).trans hT9
            have hBz := hB9.trans ((drewN_below (w8.alloc (.cells #[.int .i64 tk.kind, .string ⟨tk.text.toArray⟩, .bool true, .string ⟨#[]⟩, .int .i64 tk.f, .int .i64 tk.t, .bool false, .slice none 0 0] 34)) nq).mono hB9.size)
            obtain ⟨wz, hwz⟩ : ∃ wz, wz = (w8.alloc (.cells #[.int .i64 tk.kind, .string ⟨tk.text.toArray⟩, .bool true, .string ⟨#[]⟩, .int .i64 tk.f, .int .i64 tk.t, .bool false, .slice none 0 0] 34)).drewN nq := ⟨_, rfl⟩
            rw [← hwz] at hRz hTz hBz ⊢
            clear hwz hR9 hB9 c0 c1 c2 c3 c4 c5 t0 t1 t2 t3 t4 t5 t6 t7 h9 hT9
            obtain ⟨r0, r1, r2, r3, r4, r5, r6, r7⟩ := cells8x hRz
            have fr := fun j => Lib.frozen_of_heap hRz j
            obtain ⟨t0, t1, t2, t3, t4, t5, t6, t7⟩ := cells8x hTz
            have hg := set8_at (b0 := .int .i64 0) (b1 := .string ⟨#[]⟩) (b2 := .bool false) (b3 := .string ⟨#[]⟩) (b4 := .int .i64 0) (b5 := .int .i64 0) (b6 := .bool false) (b7 := .slice none 0 0) hRz
            have hfin : Hid (OnePost l (.returned (.tuple #[.agg #[.int .i64 0, .string ⟨#[]⟩, .bool false, .string ⟨#[]⟩, .int .i64 0, .int .i64 0, .bool false, .slice none 0 0], .bool false])) ∧ Below w.heap.size w (set8 wz w.heap.size (.int .i64 0) (.string ⟨#[]⟩) (.bool false) (.string ⟨#[]⟩) (.int .i64 0) (.int .i64 0) (.bool false) (.slice none 0 0))) := Lib.hid ⟨hpost.out _ (by simp [zeroTok]), set8_below hBz (Nat.le_refl _)⟩
            obtain ⟨m0, m1, m2, m3, m4, m5, m6, m7⟩ := cells8x hg
            clear hg
            unfold set8 at m0 m1 m2 m3 m4 m5 m6 m7
            go_wp2
            refine bodyPost_ret (v := .tuple #[.agg #[.int .i64 0, .string ⟨#[]⟩, .bool false, .string ⟨#[]⟩, .int .i64 0, .int .i64 0, .bool false, .slice none 0 0], .bool false]) (by simp [results, Tryz.results39, go_sem, m0, m1, m2, m3, m4, m5, m6, m7]) rfl hfin.out
          | false =>
            rw [h2] at hpost
            rw [h2] at h9 hT9 hR9 hB9 t0 t1 t2 t3 t4 t5 t6 t7 c0 c1 c2 c3 c4 c5
            by_cases h3 : 0 < A.ds.length
            · have d3 : decide ((0 : Int) < (A.ds.length : Int)) = true := decide_eq_true (by omega)
              have e3 : (0 : Int) < (A.ds.length : Int) := by omega
              go_wp2_with fail
              go_quiet (fail)
              have hRz := ((drewN_below (w8.alloc (.cells #[.int .i64 tk.kind, .string ⟨tk.text.toArray⟩, .bool false, .string ⟨#[]⟩, .int .i64 tk.f, .int .i64 tk.t, .bool false, .slice none 0 0] 34)) nq).block w.heap.size (lt_of_block hR9)).trans hR9
              have hTz := ((drewN_below (w8.alloc (.cells #[.int .i64 tk.kind, .string ⟨tk.text.toArray⟩, .bool false, .string ⟨#[]⟩, .int .i64 tk.f, .int .i64 tk.t, .bool false, .slice none 0 0] 34)) nq).block w8.heap.size (lt_of_block hT9)).trans hT9
              have hBz := hB9.trans ((drewN_below (w8.alloc (.cells #[.int .i64 tk.kind, .string ⟨tk.text.toArray⟩, .bool false, .string ⟨#[]⟩, .int .i64 tk.f, .int .i64 tk.t, .bool false, .slice none 0 0] 34)) nq).mono hB9.size)
              obtain ⟨wz, hwz⟩ : ∃ wz, wz = (w8.alloc (.cells #[.int .i64 tk.kind, .string ⟨tk.text.toArray⟩, .bool false, .string ⟨#[]⟩, .int .i64 tk.f, .int .i64 tk.t, .bool false, .slice none 0 0] 34)).drewN nq := ⟨_, rfl⟩
              rw [← hwz] at hRz hTz hBz ⊢
              clear hwz hR9 hB9 c0 c1 c2 c3 c4 c5 t0 t1 t2 t3 t4 t5 t6 t7 h9 hT9
              obtain ⟨r0, r1, r2, r3, r4, r5, r6, r7⟩ := cells8x hRz
              have fr := fun j => Lib.frozen_of_heap hRz j
              obtain ⟨t0, t1, t2, t3, t4, t5, t6, t7⟩ := cells8x hTz
              have hg := set8_at (b0 := .int .i64 0) (b1 := .string ⟨#[]⟩) (b2 := .bool false) (b3 := .string ⟨#[]⟩) (b4 := .int .i64 0) (b5 := .int .i64 0) (b6 := .bool false) (b7 := .slice none 0 0) hRz
              have hfin : Hid (OnePost l (.returned (.tuple #[.agg #[.int .i64 0, .string ⟨#[]⟩, .bool false, .string ⟨#[]⟩, .int .i64 0, .int .i64 0, .bool false, .slice none 0 0], .bool false])) ∧ Below w.heap.size w (set8 wz w.heap.size (.int .i64 0) (.string ⟨#[]⟩) (.bool false) (.string ⟨#[]⟩) (.int .i64 0) (.int .i64 0) (.bool false) (.slice none 0 0))) := Lib.hid ⟨hpost.out _ (by simp [h3, zeroTok]), set8_below hBz (Nat.le_refl _)⟩
              obtain ⟨m0, m1, m2, m3, m4, m5, m6, m7⟩ := cells8x hg
              clear hg
              unfold set8 at m0 m1 m2 m3 m4 m5 m6 m7
              go_wp2
              refine bodyPost_ret (v := .tuple #[.agg #[.int .i64 0, .string ⟨#[]⟩, .bool false, .string ⟨#[]⟩, .int .i64 0, .int .i64 0, .bool false, .slice none 0 0], .bool false]) (by simp [results, Tryz.results39, go_sem, m0, m1, m2, m3, m4, m5, m6, m7]) rfl hfin.out
            · have d3 : decide ((0 : Int) < (A.ds.length : Int)) = false := decide_eq_false (by omega)
              have e3 : ¬ (0 : Int) < (A.ds.length : Int) := by omega
              go_wp2_with fail
              go_quiet (fail)
              have hRz := ((drewN_below (w8.alloc (.cells #[.int .i64 tk.kind, .string ⟨tk.text.toArray⟩, .bool false, .string ⟨#[]⟩, .int .i64 tk.f, .int .i64 tk.t, .bool false, .slice none 0 0] 34)) nq).block w.heap.size (lt_of_block hR9)).trans hR9
              have hTz := ((drewN_below (w8.alloc (.cells #[.int .i64 tk.kind, .string ⟨tk.text.toArray⟩, .bool false, .string ⟨#[]⟩, .int .i64 tk.f, .int .i64 tk.t, .bool false, .slice none 0 0] 34)) nq).block w8.heap.size (lt_of_block hT9)).trans hT9
              have hBz := hB9.trans ((drewN_below (w8.alloc (.cells #[.int .i64 tk.kind, .string ⟨tk.text.toArray⟩, .bool false, .string ⟨#[]⟩, .int .i64 tk.f, .int .i64 tk.t, .bool false, .slice none 0 0] 34)) nq).mono hB9.size)
              obtain ⟨wz, hwz⟩ : ∃ wz, wz = (w8.alloc (.cells #[.int .i64 tk.kind, .string ⟨tk.text.toArray⟩, .bool false, .string ⟨#[]⟩, .int .i64 tk.f, .int .i64 tk.t, .bool false, .slice none 0 0] 34)).drewN nq := ⟨_, rfl⟩
              rw [← hwz] at hRz hTz hBz ⊢
              clear hwz hR9 hB9 c0 c1 c2 c3 c4 c5 t0 t1 t2 t3 t4 t5 t6 t7 h9 hT9
              obtain ⟨r0, r1, r2, r3, r4, r5, r6, r7⟩ := cells8x hRz
              have fr := fun j => Lib.frozen_of_heap hRz j
              obtain ⟨t0, t1, t2, t3, t4, t5, t6, t7⟩ := cells8x hTz
              have hg := set8_at (b0 := .int .i64 tk.kind) (b1 := .string ⟨tk.text.toArray⟩) (b2 := .bool false) (b3 := .string ⟨#[]⟩) (b4 := .int .i64 0) (b5 := .int .i64 0) (b6 := .bool false) (b7 := .slice none 0 0) hRz
              have hfin : Hid (OnePost l (.returned (.tuple #[.agg #[.int .i64 tk.kind, .string ⟨tk.text.toArray⟩, .bool false, .string ⟨#[]⟩, .int .i64 0, .int .i64 0, .bool false, .slice none 0 0], .bool true])) ∧ Below w.heap.size w (set8 wz w.heap.size (.int .i64 tk.kind) (.string ⟨tk.text.toArray⟩) (.bool false) (.string ⟨#[]⟩) (.int .i64 0) (.int .i64 0) (.bool false) (.slice none 0 0))) := Lib.hid ⟨hpost.out _ (by simp [h1, h3]), set8_below hBz (Nat.le_refl _)⟩
              obtain ⟨m0, m1, m2, m3, m4, m5, m6, m7⟩ := cells8x hg
              clear hg
              unfold set8 at m0 m1 m2 m3 m4 m5 m6 m7
              go_wp2
              refine bodyPost_ret (v := .tuple #[.agg #[.int .i64 tk.kind, .string ⟨tk.text.toArray⟩, .bool false, .string ⟨#[]⟩, .int .i64 0, .int .i64 0, .bool false, .slice none 0 0], .bool true]) (by simp [results, Tryz.results39, go_sem, m0, m1, m2, m3, m4, m5, m6, m7]) rfl hfin.out
end Go.Proofs.YtfaoamdlknlgpaaGreat

/- lex.One: a text's first token, where nothing stands ahead of it. -/
namespace Go.Proofs.YtfaoamdlknlgpaaGreat
open Go.RowKit
set_option linter.unusedVariables false

theorem skips_stay {R : List Rn} {s t : NS} (h : Skips R s t) (hs : ¬ AtIn R s ∨ AtTok R s) : t = s := by
  induction h with
  | refl => rfl
  | white h hi hw ih =>
    subst ih
    rcases hs with hs | hs
    · exact absurd hi hs
    · rw [hs.2.1] at hw; cases hw
  | com h hi hw hc ih =>
    subst ih
    rcases hs with hs | hs
    · exact absurd hi hs
    · exact absurd hc hs.2.2

/-- a text's first token, where no blank and no comment stands ahead of it -/
theorem one_tok {l : List UInt8} {e : Ending} (hp : OnePost l e) (hl : 0 < l.length) (h10 : chAt l 0 ≠ 10) (hw : whiteB (chAt l 0) = false) (hc : ¬ 0 < (commentL l 0).1) :
    e = .returned (.tuple #[.agg (if (nextL l 0).2.1 < l.length ∨ tellB l 0 (-1) = true then zeroTok.toArray else #[.int .i64 (nextL l 0).1, .string ⟨(l.take (nextL l 0).2.1).toArray⟩, .bool false, .string ⟨#[]⟩, .int .i64 0, .int .i64 0, .bool false, .slice none 0 0]), .bool (decide (¬ ((nextL l 0).2.1 < l.length ∨ tellB l 0 (-1) = true)))]) := by
  have hat : AtTok (plainR l) ⟨0, [], false, -1, false⟩ := by
    unfold AtTok AtIn
    rw [plainR_cs, plainR_len]
    exact ⟨⟨hl, h10⟩, hw, hc⟩
  obtain ⟨s, hsk, hh⟩ := hp
  have hs := skips_stay hsk (.inr hat)
  subst hs
  rcases hh with ⟨h1, _⟩ | ⟨_, rfl⟩
  · exact absurd hat.1 h1
  · have hd : (0 < (afterTok (plainR l) ⟨0, [], false, -1, false⟩).ds.length) ↔ tellB l 0 (-1) = true := by
      unfold afterTok
      simp only [plainR_cs]
      cases tellB l 0 (-1) <;> simp
    have hi : (afterTok (plainR l) ⟨0, [], false, -1, false⟩).i = (nextL l 0).2.1 := by unfold afterTok; simp only [plainR_cs]
    simp only [hd, hi, Bool.false_eq_true, false_or]
    unfold tokN
    simp only [plainR_cs, List.drop_zero, Nat.sub_zero]
end Go.Proofs.YtfaoamdlknlgpaaGreat
