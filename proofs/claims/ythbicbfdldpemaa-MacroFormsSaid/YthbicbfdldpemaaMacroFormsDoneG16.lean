/- Texts of this seat's proofs, laid into one file. -/
import Derived.Test.YthbicbfdldpemaaMacroFormsDoneG15
import Derived.BigQuiet
/- lex's One. -/
namespace Go.Proofs.Ythbicbfdldpemaa
open Go.RowKit
set_option linter.unusedVariables false

/-- a text's characters as they stand -/
def plainR (l : List UInt8) : List Rn := (List.range l.length).map fun i => ⟨l.getD i 0, i, i + 1⟩
theorem plainR_len (l : List UInt8) : (plainR l).length = l.length := by simp [plainR]
theorem plainR_get {l : List UInt8} {i : Nat} (h : i < l.length) : (plainR l)[i]? = some ⟨l.getD i 0, i, i + 1⟩ := by simp [plainR, h]
theorem plainR_cs (l : List UInt8) : cs (plainR l) = l := by
  apply List.ext_getElem
  · simp [cs, plainR]
  · intro i h1 h2
    simp [cs, plainR, List.getD_eq_getElem?_getD, h2]
theorem plainR_take {l : List UInt8} {k : Nat} (h : k < l.length) : (plainR l).take (k + 1) = (plainR l).take k ++ [⟨l.getD k 0, k, k + 1⟩] := by
  rw [List.take_add_one, plainR_get h]
  rfl

/-- what One gives -/
def OnePost (l : List UInt8) (e : Ending) : Prop :=
  ∃ s, Skips (plainR l) ⟨0, [], false, -1, false⟩ s ∧ ((¬ AtIn (plainR l) s ∧ e = .returned (.tuple #[.agg zeroTok.toArray, .bool false])) ∨
    (AtTok (plainR l) s ∧ e = .returned (.tuple #[.agg (if (afterTok (plainR l) s).i < l.length ∨ s.sp = true ∨ 0 < (afterTok (plainR l) s).ds.length then zeroTok.toArray else #[.int .i64 (tokN (plainR l) s).kind, .string ⟨(tokN (plainR l) s).text.toArray⟩, .bool false, .string ⟨#[]⟩, .int .i64 0, .int .i64 0, .bool false, .slice none 0 0]), .bool (decide (¬ ((afterTok (plainR l) s).i < l.length ∨ s.sp = true ∨ 0 < (afterTok (plainR l) s).ds.length)))])))

theorem Own.rn {w w' : World} {B sz : Nat} {v : Value} {css : List (List Value)} (h : Own w B 97 sz v css) (k : KeptRn w w') : Own w' B 97 sz v css := by
  refine ⟨⟨h.1.1, ?_⟩, h.2⟩
  rcases h.1.2 with h0 | ⟨g, cap, cur, hv, hg1, hg, r⟩
  · exact .inl h0
  · exact .inr ⟨g, cap, cur, hv, hg1, k g _ _ hg, r⟩

/-- what holds while the characters are laid -/
structure OneL (w wr : World) (l : List UInt8) (k : Nat) (v : Value) : Prop where
  walk : wr.heap[w.heap.size + 1]? = some (.cells #[.string ⟨#[]⟩, v, .int .i64 0, .slice none 0 0, .bool false, .int .i64 (-1)] 94 (0, 0))
  own : Own wr (w.heap.size + 2) 97 3 v (((plainR l).take k).map Rn.v)
  res : wr.heap[w.heap.size]? = some (.cells zeroTok.toArray 43 (0, 0))
  below : Below w.heap.size w wr

theorem get_byte {s : ByteArray} {k : Nat} (h : k < s.size) : s.data.toList.getD k 0 = s[k]'h := by
  rw [List.getD_eq_getElem?_getD, List.getElem?_eq_getElem (by rw [← Lib.size_eq]; exact h)]
  rfl

set_option maxHeartbeats 4000000 in
set_option maxRecDepth 100000 in
theorem lexOne_any (s : ByteArray) (hs : s.size ≤ 1000) (w : World) :
    Calls Try.prog 29 #[.string s] w fun e w' => OnePost s.data.toList e ∧ Below w.heap.size w w' := by
  obtain ⟨l, hl⟩ : ∃ l, l = s.data.toList := ⟨_, rfl⟩
  have HN : Hid (l.length = s.size) := Lib.hid (by rw [hl, ← Lib.size_eq])
  have HB : Hid (∀ k (h : k < s.size), l.getD k 0 = s[k]'h) := Lib.hid (by intro k h; rw [hl]; exact get_byte h)
  rw [← hl]
  go_enter Try.func29, Try.ntmps29
  clear hl
  have HI : OneL w ((w.alloc (.cells zeroTok.toArray 43)).alloc (.cells #[.string ⟨#[]⟩, .slice none 0 0, .int .i64 0, .slice none 0 0, .bool false, .int .i64 (-1)] 94)) l 0 (.slice none 0 0) :=
    ⟨by have := heap_alloc_new (w.alloc (.cells zeroTok.toArray 43)) (.cells #[.string ⟨#[]⟩, .slice none 0 0, .int .i64 0, .slice none 0 0, .bool false, .int .i64 (-1)] 94); simpa using this, Own.nil _ _ _ _, (Lib.alloc_old _ _ _ (by simp)).trans (heap_alloc_new w _), ((Below.refl _ w).alloc (Nat.le_refl _) _).alloc (by simp) _⟩
  unfold zeroTok at HI
  go_wp2_with fail
  go_loopg [13] s.size (fun u v wr => ∃ (k : Nat) (vl : Value), u = s.size - k ∧ k ≤ s.size ∧ v = .int .i64 k ∧ OneL w wr l k vl)
  case atStart => exact ⟨0, _, rfl, Nat.zero_le _, rfl, HI⟩
  case round =>
    obtain ⟨k, vl, rfl, hk, rfl, hO⟩ := hrel
    obtain ⟨vao, vcap, rfl, _, _, _, _⟩ := hO.own.rown (n := k) (by rw [List.length_map, List.length_take, plainR_len, HN.out]; omega)
    obtain ⟨c0, c1, c2, c3, c4, c5⟩ := cells6 hO.walk
    have fr := fun j => Lib.frozen_of_heap hO.walk j
    by_cases hlt : k < s.size
    · have e1 : (k : Int) < (s.size : Int) := by omega
      have q1 : IntKind.i64.wrap ((k : Int) + 1) = (k : Int) + 1 := IntWalk.i64_in _ (by omega)
      have hlenO : (((plainR l).take k).map Rn.v).length + 1 ≤ 1000000000 := by rw [List.length_map, List.length_take]; omega
      have hlk : (((plainR l).take k).map Rn.v).length = k := by rw [List.length_map, List.length_take, plainR_len, HN.out]; omega
      have hneb : (Value.slice vao k vcap).ownBlock ≠ some (w.heap.size + 1) := by intro e; have := hO.own.ge _ e; omega
      have hlb := lt_of_block hO.walk
      have hx : Hid (((plainR l).take (k + 1)).map Rn.v = ((plainR l).take k).map Rn.v ++ [[.int .u8 (s[k]'hlt).toNat, .int .i64 k, .int .i64 ((k : Int) + 1)]]) := Lib.hid (by
        rw [plainR_take (by rw [HN.out]; exact hlt), List.map_append, HB.out k hlt]
        rfl)
      go_upto_region 16 with fail
      go_region_law (first
        | (refine step_append1 E26 rfl rfl (Own.drew (hO.own.alloc _)) rfl rfl (heap_alloc_new wr _) rfl (by simp [Value.oneCell']) hlenO (by decide) (by simp; omega) ?_; intro v9 w9 hown9 hg9; have hc9 := (hg9.block (w.heap.size + 1) (by simp; omega) (fun e => hneb e.symm)).trans ((Lib.alloc_old wr _ _ hlb).trans hO.walk); obtain ⟨ao9, cap9, rfl, _, _, _, _⟩ := hown9.rown (n := k + 1) (by rw [List.length_append, hlk]; rfl); have qf := fun j => Lib.frozen_of_heap hc9 j; obtain ⟨z0, z1, z2, z3, z4, z5⟩ := cells6 hc9))
      all_goals
        have hO9 : OneL w (w9.setCell ⟨w.heap.size + 1, 1, none⟩ (.slice ao9 (k + 1) cap9)) l (k + 1) (.slice ao9 (k + 1) cap9) := by
          refine ⟨?_, ?_, ?_, ?_⟩
          · have := set_at hc9 1 (.slice ao9 (k + 1) cap9)
            simpa using this
          · rw [hx.out]
            exact hown9.setBelow (Nat.lt_succ_self _) _
          · exact (Below.heap_setCell _ _ _ _ (Nat.ne_of_lt (Nat.lt_succ_self _))).trans ((hg9.block w.heap.size (by simp; omega) (fun e => by have := hO.own.ge _ e.symm; omega)).trans ((Lib.alloc_old wr _ _ (by omega)).trans hO.res))
          · exact (bapp (hO.below.alloc hO.below.size _).drew (Own.drew ((hO.own.mono (by omega)).alloc _)) hg9 (by have := hO.below.size; simp; omega)).setCell (p := ⟨w.heap.size + 1, 1, none⟩) (by simp) _
        go_wp2_with fail
        go_roundg (s.size - (k + 1))
        case measure => omega
        case rel => exact ⟨k + 1, _, rfl, by omega, by go_num, hO9⟩
    · obtain rfl : k = s.size := by omega
      have e1 : ¬ (s.size : Int) < (s.size : Int) := by omega
      have hown := hO.own
      rw [List.take_of_length_le (by rw [plainR_len, HN.out]; exact Nat.le_refl _)] at hown
      have hL : LwAt wr wr (w.heap.size + 1) ⟨#[]⟩ s.size vao vcap 0 (.slice none 0 0) [] false (-1) := ⟨hO.walk, Bel.refl _ _, Own.nil _ _ _ _⟩
      have hcap : s.size ≤ vcap := by assumption
      have HC := next_any wr (w.heap.size + 1) ⟨#[]⟩ (plainR l) vao vcap (.slice none 0 0) ⟨0, [], false, -1, false⟩ (fun w' h => by
        obtain ⟨ao', cap', e', _, _, hr, _⟩ := (hown.rn h.rn).row
        simp only [Value.slice.injEq] at e'
        rw [e'.1]
        exact hr) (by rw [plainR_len, HN.out]; exact hcap) (by rw [plainR_len, HN.out]; omega) (Nat.zero_le _) (by simp) rfl wr (by rw [plainR_len, HN.out]; exact hL)
      rw [plainR_len, HN.out] at HC
      unfold NextPost at HC
      replace HC := Lib.hid HC
      clear hL hown
      go_wp2_with fail
      refine HC.out.mono ?_
      rintro e w8 ⟨st, hsk, hX8, hend | htok⟩
      · obtain ⟨hne, rfl, vd8, h8⟩ := hend
        clear c0 c1 c2 c3 c4 c5 fr
        unfold zeroTok
        have h9 := h8.after ((Below.refl _ w8).alloc (Nat.le_refl _) (.cells #[.int .i64 0, .string ⟨#[]⟩, .bool false, .string ⟨#[]⟩, .int .i64 0, .int .i64 0, .bool false, .slice none 0 0] 43))
        have hT9 := heap_alloc_new w8 (.cells #[.int .i64 0, .string ⟨#[]⟩, .bool false, .string ⟨#[]⟩, .int .i64 0, .int .i64 0, .bool false, .slice none 0 0] 43)
        have hR9 : (w8.alloc (.cells #[.int .i64 0, .string ⟨#[]⟩, .bool false, .string ⟨#[]⟩, .int .i64 0, .int .i64 0, .bool false, .slice none 0 0] 43)).heap[w.heap.size]? = _ := (h9.below.lo.block w.heap.size (Nat.lt_succ_self _)).trans hO.res
        have hB9 : Below w.heap.size w (w8.alloc (.cells #[.int .i64 0, .string ⟨#[]⟩, .bool false, .string ⟨#[]⟩, .int .i64 0, .int .i64 0, .bool false, .slice none 0 0] 43)) := hO.below.trans (h9.below.lo.mono (Nat.le_succ _))
        obtain ⟨c0, c1, c2, c3, c4, c5⟩ := cells6 h9.cells
        obtain ⟨t0, t1, t2, t3, t4, t5, t6, t7⟩ := cells8x hT9
        go_wp2_with fail
        go_quiet (fail)
        have hRz := ((drewN_below (w8.alloc (.cells #[.int .i64 0, .string ⟨#[]⟩, .bool false, .string ⟨#[]⟩, .int .i64 0, .int .i64 0, .bool false, .slice none 0 0] 43)) nq).block w.heap.size (lt_of_block hR9)).trans hR9
        have hTz := ((drewN_below (w8.alloc (.cells #[.int .i64 0, .string ⟨#[]⟩, .bool false, .string ⟨#[]⟩, .int .i64 0, .int .i64 0, .bool false, .slice none 0 0] 43)) nq).block w8.heap.size (lt_of_block hT9)).trans hT9
        have hBz := hB9.trans ((drewN_below (w8.alloc (.cells #[.int .i64 0, .string ⟨#[]⟩, .bool false, .string ⟨#[]⟩, .int .i64 0, .int .i64 0, .bool false, .slice none 0 0] 43)) nq).mono hB9.size)
        obtain ⟨wz, hwz⟩ : ∃ wz, wz = (w8.alloc (.cells #[.int .i64 0, .string ⟨#[]⟩, .bool false, .string ⟨#[]⟩, .int .i64 0, .int .i64 0, .bool false, .slice none 0 0] 43)).drewN nq := ⟨_, rfl⟩
        rw [← hwz] at hRz hTz hBz ⊢
        clear hwz hR9 hB9 c0 c1 c2 c3 c4 c5 t0 t1 t2 t3 t4 t5 t6 t7 h9 hT9
        obtain ⟨r0, r1, r2, r3, r4, r5, r6, r7⟩ := cells8x hRz
        have fr := fun j => Lib.frozen_of_heap hRz j
        obtain ⟨t0, t1, t2, t3, t4, t5, t6, t7⟩ := cells8x hTz
        have hg := set8_at (b0 := .int .i64 0) (b1 := .string ⟨#[]⟩) (b2 := .bool false) (b3 := .string ⟨#[]⟩) (b4 := .int .i64 0) (b5 := .int .i64 0) (b6 := .bool false) (b7 := .slice none 0 0) hRz
        have hfin : Hid (OnePost l (.returned (.tuple #[.agg #[.int .i64 0, .string ⟨#[]⟩, .bool false, .string ⟨#[]⟩, .int .i64 0, .int .i64 0, .bool false, .slice none 0 0], .bool false])) ∧ Below w.heap.size w (set8 wz w.heap.size (.int .i64 0) (.string ⟨#[]⟩) (.bool false) (.string ⟨#[]⟩) (.int .i64 0) (.int .i64 0) (.bool false) (.slice none 0 0))) := Lib.hid ⟨⟨st, hsk, .inl ⟨hne, rfl⟩⟩, set8_below hBz (Nat.le_refl _)⟩
        obtain ⟨m0, m1, m2, m3, m4, m5, m6, m7⟩ := cells8x hg
        clear hg
        unfold set8 at m0 m1 m2 m3 m4 m5 m6 m7
        go_wp2
        refine bodyPost_ret (v := .tuple #[.agg #[.int .i64 0, .string ⟨#[]⟩, .bool false, .string ⟨#[]⟩, .int .i64 0, .int .i64 0, .bool false, .slice none 0 0], .bool false]) (by simp [results, Try.results29, go_sem, m0, m1, m2, m3, m4, m5, m6, m7]) rfl hfin.out
      · obtain ⟨hat, rfl, vd8, h8⟩ := htok
        clear c0 c1 c2 c3 c4 c5 fr
        have hpost : ∀ v, v = Ending.returned (.tuple #[.agg (if (afterTok (plainR l) st).i < l.length ∨ st.sp = true ∨ 0 < (afterTok (plainR l) st).ds.length then zeroTok.toArray else #[.int .i64 (tokN (plainR l) st).kind, .string ⟨(tokN (plainR l) st).text.toArray⟩, .bool false, .string ⟨#[]⟩, .int .i64 0, .int .i64 0, .bool false, .slice none 0 0]), .bool (decide (¬ ((afterTok (plainR l) st).i < l.length ∨ st.sp = true ∨ 0 < (afterTok (plainR l) st).ds.length)))]) → OnePost l v := fun v hv => ⟨st, hsk, .inr ⟨hat, hv⟩⟩
        have hsp : (tokN (plainR l) st).space = st.sp := rfl
        rw [← hsp] at hpost
        obtain ⟨A, hA⟩ : ∃ A, A = afterTok (plainR l) st := ⟨_, rfl⟩
        obtain ⟨tk, htk⟩ : ∃ tk, tk = tokN (plainR l) st := ⟨_, rfl⟩
        rw [← hA, ← htk, HN.out] at hpost
        rw [← hA] at h8
        rw [← htk]
        clear hA htk hsk hat hsp HC
        replace hpost := Lib.hid hpost
        obtain ⟨dvo, dvc, rfl, _, _, _, _⟩ := h8.diags.rown (n := A.ds.length) (by simp)
        unfold tkC
        have h9 := h8.after ((Below.refl _ w8).alloc (Nat.le_refl _) (.cells #[.int .i64 tk.kind, .string ⟨tk.text.toArray⟩, .bool tk.space, .string ⟨#[]⟩, .int .i64 tk.f, .int .i64 tk.t, .bool false, .slice none 0 0] 43))
        have hT9 := heap_alloc_new w8 (.cells #[.int .i64 tk.kind, .string ⟨tk.text.toArray⟩, .bool tk.space, .string ⟨#[]⟩, .int .i64 tk.f, .int .i64 tk.t, .bool false, .slice none 0 0] 43)
        have hR9 : (w8.alloc (.cells #[.int .i64 tk.kind, .string ⟨tk.text.toArray⟩, .bool tk.space, .string ⟨#[]⟩, .int .i64 tk.f, .int .i64 tk.t, .bool false, .slice none 0 0] 43)).heap[w.heap.size]? = _ := (h9.below.lo.block w.heap.size (Nat.lt_succ_self _)).trans hO.res
        have hB9 : Below w.heap.size w (w8.alloc (.cells #[.int .i64 tk.kind, .string ⟨tk.text.toArray⟩, .bool tk.space, .string ⟨#[]⟩, .int .i64 tk.f, .int .i64 tk.t, .bool false, .slice none 0 0] 43)) := hO.below.trans (h9.below.lo.mono (Nat.le_succ _))
        obtain ⟨c0, c1, c2, c3, c4, c5⟩ := cells6 h9.cells
        obtain ⟨t0, t1, t2, t3, t4, t5, t6, t7⟩ := cells8x hT9
        by_cases h1 : A.i < s.size
        · have e2 : (A.i : Int) < (s.size : Int) := by omega
          have d1 : decide ((A.i : Int) < (s.size : Int)) = true := decide_eq_true e2
          go_wp2_with fail
          go_quiet (fail)
          have hRz := ((drewN_below (w8.alloc (.cells #[.int .i64 tk.kind, .string ⟨tk.text.toArray⟩, .bool tk.space, .string ⟨#[]⟩, .int .i64 tk.f, .int .i64 tk.t, .bool false, .slice none 0 0] 43)) nq).block w.heap.size (lt_of_block hR9)).trans hR9
          have hTz := ((drewN_below (w8.alloc (.cells #[.int .i64 tk.kind, .string ⟨tk.text.toArray⟩, .bool tk.space, .string ⟨#[]⟩, .int .i64 tk.f, .int .i64 tk.t, .bool false, .slice none 0 0] 43)) nq).block w8.heap.size (lt_of_block hT9)).trans hT9
          have hBz := hB9.trans ((drewN_below (w8.alloc (.cells #[.int .i64 tk.kind, .string ⟨tk.text.toArray⟩, .bool tk.space, .string ⟨#[]⟩, .int .i64 tk.f, .int .i64 tk.t, .bool false, .slice none 0 0] 43)) nq).mono hB9.size)
          obtain ⟨wz, hwz⟩ : ∃ wz, wz = (w8.alloc (.cells #[.int .i64 tk.kind, .string ⟨tk.text.toArray⟩, .bool tk.space, .string ⟨#[]⟩, .int .i64 tk.f, .int .i64 tk.t, .bool false, .slice none 0 0] 43)).drewN nq := ⟨_, rfl⟩
          rw [← hwz] at hRz hTz hBz ⊢
          clear hwz hR9 hB9 c0 c1 c2 c3 c4 c5 t0 t1 t2 t3 t4 t5 t6 t7 h9 hT9
          obtain ⟨r0, r1, r2, r3, r4, r5, r6, r7⟩ := cells8x hRz
          have fr := fun j => Lib.frozen_of_heap hRz j
          obtain ⟨t0, t1, t2, t3, t4, t5, t6, t7⟩ := cells8x hTz
          have hg := set8_at (b0 := .int .i64 0) (b1 := .string ⟨#[]⟩) (b2 := .bool false) (b3 := .string ⟨#[]⟩) (b4 := .int .i64 0) (b5 := .int .i64 0) (b6 := .bool false) (b7 := .slice none 0 0) hRz
          have hfin : Hid (OnePost l (.returned (.tuple #[.agg #[.int .i64 0, .string ⟨#[]⟩, .bool false, .string ⟨#[]⟩, .int .i64 0, .int .i64 0, .bool false, .slice none 0 0], .bool false])) ∧ Below w.heap.size w (set8 wz w.heap.size (.int .i64 0) (.string ⟨#[]⟩) (.bool false) (.string ⟨#[]⟩) (.int .i64 0) (.int .i64 0) (.bool false) (.slice none 0 0))) := Lib.hid ⟨hpost.out _ (by simp [h1, zeroTok]), set8_below hBz (Nat.le_refl _)⟩
          obtain ⟨m0, m1, m2, m3, m4, m5, m6, m7⟩ := cells8x hg
          clear hg
          unfold set8 at m0 m1 m2 m3 m4 m5 m6 m7
          go_wp2
          refine bodyPost_ret (v := .tuple #[.agg #[.int .i64 0, .string ⟨#[]⟩, .bool false, .string ⟨#[]⟩, .int .i64 0, .int .i64 0, .bool false, .slice none 0 0], .bool false]) (by simp [results, Try.results29, go_sem, m0, m1, m2, m3, m4, m5, m6, m7]) rfl hfin.out
        · have e2 : ¬ (A.i : Int) < (s.size : Int) := by omega
          have d1 : decide ((A.i : Int) < (s.size : Int)) = false := decide_eq_false e2
          cases h2 : tk.space with
          | true =>
            rw [h2] at hpost
            rw [h2] at h9 hT9 hR9 hB9 t0 t1 t2 t3 t4 t5 t6 t7 c0 c1 c2 c3 c4 c5
            go_wp2_with fail
            go_quiet (fail)
            have hRz := ((drewN_below (w8.alloc (.cells #[.int .i64 tk.kind, .string ⟨tk.text.toArray⟩, .bool true, .string ⟨#[]⟩, .int .i64 tk.f, .int .i64 tk.t, .bool false, .slice none 0 0] 43)) nq).block w.heap.size (lt_of_block hR9)).trans hR9
            have hTz := ((drewN_below (w8.alloc (.cells #[.int .i64 tk.kind, .string ⟨tk.text.toArray⟩, .bool true, .string ⟨#[]⟩, .int .i64 tk.f, .int .i64 tk.t, .bool false, .slice none 0 0] 43)) nq).block w8.heap.size (lt_of_block hT9)).trans hT9
            have hBz := hB9.trans ((drewN_below (w8.alloc (.cells #[.int .i64 tk.kind, .string ⟨tk.text.toArray⟩, .bool true, .string ⟨#[]⟩, .int .i64 tk.f, .int .i64 tk.t, .bool false, .slice none 0 0] 43)) nq).mono hB9.size)
            obtain ⟨wz, hwz⟩ : ∃ wz, wz = (w8.alloc (.cells #[.int .i64 tk.kind, .string ⟨tk.text.toArray⟩, .bool true, .string ⟨#[]⟩, .int .i64 tk.f, .int .i64 tk.t, .bool false, .slice none 0 0] 43)).drewN nq := ⟨_, rfl⟩
            rw [← hwz] at hRz hTz hBz ⊢
            clear hwz hR9 hB9 c0 c1 c2 c3 c4 c5 t0 t1 t2 t3 t4 t5 t6 t7 h9 hT9
            obtain ⟨r0, r1, r2, r3, r4, r5, r6, r7⟩ := cells8x hRz
            have fr := fun j => Lib.frozen_of_heap hRz j
            obtain ⟨t0, t1, t2, t3, t4, t5, t6, t7⟩ := cells8x hTz
            have hg := set8_at (b0 := .int .i64 0) (b1 := .string ⟨#[]⟩) (b2 := .bool false) (b3 := .string ⟨#[]⟩) (b4 := .int .i64 0) (b5 := .int .i64 0) (b6 := .bool false) (b7 := .slice none 0 0) hRz
            have hfin : Hid (OnePost l (.returned (.tuple #[.agg #[.int .i64 0, .string ⟨#[]⟩, .bool false, .string ⟨#[]⟩, .int .i64 0, .int .i64 0, .bool false, .slice none 0 0], .bool false])) ∧ Below w.heap.size w (set8 wz w.heap.size (.int .i64 0) (.string ⟨#[]⟩) (.bool false) (.string ⟨#[]⟩) (.int .i64 0) (.int .i64 0) (.bool false) (.slice none 0 0))) := Lib.hid ⟨hpost.out _ (by simp [zeroTok]), set8_below hBz (Nat.le_refl _)⟩
            obtain ⟨m0, m1, m2, m3, m4, m5, m6, m7⟩ := cells8x hg
            clear hg
            unfold set8 at m0 m1 m2 m3 m4 m5 m6 m7
            go_wp2
            refine bodyPost_ret (v := .tuple #[.agg #[.int .i64 0, .string ⟨#[]⟩, .bool false, .string ⟨#[]⟩, .int .i64 0, .int .i64 0, .bool false, .slice none 0 0], .bool false]) (by simp [results, Try.results29, go_sem, m0, m1, m2, m3, m4, m5, m6, m7]) rfl hfin.out
          | false =>
            rw [h2] at hpost
            rw [h2] at h9 hT9 hR9 hB9 t0 t1 t2 t3 t4 t5 t6 t7 c0 c1 c2 c3 c4 c5
            by_cases h3 : 0 < A.ds.length
            · have d3 : decide ((0 : Int) < (A.ds.length : Int)) = true := decide_eq_true (by omega)
              have e3 : (0 : Int) < (A.ds.length : Int) := by omega
              go_wp2_with fail
              go_quiet (fail)
              have hRz := ((drewN_below (w8.alloc (.cells #[.int .i64 tk.kind, .string ⟨tk.text.toArray⟩, .bool false, .string ⟨#[]⟩, .int .i64 tk.f, .int .i64 tk.t, .bool false, .slice none 0 0] 43)) nq).block w.heap.size (lt_of_block hR9)).trans hR9
              have hTz := ((drewN_below (w8.alloc (.cells #[.int .i64 tk.kind, .string ⟨tk.text.toArray⟩, .bool false, .string ⟨#[]⟩, .int .i64 tk.f, .int .i64 tk.t, .bool false, .slice none 0 0] 43)) nq).block w8.heap.size (lt_of_block hT9)).trans hT9
              have hBz := hB9.trans ((drewN_below (w8.alloc (.cells #[.int .i64 tk.kind, .string ⟨tk.text.toArray⟩, .bool false, .string ⟨#[]⟩, .int .i64 tk.f, .int .i64 tk.t, .bool false, .slice none 0 0] 43)) nq).mono hB9.size)
              obtain ⟨wz, hwz⟩ : ∃ wz, wz = (w8.alloc (.cells #[.int .i64 tk.kind, .string ⟨tk.text.toArray⟩, .bool false, .string ⟨#[]⟩, .int .i64 tk.f, .int .i64 tk.t, .bool false, .slice none 0 0] 43)).drewN nq := ⟨_, rfl⟩
              rw [← hwz] at hRz hTz hBz ⊢
              clear hwz hR9 hB9 c0 c1 c2 c3 c4 c5 t0 t1 t2 t3 t4 t5 t6 t7 h9 hT9
              obtain ⟨r0, r1, r2, r3, r4, r5, r6, r7⟩ := cells8x hRz
              have fr := fun j => Lib.frozen_of_heap hRz j
              obtain ⟨t0, t1, t2, t3, t4, t5, t6, t7⟩ := cells8x hTz
              have hg := set8_at (b0 := .int .i64 0) (b1 := .string ⟨#[]⟩) (b2 := .bool false) (b3 := .string ⟨#[]⟩) (b4 := .int .i64 0) (b5 := .int .i64 0) (b6 := .bool false) (b7 := .slice none 0 0) hRz
              have hfin : Hid (OnePost l (.returned (.tuple #[.agg #[.int .i64 0, .string ⟨#[]⟩, .bool false, .string ⟨#[]⟩, .int .i64 0, .int .i64 0, .bool false, .slice none 0 0], .bool false])) ∧ Below w.heap.size w (set8 wz w.heap.size (.int .i64 0) (.string ⟨#[]⟩) (.bool false) (.string ⟨#[]⟩) (.int .i64 0) (.int .i64 0) (.bool false) (.slice none 0 0))) := Lib.hid ⟨hpost.out _ (by simp [h3, zeroTok]), set8_below hBz (Nat.le_refl _)⟩
              obtain ⟨m0, m1, m2, m3, m4, m5, m6, m7⟩ := cells8x hg
              clear hg
              unfold set8 at m0 m1 m2 m3 m4 m5 m6 m7
              go_wp2
              refine bodyPost_ret (v := .tuple #[.agg #[.int .i64 0, .string ⟨#[]⟩, .bool false, .string ⟨#[]⟩, .int .i64 0, .int .i64 0, .bool false, .slice none 0 0], .bool false]) (by simp [results, Try.results29, go_sem, m0, m1, m2, m3, m4, m5, m6, m7]) rfl hfin.out
            · have d3 : decide ((0 : Int) < (A.ds.length : Int)) = false := decide_eq_false (by omega)
              have e3 : ¬ (0 : Int) < (A.ds.length : Int) := by omega
              go_wp2_with fail
              go_quiet (fail)
              have hRz := ((drewN_below (w8.alloc (.cells #[.int .i64 tk.kind, .string ⟨tk.text.toArray⟩, .bool false, .string ⟨#[]⟩, .int .i64 tk.f, .int .i64 tk.t, .bool false, .slice none 0 0] 43)) nq).block w.heap.size (lt_of_block hR9)).trans hR9
              have hTz := ((drewN_below (w8.alloc (.cells #[.int .i64 tk.kind, .string ⟨tk.text.toArray⟩, .bool false, .string ⟨#[]⟩, .int .i64 tk.f, .int .i64 tk.t, .bool false, .slice none 0 0] 43)) nq).block w8.heap.size (lt_of_block hT9)).trans hT9
              have hBz := hB9.trans ((drewN_below (w8.alloc (.cells #[.int .i64 tk.kind, .string ⟨tk.text.toArray⟩, .bool false, .string ⟨#[]⟩, .int .i64 tk.f, .int .i64 tk.t, .bool false, .slice none 0 0] 43)) nq).mono hB9.size)
              obtain ⟨wz, hwz⟩ : ∃ wz, wz = (w8.alloc (.cells #[.int .i64 tk.kind, .string ⟨tk.text.toArray⟩, .bool false, .string ⟨#[]⟩, .int .i64 tk.f, .int .i64 tk.t, .bool false, .slice none 0 0] 43)).drewN nq := ⟨_, rfl⟩
              rw [← hwz] at hRz hTz hBz ⊢
              clear hwz hR9 hB9 c0 c1 c2 c3 c4 c5 t0 t1 t2 t3 t4 t5 t6 t7 h9 hT9
              obtain ⟨r0, r1, r2, r3, r4, r5, r6, r7⟩ := cells8x hRz
              have fr := fun j => Lib.frozen_of_heap hRz j
              obtain ⟨t0, t1, t2, t3, t4, t5, t6, t7⟩ := cells8x hTz
              have hg := set8_at (b0 := .int .i64 tk.kind) (b1 := .string ⟨tk.text.toArray⟩) (b2 := .bool false) (b3 := .string ⟨#[]⟩) (b4 := .int .i64 0) (b5 := .int .i64 0) (b6 := .bool false) (b7 := .slice none 0 0) hRz
              have hfin : Hid (OnePost l (.returned (.tuple #[.agg #[.int .i64 tk.kind, .string ⟨tk.text.toArray⟩, .bool false, .string ⟨#[]⟩, .int .i64 0, .int .i64 0, .bool false, .slice none 0 0], .bool true])) ∧ Below w.heap.size w (set8 wz w.heap.size (.int .i64 tk.kind) (.string ⟨tk.text.toArray⟩) (.bool false) (.string ⟨#[]⟩) (.int .i64 0) (.int .i64 0) (.bool false) (.slice none 0 0))) := Lib.hid ⟨hpost.out _ (by simp [h1, h3]), set8_below hBz (Nat.le_refl _)⟩
              obtain ⟨m0, m1, m2, m3, m4, m5, m6, m7⟩ := cells8x hg
              clear hg
              unfold set8 at m0 m1 m2 m3 m4 m5 m6 m7
              go_wp2
              refine bodyPost_ret (v := .tuple #[.agg #[.int .i64 tk.kind, .string ⟨tk.text.toArray⟩, .bool false, .string ⟨#[]⟩, .int .i64 0, .int .i64 0, .bool false, .slice none 0 0], .bool true]) (by simp [results, Try.results29, go_sem, m0, m1, m2, m3, m4, m5, m6, m7]) rfl hfin.out
end Go.Proofs.Ythbicbfdldpemaa

/- lex's Lines. -/
namespace Go.Proofs.Ythbicbfdldpemaa
open Go.RowKit
set_option linter.unusedVariables false

theorem E60 : EI Try.prog 49 60 (.agg #[.slice none 0 0, .int .i64 0, .int .i64 0, .bool false]) 4 48 := ⟨Try.underlying49, by kernel_rfl, rfl, by decide⟩

theorem KeptX.tok {S : Nat} {w w' : World} (h : KeptX w w') : KeptTok S w w' := fun i _ x fz hx => h.2 i x _ fz hx (by decide) (by decide)

theorem Own.setOther {w : World} {B e sz T : Nat} {v : Value} {css : List (List Value)} (h : Own w B e sz v css) (hT : v.ownBlock ≠ some T) (j : Nat) (u : Value) : Own (w.setCell ⟨T, j, none⟩ u) B e sz v css :=
  ⟨ownsRow_setCell_other h.1 hT _, h.2⟩

theorem lines_lastX {w : World} {B S g cap M : Nat} {file : ByteArray} {ls : List Ln} {lcs : List (List Value)} (ho : Own w B 60 4 (.slice (some ⟨g, 0, none⟩) (M + 1) cap) lcs) (hl : LnsAt w S file ls lcs) (hM : ls.length = M + 1) (m : Nat) :
    ∃ old lcs', w.cell? ⟨g, M * 4 + 2, none⟩ = some old ∧ w.frozen? ⟨g, M * 4 + 2, none⟩ = false ∧ Own (w.setCell ⟨g, M * 4 + 2, none⟩ (.int .i64 m)) B 60 4 (.slice (some ⟨g, 0, none⟩) (M + 1) cap) lcs' ∧ LnsAt (w.setCell ⟨g, M * 4 + 2, none⟩ (.int .i64 m)) S file (finL m ls) lcs' ∧ B ≤ g := by
  obtain ⟨ls', l, rfl⟩ : ∃ ls' l, ls = ls' ++ [l] := ⟨ls.dropLast, ls.getLast (by intro h; rw [h] at hM; simp at hM), (List.dropLast_concat_getLast _).symm⟩
  obtain ⟨cs', c, rfl, h1, h2⟩ := hl.unsnoc
  have hcl : cs'.length = M := by rw [h1.len]; simpa using hM
  obtain ⟨ao, k, rfl, hk, hrow⟩ := h2
  have hlen : (cs' ++ [[Value.slice ao l.toks.length k, .int .i64 l.f, .int .i64 l.t, .bool l.op]]).length = M + 1 := by simp [hcl]
  have ho1 := ho.1
  rw [hlen] at ho1
  have hfl : cs'.flatten.length = M * 4 := by rw [flatten_len (sz := 4) (fun c hc => ho.2 c (by simp [hc])), hcl]
  have hb := ho.ge g rfl
  obtain ⟨y, fz, hy⟩ := ho.size_lt g rfl
  have hkt : ∀ S', KeptTok S' w (w.setCell ⟨g, M * 4 + 2, none⟩ (.int .i64 m)) := fun S' => KeptTok.setCell hy (by decide) _ _
  refine ⟨.int .i64 l.t, cs' ++ [[.slice ao l.toks.length k, .int .i64 l.f, .int .i64 m, .bool l.op]], ?_, ho1.frozenAt _, ⟨?_, ?_⟩, ?_, hb⟩
  · rw [ho1.cellAt _ (by omega), List.flatten_append, List.getElem?_append_right (by omega), hfl]
    simp
  · have := (ho1.stored (M * 4 + 2) (.int .i64 m)).1
    rw [List.flatten_append, List.set_append_right _ _ (by omega), hfl] at this
    rw [show (cs' ++ [[Value.slice ao l.toks.length k, .int .i64 l.f, .int .i64 m, .bool l.op]]).length = M + 1 by simp [hcl], List.flatten_append]
    simpa using this
  · intro c hc
    rcases List.mem_append.1 hc with hc | hc
    · exact ho.2 c (by simp [hc])
    · simp at hc; subst hc; rfl
  · rw [finL_snoc]
    exact (h1.kept (hkt _)).snoc (LnAt.kept (ln := ⟨l.toks, l.f, m, l.op⟩) ⟨ao, k, rfl, hk, hrow⟩ (hkt _))

/-- what Lines gives -/
def LinesPost (file : ByteArray) (text : List UInt8) (w : World) (e : Ending) (w' : World) : Prop :=
  ∃ vo vd lcs, e = .returned (.tuple #[vo, vd]) ∧ Own w' w.heap.size 60 4 vo lcs ∧ LnsAt w' w'.heap.size file (linesL text).1 lcs ∧ Own w' w.heap.size 38 4 vd ((linesL text).2.map (dgC file)) ∧ Below w.heap.size w w'

/-- what holds at the loop's head -/
def LinesAt (W0 wr : World) (b : Nat) (file : ByteArray) (text : List UInt8) (R : List Rn) (n m : Nat) (lo : Option Addr) (cap i fr : Nat) (vo : Value) : Prop :=
  ∃ (out : List Ln) (ds : List Dg) (sp : Bool) (q : Int) (vd : Value) (lcs : List (List Value)) (S : Nat),
    LwAt W0 wr b file n lo cap i vd ds sp q ∧ Own wr (b + 1) 60 4 vo lcs ∧ LnsAt wr S file out lcs ∧ S ≤ wr.heap.size ∧ ds.length ≤ i + 3 ∧ out.length ≤ i ∧ i ≤ n + 1 ∧
    Hid ((i ≤ n → linesL text = linesFrom R m ⟨i, [], fr, false, out, ds⟩ ∧ q < i) ∧ (n < i → linesL text = (finL m out, ds)))

/-- a line lies in memory, ready to be kept -/
structure OneAt (W0 wx : World) (b T : Nat) (file : ByteArray) (n : Nat) (lo : Option Addr) (cap i : Nat) (ds : List Dg) (sp : Bool) (q : Int) (vd vo : Value) (lcs : List (List Value)) (S : Nat) (out : List Ln) (l : List Tk) (f t : Nat) (op : Bool) (vn : Value) : Prop where
  lw : LwAt W0 wx b file n lo cap i vd ds sp q
  own : Own wx (b + 1) 60 4 vo lcs
  lns : LnsAt wx S file out lcs
  one : LnAt wx S file ⟨l, f, t, op⟩ [vn, .int .i64 f, .int .i64 t, .bool op]
  sz : S ≤ wx.heap.size
  here : wx.heap[T]? = some (.cells #[vn, .int .i64 f, .int .i64 t, .bool op] 60 (0, 0))
  ne : vo.ownBlock ≠ some T
  bt : b < T

theorem LnAt.to {w : World} {S : Nat} {file : ByteArray} {l : List Tk} {v : Value} {f t : Nat} {o : Bool} (h : LnAt w S file ⟨l, f, t, o⟩ [v, .int .i64 f, .int .i64 t, .bool o]) (f2 t2 : Nat) : LnAt w S file ⟨l, f2, t2, o⟩ [v, .int .i64 f2, .int .i64 t2, .bool o] := by
  obtain ⟨ao, cap, e, h1, h2⟩ := h
  simp only [List.cons.injEq] at e
  obtain ⟨rfl, _⟩ := e
  exact ⟨ao, cap, rfl, h1, h2⟩

theorem OneAt.new {W0 w5 : World} {b B : Nat} {file : ByteArray} {n : Nat} {lo : Option Addr} {cap i : Nat} {ds : List Dg} {sp : Bool} {q : Int} {vd vo : Value} {lcs : List (List Value)} {S : Nat} {out : List Ln} {l : List Tk} {op : Bool} {vn : Value} (h1 : LwAt W0 w5 b file n lo cap i vd ds sp q) (h2 : Own w5 (b + 1) 60 4 vo lcs) (h3 : LnsAt w5 S file out lcs) (hS : S ≤ w5.heap.size) (h4 : Own w5 B 43 8 vn (l.map (tkC file))) (f t : Nat) :
    OneAt W0 (w5.alloc (.cells #[vn, .int .i64 f, .int .i64 t, .bool op] 60)) b w5.heap.size file n lo cap i ds sp q vd vo lcs w5.heap.size out l f t op vn := by
  have hb := (Below.refl w5.heap.size w5).alloc (Nat.le_refl _) (.cells #[vn, .int .i64 f, .int .i64 t, .bool op] 60)
  refine ⟨h1.after hb, h2.alloc _, (h3.mono hS).kept (KeptTok.below hb), (LnAt.of_own h4 f t op).kept (KeptTok.below hb), hb.size, heap_alloc_new w5 _, ?_, lt_of_block h1.cells⟩
  intro e
  obtain ⟨x, fz, hx⟩ := h2.size_lt _ e
  have := lt_of_block hx
  omega

theorem OneAt.after {W0 wx : World} {b T : Nat} {file : ByteArray} {n : Nat} {lo : Option Addr} {cap i : Nat} {ds : List Dg} {sp : Bool} {q : Int} {vd vo : Value} {lcs : List (List Value)} {S : Nat} {out : List Ln} {l : List Tk} {f t : Nat} {op : Bool} {vn : Value} {w' : World} (h : OneAt W0 wx b T file n lo cap i ds sp q vd vo lcs S out l f t op vn) (hb : Below wx.heap.size wx w') : OneAt W0 w' b T file n lo cap i ds sp q vd vo lcs S out l f t op vn :=
  ⟨h.lw.after hb, h.own.below hb, h.lns.kept (KeptTok.below (hb.mono h.sz)), h.one.kept (KeptTok.below (hb.mono h.sz)), Nat.le_trans h.sz hb.size, (hb.block T (lt_of_block h.here)).trans h.here, h.ne, h.bt⟩

theorem OneAt.to {W0 wx : World} {b T : Nat} {file : ByteArray} {n : Nat} {lo : Option Addr} {cap i : Nat} {ds : List Dg} {sp : Bool} {q : Int} {vd vo : Value} {lcs : List (List Value)} {S : Nat} {out : List Ln} {l : List Tk} {f t : Nat} {op : Bool} {vn : Value} (h : OneAt W0 wx b T file n lo cap i ds sp q vd vo lcs S out l f t op vn) (t2 : Nat) : OneAt W0 (wx.setCell ⟨T, 2, none⟩ (.int .i64 t2)) b T file n lo cap i ds sp q vd vo lcs S out l f t2 op vn := by
  have hk : KeptTok S wx (wx.setCell ⟨T, 2, none⟩ (.int .i64 t2)) := KeptTok.setCell h.here (by decide) _ _
  have hT := set_at h.here 2 (.int .i64 t2)
  simp only [List.setIfInBounds_toArray, List.set_cons_zero, List.set_cons_succ] at hT
  exact ⟨h.lw.setT h.here (by decide) (by decide) h.bt 2 _, h.own.setOther h.ne 2 _, h.lns.kept hk, (h.one.to f t2).kept hk, by simpa [World.setCell] using h.sz, hT, h.ne, h.bt⟩

theorem OneAt.at {W0 wx : World} {b T : Nat} {file : ByteArray} {n : Nat} {lo : Option Addr} {cap i : Nat} {ds : List Dg} {sp : Bool} {q : Int} {vd vo : Value} {lcs : List (List Value)} {S : Nat} {out : List Ln} {l : List Tk} {f t : Nat} {op : Bool} {vn : Value} (h : OneAt W0 wx b T file n lo cap i ds sp q vd vo lcs S out l f t op vn) (k : Nat) : OneAt W0 (wx.setCell ⟨b, 2, none⟩ (.int .i64 k)) b T file n lo cap k ds sp q vd vo lcs S out l f t op vn := by
  have hk : KeptTok S wx (wx.setCell ⟨b, 2, none⟩ (.int .i64 k)) := KeptTok.setCell h.lw.cells (by decide) _ _
  exact ⟨h.lw.at k, h.own.setBelow (Nat.lt_succ_self _) _, h.lns.kept hk, h.one.kept hk, by simpa [World.setCell] using h.sz, (Below.heap_setCell _ _ _ _ (Nat.ne_of_gt h.bt)).trans h.here, h.ne, h.bt⟩

theorem OneAt.app {W0 wx : World} {b T : Nat} {file : ByteArray} {n : Nat} {lo : Option Addr} {cap i : Nat} {ds : List Dg} {sp : Bool} {q : Int} {vd vo : Value} {lcs : List (List Value)} {S : Nat} {out : List Ln} {l : List Tk} {f t : Nat} {op : Bool} {vn : Value} {w9 : World} {v9 : Value} {text : List UInt8} {R : List Rn} {m : Nat} (h : OneAt W0 wx b T file n lo cap i ds sp q vd vo lcs S out l f t op vn) (h9 : Own w9 (b + 1) 60 4 v9 (lcs ++ [[vn, .int .i64 f, .int .i64 t, .bool op]])) (hg : wx.grownBy w9 vo.ownBlock) (hd : ds.length ≤ i + 3) (hol : out.length + 1 ≤ i) (hi : i ≤ n + 1)
    (hres : Hid ((i ≤ n → linesL text = linesFrom R m ⟨i, [], t, false, out ++ [⟨l, f, t, op⟩], ds⟩ ∧ q < i) ∧ (n < i → linesL text = (finL m (out ++ [⟨l, f, t, op⟩]), ds)))) : LinesAt W0 w9 b file text R n m lo cap i t v9 := by
  have hk : KeptTok S wx w9 := KeptTok.others (others_app h.own hg) (by decide) (by simp)
  exact ⟨out ++ [⟨l, f, t, op⟩], ds, sp, q, vd, _, S, h.lw.app h.own (by decide) (by decide) hg (Nat.lt_succ_self _), h9, (h.lns.snoc h.one).kept hk, Nat.le_trans h.sz hg.size, hd, by simpa using hol, hi, hres⟩

set_option maxHeartbeats 4000000 in
set_option maxRecDepth 100000 in
theorem lines_any (file s : ByteArray) (hs : s.size ≤ 1000000) (w : World) :
    Calls Try.prog 23 #[.string file, .string s] w fun e w' => LinesPost file s.data.toList w e w' := by
  have HLL : Hid (linesL s.data.toList = linesFrom (charsL s.data.toList) s.size ⟨0, [], 0, false, [], []⟩) := Lib.hid (by unfold linesL linesFrom; rw [← Lib.size_eq])
  have hRl : (charsL s.data.toList).length ≤ s.size + 1 := by rw [Lib.size_eq]; exact charsL_len _
  have hR10 : 0 < (charsL s.data.toList).length → chAt (cs (charsL s.data.toList)) ((charsL s.data.toList).length - 1) = 10 := by
    intro h
    obtain ⟨ini, r, h1, h2⟩ := charsL_last s.data.toList (by intro e; rw [(charsL_nil _).2 e] at h; simp at h)
    rw [h1]
    simp [chAt, cs, h2, List.getD_eq_getElem?_getD]
  obtain ⟨m, hm⟩ : ∃ m, m = s.size := ⟨_, rfl⟩
  have hm0 : m ≤ 1000000 := by rw [hm]; exact hs
  obtain ⟨tx, htx⟩ : ∃ tx, tx = s.data.toList := ⟨_, rfl⟩
  rw [← hm] at HLL hRl
  rw [← htx] at HLL hRl hR10 ⊢
  go_enter Try.func23, Try.ntmps23
  go_wp2_with fail
  refine (chars_any s hs _).mono ?_
  rw [← htx]
  rintro e w1 ⟨v1, rfl, hown1, hb1⟩
  obtain ⟨R, hR⟩ : ∃ R, R = charsL tx := ⟨_, rfl⟩
  rw [← hR] at HLL hRl hown1 hR10
  clear hR
  obtain ⟨n, hnn⟩ : ∃ n, n = R.length := ⟨_, rfl⟩
  have HN : Hid (R.length = n) := Lib.hid hnn.symm
  obtain ⟨ao, cap, rfl, hcap, _, hrow, _⟩ := hown1.rown (n := n) (by rw [List.length_map, hnn])
  obtain ⟨b, hb⟩ : ∃ b, b = w1.heap.size := ⟨_, rfl⟩
  have HLN : Hid (∀ (i : Nat) (ds : List Dg) (sp : Bool) (q : Int) (vd : Value) (wx : World), i ≤ n → ds.length ≤ i + 3 → LwAt w1 wx b file n ao cap i vd ds sp q → Calls Try.prog 51 #[.pointer (some ⟨b, 0, none⟩)] wx fun e w' => LinePost w1 b file R n ao cap ⟨i, ds, false, q, false⟩ wx e w') := Lib.hid (by
    intro i ds sp q vd wx h1 h2 h3
    have := line_any w1 b file R ao cap i vd ds sp q (fun w' h => by rw [hb] at h; exact hrow.below h.lo) (by rw [← hnn]; simpa [HN.out] using hcap) (by omega) (by rw [← hnn]; exact h1) h2 wx (by rw [← hnn]; exact h3)
    rw [← hnn] at this
    exact this)
  have HRW : Hid (∀ w', Bel b w1 w' → Row w' 3 ao (R.map Rn.v)) := Lib.hid (fun w' h => hrow.below (by rw [hb] at h; exact h.lo))
  rw [← hnn] at hRl hR10
  replace hR10 := Lib.hid hR10
  have HI : LinesAt w1 (w1.alloc (.cells #[.string file, .slice ao n cap, .int .i64 0, .slice none 0 0, .bool false, .int .i64 (-1)] 94)) b file tx R n m ao cap 0 0 (.slice none 0 0) :=
    ⟨[], [], false, -1, .slice none 0 0, [], 0, ⟨by rw [hb]; exact heap_alloc_new w1 _, (Bel.refl _ _).after ((Below.refl _ _).alloc (Nat.le_refl _) _) (by rw [hb]; exact Nat.le_refl _), Own.nil _ _ _ _⟩, Own.nil _ _ _ _, .nil, Nat.zero_le _, by simp, by simp, by omega, Lib.hid ⟨fun _ => ⟨HLL.out, by decide⟩, fun h => by omega⟩⟩
  clear hown1 hnn hrow HLL
  replace hm := Lib.hid hm
  replace htx := Lib.hid htx
  replace hb := Lib.hid hb
  go_wp2_with fail
  rw [← hb.out]
  go_loopg [4, 7] (n + 1) (fun u v4 v7 wr => ∃ (i fr : Nat), u = n + 1 - i ∧ v7 = .int .i64 fr ∧ LinesAt w1 wr b file tx R n m ao cap i fr v4)
  case atStart => exact ⟨0, 0, rfl, rfl, HI⟩
  case round =>
    obtain ⟨i, fr, rfl, rfl, out, ds, sp, q, vd, lcs, S, hL, hO, hLs, hS, hds, hol, hi, hres⟩ := hrel
    obtain ⟨c0, c1, c2, c3, c4, c5⟩ := cells6 hL.cells
    by_cases hlt : i < n
    · have e1 : (i : Int) < n := by omega
      go_wp2_with fail
      go_quiet (fail)
      have hL2 := hL.after (drewN_below wr nq)
      have hO2 := hO.below (drewN_below wr nq)
      have hLs2 := hLs.kept (KeptTok.below ((drewN_below wr nq).mono hS))
      have hS2 := Nat.le_trans hS (drewN_below wr nq).size
      obtain ⟨wz, hwz⟩ : ∃ wz, wz = wr.drewN nq := ⟨_, rfl⟩
      rw [← hwz] at hL2 hO2 hLs2 hS2 ⊢
      clear hwz c0 c1 c2 c3 c4 c5 hL hO hLs hS
      have HC := HLN.out i ds sp q vd wz (by omega) hds hL2
      unfold LinePost at HC
      replace HC := Lib.hid HC
      go_wp2_with fail
      refine HC.out.mono ?_
      rintro e w5 ⟨tt, u, l, vn, hTk, hsk, hne, hX5, rfl, ⟨vd5, h5⟩, hvn⟩
      have hlt' : i < R.length := by rw [HN.out]; exact hlt
      have hsim := line_sim (s0 := ⟨i, ds, false, q, false⟩) m (by rw [HN.out]; exact hR10.out (by omega)) hTk hsk hne rfl hlt' (s := ⟨i, [], fr, false, out, ds⟩) ⟨rfl, rfl, .inl ⟨rfl, (hres.out.1 (by omega)).2⟩⟩ rfl
      have hb1' := hTk.bound (Nat.le_of_lt hlt')
      have hb2' := hsk.bound hb1'.2.1
      rw [HN.out] at hsim hb1' hb2'
      simp only at hb1'
      have hub : i ≤ u.i ∧ u.i ≤ n ∧ u.ds.length ≤ u.i + 3 := by omega
      have hln := (hres.out.1 (by omega)).1
      rw [← hln] at hsim
      clear hb1' hb2' hln hTk hsk hne hres
      replace hsim := Lib.hid hsim
      obtain ⟨vao, vcap, rfl, _, _, _, _⟩ := hvn.rown (n := l.length) (by simp)
      have hA := OneAt.new h5 (hO2.keptX hX5 (by decide) (by decide)) (hLs2.kept hX5.tok) (Nat.le_trans hS2 hX5.1) hvn (op := u.op) fr m
      clear hvn hX5 h5 hL2 hO2 hLs2 hS2 HC
      go_upto_region 31 with fail
      rw [← hm.out]
      obtain ⟨wA, hwA⟩ : ∃ wA, wA = w5.alloc (.cells #[.slice vao l.length vcap, .int .i64 fr, .int .i64 m, .bool u.op] 60) := ⟨_, rfl⟩
      obtain ⟨T, hT⟩ : ∃ T, T = w5.heap.size := ⟨_, rfl⟩
      rw [← hwA] at hA ⊢
      rw [← hT] at hA ⊢
      clear hwA
      replace hT := Lib.hid hT
      obtain ⟨c0, c1, c2, c3, c4, c5⟩ := cells6 hA.lw.cells
      have hbT := hA.bt
      rcases hsim.out with ⟨hop, hui, hq, hfin⟩ | ⟨hop, hui, hfin⟩
      · clear hsim
        replace hfin := Lib.hid hfin
        have e2 : (u.i : Int) < n := by omega
        replace hop := Lib.hid hop
        go_wp2_with fail
        go_quiet (fail)
        have hB := hA.after (drewN_below wA nq)
        obtain ⟨wB, hwB⟩ : ∃ wB, wB = wA.drewN nq := ⟨_, rfl⟩
        rw [← hwB] at hB ⊢
        clear hwB hA c0 c1 c2 c3 c4 c5
        obtain ⟨c0, c1, c2, c3, c4, c5⟩ := cells6 hB.lw.cells
        obtain ⟨d0, d1, d2, d3⟩ := cells4x hB.here
        have fr1 := fun j => Lib.frozen_of_heap hB.here j
        obtain ⟨r, hr⟩ : ∃ r, R[u.i]? = some r := ⟨R[u.i]'(by rw [HN.out]; exact hui), by simp⟩
        obtain ⟨rb, ro, rfl, hat⟩ := HRW.out wB hB.lw.below (by intro h; simp at h; subst h; simp at hr)
        have g2 := hat.cell (i := u.i) (cs := r.v) (by simp [hr]) (j := 2) (u := .int .i64 r.t) rfl
        have hrt : rT R u.i = r.t := by simp [rT, hr]
        rw [hrt] at hfin
        clear hat hr hrt
        go_wp2_with fail
        go_region
        have hC := (hB.to r.t).after ((Below.refl _ _).drew)
        obtain ⟨wC, hwC⟩ : ∃ wC, wC = (wB.setCell ⟨T, 2, none⟩ (.int .i64 r.t)).drew := ⟨_, rfl⟩
        rw [← hwC] at hC ⊢
        clear hwC hB d0 d1 d2 d3 fr1 g2
        clear c0 c1 c2 c3 c4 c5
        obtain ⟨c0, c1, c2, c3, c4, c5⟩ := cells6 hC.lw.cells
        have fr2 := fun j => Lib.frozen_of_heap hC.lw.cells j
        have q1 : IntKind.i64.wrap ((u.i : Int) + 1) = (u.i : Int) + 1 := IntWalk.i64_in _ (by omega)
        have hD : OneAt w1 (wC.setCell ⟨b, 2, none⟩ (.int .i64 ((u.i : Int) + 1))) b T file n (some ⟨rb, ro, none⟩) cap (u.i + 1) u.ds u.sp u.q vd5 u4 lcs T out l fr r.t u.op (.slice vao l.length vcap) := by
          have := hC.at (u.i + 1)
          rw [show ((u.i + 1 : Nat) : Int) = (u.i : Int) + 1 by omega] at this
          exact this
        obtain ⟨d0, d1, d2, d3⟩ := cells4x hD.here
        have hlenO : lcs.length + 1 ≤ 1000000000 := by rw [hD.lns.len]; omega
        have hszD : b + 1 ≤ (wC.setCell ⟨b, 2, none⟩ (.int .i64 ((u.i : Int) + 1))).heap.size := lt_of_block hD.lw.cells
        go_wp2_with (at_builtin; go_must (refine wpList_append1 E60 rfl rfl hD.own rfl rfl (news := [.slice vao l.length vcap, .int .i64 fr, .int .i64 r.t, .bool u.op]) (by simp) rfl (by simp [Value.oneCell']) hlenO (by decide) hszD ?_); intro v9 w9 hown9 hg9)
        go_roundg (n + 1 - (u.i + 1))
        case measure => omega
        case rel => exact ⟨u.i + 1, r.t, rfl, rfl, hD.app hown9 hg9 (by omega) (by omega) (by omega) (Lib.hid ⟨fun _ => ⟨by rw [hop.out]; exact hfin.out, by omega⟩, fun h => by omega⟩)⟩
      · clear hsim
        replace hfin := Lib.hid hfin
        have e2 : ¬ (u.i : Int) < n := by rw [hui]; omega
        replace hop := Lib.hid hop
        replace hui := Lib.hid hui
        go_wp2_with fail
        go_quiet (fail)
        have hC := hA.after (drewN_below wA nq)
        obtain ⟨wC, hwC⟩ : ∃ wC, wC = wA.drewN nq := ⟨_, rfl⟩
        rw [← hwC] at hC ⊢
        clear hwC hA
        clear c0 c1 c2 c3 c4 c5
        obtain ⟨c0, c1, c2, c3, c4, c5⟩ := cells6 hC.lw.cells
        have fr2 := fun j => Lib.frozen_of_heap hC.lw.cells j
        have q1 : IntKind.i64.wrap ((u.i : Int) + 1) = (u.i : Int) + 1 := IntWalk.i64_in _ (by omega)
        have hD : OneAt w1 (wC.setCell ⟨b, 2, none⟩ (.int .i64 ((u.i : Int) + 1))) b T file n ao cap (u.i + 1) u.ds u.sp u.q vd5 u4 lcs T out l fr m u.op (.slice vao l.length vcap) := by
          have := hC.at (u.i + 1)
          rw [show ((u.i + 1 : Nat) : Int) = (u.i : Int) + 1 by omega] at this
          exact this
        obtain ⟨d0, d1, d2, d3⟩ := cells4x hD.here
        have hlenO : lcs.length + 1 ≤ 1000000000 := by rw [hD.lns.len]; omega
        have hszD : b + 1 ≤ (wC.setCell ⟨b, 2, none⟩ (.int .i64 ((u.i : Int) + 1))).heap.size := lt_of_block hD.lw.cells
        go_wp2_with (at_builtin; go_must (refine wpList_append1 E60 rfl rfl hD.own rfl rfl (news := [.slice vao l.length vcap, .int .i64 fr, .int .i64 m, .bool u.op]) (by simp) rfl (by simp [Value.oneCell']) hlenO (by decide) hszD ?_); intro v9 w9 hown9 hg9)
        go_roundg (n + 1 - (u.i + 1))
        case measure => omega
        case rel =>
          refine ⟨u.i + 1, m, rfl, rfl, hD.app hown9 hg9 (by omega) (by omega) (by omega) (Lib.hid ⟨fun h => by have := hui.out; omega, fun _ => ?_⟩)⟩
          rw [finL_snoc, hop.out]
          exact hfin.out
    · have e1 : ¬ (i : Int) < n := by omega
      have hfin : Hid (linesL tx = (finL m out, ds)) := Lib.hid (by
        rcases Nat.lt_or_ge n i with h | h
        · exact hres.out.2 h
        · rw [(hres.out.1 h).1]
          exact linesFrom_end (by rw [HN.out]; exact hlt))
      clear hres
      have hol' := hLs.len
      obtain ⟨oao, ocap, rfl, hoc, _, _, _⟩ := hO.rown (n := out.length) (by rw [hol'])
      have hw1 : w.heap.size ≤ b := by rw [hb.out]; exact hb1.size
      have hol5 : out.length ≤ 1000003 := by omega
      go_wp2_with fail
      go_quiet (fail)
      have hL2 := hL.after (drewN_below wr nq)
      have hO2 := hO.below (drewN_below wr nq)
      have hLs2 := hLs.kept (KeptTok.below ((drewN_below wr nq).mono hS))
      have hS2 := Nat.le_trans hS (drewN_below wr nq).size
      obtain ⟨wz, hwz⟩ : ∃ wz, wz = wr.drewN nq := ⟨_, rfl⟩
      rw [← hwz] at hL2 hO2 hLs2 hS2 ⊢
      clear hwz c0 c1 c2 c3 c4 c5 hL hO hLs hS
      have hbw : Below w.heap.size w wz := hb1.trans (hL2.below.lo.mono hw1)
      by_cases ho0 : out = []
      · have hz : out.length = 0 := by rw [ho0]; rfl
        have hl0 : lcs = [] := by rw [hz] at hol'; exact List.eq_nil_of_length_eq_zero hol'
        have hfin2 : Hid (linesL tx = ([], ds)) := Lib.hid (by rw [hfin.out, ho0]; rfl)
        rw [hz] at hO2 ⊢
        rw [hl0] at hO2
        clear hoc hfin ho0 hz hl0 hol'
        obtain ⟨c0, c1, c2, c3, c4, c5⟩ := cells6 hL2.cells
        go_wp2_with fail
        go_quiet (fail)
        go_wp2
        go_ret2
        refine ⟨_, vd, [], rfl, (hO2.below (drewN_below wz nq)).mono (by omega), ?_, ?_, hbw.trans ((drewN_below wz nq).mono hbw.size)⟩
        · rw [hfin2.out]; exact .nil
        · rw [hfin2.out]; exact (hL2.diags.below (drewN_below wz nq)).mono (by omega)
      · obtain ⟨M, hM⟩ : ∃ M, out.length = M + 1 := ⟨out.length - 1, by cases h : out with | nil => exact (ho0 h).elim | cons => simp⟩
        rw [hM] at hO2 hoc ⊢
        have hoa : oao ≠ none := by
          intro e
          subst e
          rcases hO2.1.2 with ⟨h1, _⟩ | ⟨g, cap', cur, h1, _⟩
          · simp at h1
          · simp at h1
        obtain ⟨⟨g, go, gs⟩, rfl⟩ := Option.ne_none_iff_exists'.1 hoa
        obtain ⟨rfl, rfl⟩ : go = 0 ∧ gs = none := by
          rcases hO2.1.2 with ⟨h1, _⟩ | ⟨g', cap', cur, h1, _⟩
          · simp at h1
          · simp at h1; exact ⟨h1.1.2.1, h1.1.2.2⟩
        obtain ⟨old, lcs', hc, hfr, ho', hl', hBg⟩ := lines_lastX hO2 hLs2 hM m
        obtain ⟨y, fz, hy⟩ := hO2.size_lt g rfl
        have hL3 := hL2.setT hy (by decide) (by decide) (Nat.lt_of_succ_le hBg) (M * 4 + 2) (.int .i64 m)
        have hbw' := hbw.setCell (p := ⟨g, M * 4 + 2, none⟩) (by simp; omega) (.int .i64 m)
        have hM5 : M ≤ 1000003 := by omega
        have hszz : S ≤ (wz.setCell ⟨g, M * 4 + 2, none⟩ (.int .i64 m)).heap.size := by simpa [World.setCell] using hS2
        clear ho0 hol' hol hy
        replace hM := Lib.hid hM
        obtain ⟨c0, c1, c2, c3, c4, c5⟩ := cells6 hL3.cells
        rw [hm.out] at ho' hl' hL3 hbw' hszz c0 c1 c2 c3 c4 c5 hfin
        go_wp2_with fail
        obtain ⟨w8, hw8⟩ : ∃ w8, w8 = wz.setCell ⟨g, M * 4 + 2, none⟩ (.int .i64 s.size) := ⟨_, rfl⟩
        rw [← hw8] at ho' hl' hL3 hbw' hszz c0 c1 c2 c3 c4 c5 ⊢
        clear hw8 hc hfr
        go_quiet (fail)
        go_wp2
        go_ret2
        refine ⟨_, vd, lcs', rfl, (ho'.below (drewN_below w8 nq)).mono (by omega), ?_, ?_, hbw'.trans ((drewN_below w8 nq).mono hbw'.size)⟩
        · rw [hfin.out]; exact (hl'.kept (KeptTok.below ((drewN_below w8 nq).mono hszz))).mono (Nat.le_trans hszz (drewN_below w8 nq).size)
        · rw [hfin.out]; exact (hL3.diags.below (drewN_below w8 nq)).mono (by omega)
end Go.Proofs.Ythbicbfdldpemaa
