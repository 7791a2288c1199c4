/- Trees: the laws' own helpers: Ints, Texts, Round, awake. -/
import Derived.Test.YtcafiaoinonpgaaTree6
import Derived.Deep.QuietTactic
namespace Go.Proofs.Ytcafiaoinonpgaa
open Go.RowKit
set_option linter.unusedVariables false

set_option maxHeartbeats 1000000 in
theorem Ints_yes (A : List Int) (n : Nat) (hA : A.length = n) (a1 a2 : Option Addr) (c1 c2 : Nat) (hn : n ≤ 1000000) (w : World) (h1 : Row w 1 a1 (A.map fun x => [Value.int .i64 x])) (h2 : Row w 1 a2 (A.map fun x => [Value.int .i64 x])) :
    Calls Try.prog 23 #[.slice a1 n c1, .slice a2 n c2] w fun e w' => e = .returned (.bool true) ∧ Below w.heap.size w w' := by
  have HA := Lib.hid hA
  clear hA
  go_enter Try.func23, Try.ntmps23
  go_wp2
  go_loopw [5] (fun i wr => ∃ k : Nat, k ≤ n ∧ i = .int .i64 k ∧ Below w.heap.size w wr) (fun i _ => n - (intOf i).toNat)
  case atStart => exact ⟨0, Nat.zero_le _, rfl, Below.refl _ _⟩
  case round =>
    obtain ⟨k, hk, rfl, hb⟩ := hrel
    by_cases hlt : k < n
    · obtain ⟨r, hr⟩ : ∃ r, A[k]? = some r := ⟨A[k]'(by rw [HA.out]; exact hlt), by simp⟩
      have hne : (A.map fun x => [Value.int .i64 x]) ≠ [] := by intro h; simp at h; subst h; simp at hr
      obtain ⟨b, o, rfl, hat⟩ := (h1.below hb) hne
      obtain ⟨b', o', rfl, hat'⟩ := (h2.below hb) hne
      have hi : (A.map fun x => [Value.int .i64 x])[k]? = some [Value.int .i64 r] := by simp [hr]
      have c0 := hat.cell hi (j := 0) (u := Value.int .i64 r) rfl
      have d0 := hat'.cell hi (j := 0) (u := Value.int .i64 r) rfl
      simp only [Nat.mul_one, Nat.add_zero] at c0 d0
      clear hr hi hat hat' hne h1 h2
      go_wp2
      go_quiet (fail)
      go_wp2
      exact ⟨⟨k + 1, by omega, by go_num, below_drewN hb nq⟩, by simp [intOf]; omega⟩
    · go_wp2
      go_ret
      exact ⟨rfl, hb⟩
set_option maxHeartbeats 1000000 in
theorem Texts_yes (A : List ByteArray) (n : Nat) (hA : A.length = n) (a1 a2 : Option Addr) (c1 c2 : Nat) (hn : n ≤ 1000000) (w : World) (h1 : Row w 1 a1 (A.map fun x => [Value.string x])) (h2 : Row w 1 a2 (A.map fun x => [Value.string x])) :
    Calls Try.prog 31 #[.slice a1 n c1, .slice a2 n c2] w fun e w' => e = .returned (.bool true) ∧ Below w.heap.size w w' := by
  have HA := Lib.hid hA
  clear hA
  go_enter Try.func31, Try.ntmps31
  go_wp2
  go_loopw [5] (fun i wr => ∃ k : Nat, k ≤ n ∧ i = .int .i64 k ∧ Below w.heap.size w wr) (fun i _ => n - (intOf i).toNat)
  case atStart => exact ⟨0, Nat.zero_le _, rfl, Below.refl _ _⟩
  case round =>
    obtain ⟨k, hk, rfl, hb⟩ := hrel
    by_cases hlt : k < n
    · obtain ⟨r, hr⟩ : ∃ r, A[k]? = some r := ⟨A[k]'(by rw [HA.out]; exact hlt), by simp⟩
      have hne : (A.map fun x => [Value.string x]) ≠ [] := by intro h; simp at h; subst h; simp at hr
      obtain ⟨b, o, rfl, hat⟩ := (h1.below hb) hne
      obtain ⟨b', o', rfl, hat'⟩ := (h2.below hb) hne
      have hi : (A.map fun x => [Value.string x])[k]? = some [Value.string r] := by simp [hr]
      have c0 := hat.cell hi (j := 0) (u := Value.string r) rfl
      have d0 := hat'.cell hi (j := 0) (u := Value.string r) rfl
      simp only [Nat.mul_one, Nat.add_zero] at c0 d0
      clear hr hi hat hat' hne h1 h2
      go_wp2
      go_quiet (fail)
      go_wp2
      exact ⟨⟨k + 1, by omega, by go_num, below_drewN hb nq⟩, by simp [intOf]; omega⟩
    · go_wp2
      go_ret
      exact ⟨rfl, hb⟩

theorem node_cells {w : World} {b : Nat} {a0 a1 a2 a3 a4 : Value} {e : TypeId} {fz : Nat × Nat} (h : w.heap[b]? = some (.cells #[a0, a1, a2, a3, a4] e fz)) :
    w.cell? ⟨b, 0, none⟩ = some a0 ∧ w.cell? ⟨b, 1, none⟩ = some a1 ∧ w.cell? ⟨b, 2, none⟩ = some a2 ∧ w.cell? ⟨b, 3, none⟩ = some a3 ∧ w.cell? ⟨b, 4, none⟩ = some a4 :=
  ⟨by simpa using Lib.cell_of_heap h 0, by simpa using Lib.cell_of_heap h 1, by simpa using Lib.cell_of_heap h 2, by simpa using Lib.cell_of_heap h 3, by simpa using Lib.cell_of_heap h 4⟩

def tName : T := .mk ⟨#[110, 97, 109, 101]⟩ ⟨#[97]⟩ 0 1 []
def tInt : T := .mk ⟨#[105, 110, 116]⟩ ⟨#[49]⟩ 2 3 []
def tAw : T := .mk ⟨#[97, 100, 100]⟩ ⟨#[]⟩ 0 3 [tName, tInt]
def tNil : T := .mk ⟨#[]⟩ ⟨#[]⟩ 0 0 []
def cName : List Value := [.string ⟨#[110, 97, 109, 101]⟩, .string ⟨#[97]⟩, .int .i64 0, .int .i64 1, .slice none 0 0]
def cInt : List Value := [.string ⟨#[105, 110, 116]⟩, .string ⟨#[49]⟩, .int .i64 2, .int .i64 3, .slice none 0 0]
def cAw (g : Nat) : List Value := [.string ⟨#[97, 100, 100]⟩, .string ⟨#[]⟩, .int .i64 0, .int .i64 3, .slice (some ⟨g, 0, none⟩) 2 2]

def awW (w : World) : World := (w.alloc (.cells (cName ++ cInt).toArray 40)).alloc (.cells (cAw w.heap.size).toArray 40)
theorem awW_size (w : World) : (awW w).heap.size = w.heap.size + 2 := by simp [awW]
theorem awW_below (w : World) : Below w.heap.size w (awW w) := two_new w _ _

theorem rep_aw (w : World) (w' : World) (h : Below (w.heap.size + 2) (awW w) w') : Rep w' (· < w.heap.size + 2) tAw (cAw w.heap.size) := by
  refine .mk (css := [cName, cInt]) (.cons (Rep.leaf _ _ _ _) (.cons (Rep.leaf _ _ _ _) .nil)) (fun _ => ⟨_, 0, rfl, Nat.lt_succ_of_lt (Nat.lt_succ_self _), ?_⟩) ⟨by decide, by decide⟩
  intro i c hi j u hj
  have h1 := flatten_at (css := [cName, cInt]) (sz := 5) (by decide) hi hj
  refine (h.cell (p := ⟨w.heap.size, _, none⟩) (Nat.lt_succ_of_lt (Nat.lt_succ_self _))).trans ?_
  rw [Nat.zero_add]
  exact kept_cell ((Below.refl _ (w.alloc (.cells (cName ++ cInt).toArray 40))).alloc (Nat.le_refl _) _) (cell_new w _ _ (by simpa using h1))

theorem heap_aw (w : World) (w' : World) (h : Below (w.heap.size + 2) (awW w) w') : w'.heap[w.heap.size + 1]? = some (.cells (cAw w.heap.size).toArray 40 (0, 0)) := by
  rw [h.block _ (by omega)]
  have := heap_alloc_new (w.alloc (.cells (cName ++ cInt).toArray 40)) (.cells (cAw w.heap.size).toArray 40)
  rw [show (w.alloc (.cells (cName ++ cInt).toArray 40)).heap.size = w.heap.size + 1 by simp] at this
  exact this

theorem out_aw : T.out tAw = [40, 97, 100, 100, 32, 40, 110, 97, 109, 101, 32, 97, 41, 32, 40, 105, 110, 116, 32, 49, 41, 41] := by decide
theorem size_aw : T.size tAw = 3 := by decide
theorem leaves_aw : T.leaves tAw = [0, 2] := by decide
theorem pre_aw : (T.pre tAw).length ≤ 1000000 := by rw [← T.size_pre, size_aw]; decide
theorem same_aw : T.same tAw tAw = true := by decide
theorem same_aw0 : T.same tAw tNil = false := by decide

/-- what the calls of 'awake' give -/
theorem aw_step (w : World) (w1 : World) (h : Below (w.heap.size + 2) (awW w) w1) : Hid (Below (w.heap.size + 2) (awW w) w1) ∧ w1.cell? ⟨w.heap.size + 1, 0, none⟩ = some (.string ⟨#[97, 100, 100]⟩) ∧ w1.cell? ⟨w.heap.size + 1, 1, none⟩ = some (.string ⟨#[]⟩) ∧ w1.cell? ⟨w.heap.size + 1, 2, none⟩ = some (.int .i64 0) ∧ w1.cell? ⟨w.heap.size + 1, 3, none⟩ = some (.int .i64 3) ∧ w1.cell? ⟨w.heap.size + 1, 4, none⟩ = some (.slice (some ⟨w.heap.size, 0, none⟩) 2 2) := by
  have := node_cells (heap_aw w w1 h)
  exact ⟨Lib.hid h, this⟩

theorem aw_Write (w w1 : World) (h : Below (w.heap.size + 2) (awW w) w1) : Calls Try.prog 19 #[.agg (cAw w.heap.size).toArray] w1 fun e w' => e = .returned (.string ⟨#[40, 97, 100, 100, 32, 40, 110, 97, 109, 101, 32, 97, 41, 32, 40, 105, 110, 116, 32, 49, 41, 41]⟩) ∧ Below (w.heap.size + 2) (awW w) w' := by
  have hl : w.heap.size + 2 ≤ w1.heap.size := by have := h.size; rw [awW_size] at this; exact this
  refine (tWrite_any tAw _ _ w1 (rep_aw w w1 h) (by rw [out_aw]; decide)).mono ?_
  rintro e w' ⟨rfl, hb⟩
  exact ⟨by rw [out_aw], bstep h hb hl⟩

theorem aw_Size (w w1 : World) (h : Below (w.heap.size + 2) (awW w) w1) : Calls Try.prog 20 #[.agg (cAw w.heap.size).toArray] w1 fun e w' => e = .returned (.int .i64 3) ∧ Below (w.heap.size + 2) (awW w) w' := by
  have hl : w.heap.size + 2 ≤ w1.heap.size := by have := h.size; rw [awW_size] at this; exact this
  refine (tSize_any tAw _ _ w1 (rep_aw w w1 h) pre_aw).mono ?_
  rintro e w' ⟨rfl, hb⟩
  exact ⟨by rw [size_aw]; rfl, bstep h hb hl⟩

theorem aw_Leaves (w w1 : World) (h : Below (w.heap.size + 2) (awW w) w1) : Calls Try.prog 24 #[.agg (cAw w.heap.size).toArray] w1 fun e w' => ∃ ao cap, e = .returned (.slice ao 2 cap) ∧ Row w' 1 ao ([0, 2].map fun i => [Value.int .i64 i]) ∧ Below (w.heap.size + 2) (awW w) w' := by
  have hl : w.heap.size + 2 ≤ w1.heap.size := by have := h.size; rw [awW_size] at this; exact this
  refine (tLeaves_any tAw _ _ w1 (rep_aw w w1 h) pre_aw).mono ?_
  rintro e w' ⟨v, rfl, ho, hb⟩
  rw [leaves_aw] at ho
  obtain ⟨ao, cap, rfl, _, _, hr, _⟩ := ho.rown (n := 2) rfl
  exact ⟨ao, cap, rfl, hr, bstep h hb hl⟩

theorem aw_Same (w w1 : World) (h : Below (w.heap.size + 2) (awW w) w1) : Calls Try.prog 21 #[.agg (cAw w.heap.size).toArray, .agg (cAw w.heap.size).toArray] w1 fun e w' => e = .returned (.bool true) ∧ Below (w.heap.size + 2) (awW w) w' := by
  have hl : w.heap.size + 2 ≤ w1.heap.size := by have := h.size; rw [awW_size] at this; exact this
  refine (tsame_any tAw tAw _ _ _ w1 (rep_aw w w1 h) (rep_aw w w1 h)).mono ?_
  rintro e w' ⟨rfl, hb⟩
  exact ⟨by rw [same_aw], bstep h hb hl⟩

theorem aw_Same0 (w w1 : World) (h : Below (w.heap.size + 2) (awW w) w1) : Calls Try.prog 21 #[.agg (cAw w.heap.size).toArray, .agg #[.string ⟨#[]⟩, .string ⟨#[]⟩, .int .i64 0, .int .i64 0, .slice none 0 0]] w1 fun e w' => e = .returned (.bool false) ∧ Below (w.heap.size + 2) (awW w) w' := by
  have hl : w.heap.size + 2 ≤ w1.heap.size := by have := h.size; rw [awW_size] at this; exact this
  refine (tsame_any tAw tNil _ _ _ w1 (rep_aw w w1 h) (Rep.leaf _ _ _ _)).mono ?_
  rintro e w' ⟨rfl, hb⟩
  exact ⟨by rw [same_aw0], bstep h hb hl⟩

theorem aw_At2 (w w1 : World) (h : Below (w.heap.size + 2) (awW w) w1) : Calls Try.prog 22 #[.agg (cAw w.heap.size).toArray, .int .i64 2] w1 fun e w' => ∃ ao cap, e = .returned (.slice ao 2 cap) ∧ Row w' 1 ao ([⟨#[97, 100, 100]⟩, ⟨#[105, 110, 116]⟩].map fun i => [Value.string i]) ∧ Below (w.heap.size + 2) (awW w) w' := by
  have hl : w.heap.size + 2 ≤ w1.heap.size := by have := h.size; rw [awW_size] at this; exact this
  refine (tAt_any tAw _ _ w1 2 (rep_aw w w1 h) (by rw [size_aw]; decide)).mono ?_
  rintro e w' ⟨v, l, rfl, ho, hw, _, hb⟩
  have hl2 : l = [⟨#[97, 100, 100]⟩, ⟨#[105, 110, 116]⟩] := by
    have h1 := hw (by decide)
    cases h1 with
    | stop h => exact absurd (by decide) (h tInt (by simp [tAw, T.kids]))
    | @go _ y l' i hi hy hn h2 =>
      have : i = 1 := by
        match i, hi with
        | 0, hi => simp [tAw, T.kids] at hi; subst hi; exact absurd hy (by decide)
        | 1, _ => rfl
        | i + 2, hi => simp [tAw, T.kids] at hi
      subst this
      simp [tAw, T.kids] at hi
      subst hi
      cases h2 with
      | stop _ => rfl
      | go i hi => simp [tInt, T.kids] at hi
  subst hl2
  obtain ⟨ao, cap, rfl, _, _, hr, _⟩ := ho.rown (n := 2) rfl
  exact ⟨ao, cap, rfl, hr, bstep h hb hl⟩

theorem aw_At9 (w w1 : World) (h : Below (w.heap.size + 2) (awW w) w1) : Calls Try.prog 22 #[.agg (cAw w.heap.size).toArray, .int .i64 9] w1 fun e w' => ∃ ao cap, e = .returned (.slice ao 0 cap) ∧ Below (w.heap.size + 2) (awW w) w' := by
  have hl : w.heap.size + 2 ≤ w1.heap.size := by have := h.size; rw [awW_size] at this; exact this
  refine (tAt_any tAw _ _ w1 9 (rep_aw w w1 h) (by rw [size_aw]; decide)).mono ?_
  rintro e w' ⟨v, l, rfl, ho, _, hw, hb⟩
  obtain rfl := hw (by decide)
  obtain ⟨ao, cap, rfl, _, _, hr, _⟩ := ho.rown (n := 0) rfl
  exact ⟨ao, cap, rfl, bstep h hb hl⟩

set_option maxHeartbeats 2000000 in
set_option maxRecDepth 100000 in
theorem tawake_any (w : World) : Calls Try.prog 17 #[] w fun e w' => e = .returned (.bool true) ∧ Below w.heap.size w w' := by
  have hsz := awW_size w
  have HS := Lib.hid hsz
  clear hsz
  go_enter Try.func17, Try.ntmps17
  go_wp2_with fail
  refine (aw_Write w _ (Below.refl _ (awW w))).mono ?_
  rintro e w1 ⟨rfl, hb1⟩
  obtain ⟨hb1, c0, c1, c2, c3, c4⟩ := aw_step w w1 hb1
  go_wp2_with fail
  refine (aw_Size w _ hb1.out).mono ?_
  rintro e w2 ⟨rfl, hb2⟩
  clear c0 c1 c2 c3 c4 hb1
  obtain ⟨hb2, c0, c1, c2, c3, c4⟩ := aw_step w w2 hb2
  go_wp2_with fail
  refine (aw_Leaves w _ hb2.out).mono ?_
  rintro e w3 ⟨ao3, cap3, rfl, hr3, hb3⟩
  clear c0 c1 c2 c3 c4 hb2
  obtain ⟨hb3, c0, c1, c2, c3, c4⟩ := aw_step w w3 hb3
  go_wp2_with fail
  refine (Ints_yes [0, 2] 2 rfl _ _ _ _ (by decide) _ (hr3.below ((Below.refl _ _).alloc (Nat.le_refl _) _)) (row_new _ (css := [0, 2].map fun i => [Value.int .i64 i]) (by decide) _ rfl rfl)).mono ?_
  rintro e w4 ⟨rfl, hb4⟩
  have hb4 : Below (w.heap.size + 2) (awW w) w4 := bstep (hb3.out.alloc (by have := hb3.out.size; rw [HS.out] at this; exact this) _) hb4 (by have := hb3.out.size; rw [HS.out] at this; simp; omega)
  clear c0 c1 c2 c3 c4 hb3
  obtain ⟨hb4, c0, c1, c2, c3, c4⟩ := aw_step w w4 hb4
  go_wp2_with fail
  refine (aw_Same w _ hb4.out).mono ?_
  rintro e w5 ⟨rfl, hb5⟩
  clear c0 c1 c2 c3 c4 hb4
  obtain ⟨hb5, c0, c1, c2, c3, c4⟩ := aw_step w w5 hb5
  go_wp2_with fail
  refine (aw_Same0 w _ hb5.out).mono ?_
  rintro e w6 ⟨rfl, hb6⟩
  clear c0 c1 c2 c3 c4 hb5
  obtain ⟨hb6, c0, c1, c2, c3, c4⟩ := aw_step w w6 hb6
  go_wp2_with fail
  refine (aw_At2 w _ hb6.out).mono ?_
  rintro e w7 ⟨ao7, cap7, rfl, hr7, hb7⟩
  clear c0 c1 c2 c3 c4 hb6
  obtain ⟨hb7, c0, c1, c2, c3, c4⟩ := aw_step w w7 hb7
  go_wp2_with fail
  refine (Texts_yes [⟨#[97, 100, 100]⟩, ⟨#[105, 110, 116]⟩] 2 rfl _ _ _ _ (by decide) _ (hr7.below ((Below.refl _ _).alloc (Nat.le_refl _) _)) (row_new _ (css := [⟨#[97, 100, 100]⟩, ⟨#[105, 110, 116]⟩].map fun i => [Value.string i]) (by decide) _ rfl rfl)).mono ?_
  rintro e w8 ⟨rfl, hb8⟩
  have hb8 : Below (w.heap.size + 2) (awW w) w8 := bstep (hb7.out.alloc (by have := hb7.out.size; rw [HS.out] at this; exact this) _) hb8 (by have := hb7.out.size; rw [HS.out] at this; simp; omega)
  clear c0 c1 c2 c3 c4 hb7
  obtain ⟨hb8, c0, c1, c2, c3, c4⟩ := aw_step w w8 hb8
  go_wp2_with fail
  refine (aw_At9 w _ hb8.out).mono ?_
  rintro e w9 ⟨ao9, cap9, rfl, hb9⟩
  clear c0 c1 c2 c3 c4 hb8
  go_wp2
  go_ret
  exact ⟨rfl, (awW_below w).trans (hb9.mono (by omega))⟩
end Go.Proofs.Ytcafiaoinonpgaa
