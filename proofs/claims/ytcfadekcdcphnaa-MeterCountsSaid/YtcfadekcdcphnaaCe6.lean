/- Meters: Add. -/
import Derived.Test.YtcfadekcdcphnaaCe5
namespace Go.Proofs.Ytcfadekcdcphnaa
open Go.RowKit
set_option linter.unusedVariables false

def putI (L : List (ByteArray × Int)) (n : ByteArray) (v : Int) : List (ByteArray × Int) := if (L.any fun p => decide (p.1 = n)) then L.map (fun p => if p.1 = n then (n, v) else p) else L ++ [(n, v)]

theorem putL_int (L : List (ByteArray × Int)) (n : ByteArray) (v : Int) : putL (L.map intV) n (.int .i64 v) = (putI L n v).map intV := by
  unfold putL putI
  rw [List.any_map]
  have : ((fun p : ByteArray × Value => decide (p.1 = n)) ∘ intV) = fun p : ByteArray × Int => decide (p.1 = n) := rfl
  rw [this]
  split
  · rw [List.map_map, List.map_map]
    apply List.map_congr_left
    intro p _
    simp only [Function.comp_apply]
    by_cases h : p.1 = n
    · rw [if_pos (show (intV p).1 = n from h), if_pos h]; rfl
    · rw [if_neg (show ¬ (intV p).1 = n from h), if_neg h]
  · rw [List.map_append]; rfl

theorem putI_keys {L : List (ByteArray × Int)} {n : ByteArray} {v : Int} (h : (L.map (·.1)).Nodup) : ((putI L n v).map (·.1)).Nodup := by
  unfold putI
  split
  · have : (L.map fun p => if p.1 = n then (n, v) else p).map (·.1) = L.map (·.1) := by
      rw [List.map_map]
      apply List.map_congr_left
      intro p _
      simp only [Function.comp_apply]
      by_cases hp : p.1 = n
      · rw [if_pos hp]; exact hp.symm
      · rw [if_neg hp]
    rw [this]; exact h
  · rename_i hn
    rw [List.map_append, List.nodup_append]
    refine ⟨h, by simp, ?_⟩
    intro a ha b hb
    simp only [List.map_cons, List.map_nil, List.mem_singleton] at hb
    subst hb
    rintro rfl
    apply hn
    obtain ⟨p, hp, e⟩ := List.mem_map.1 ha
    rw [List.any_eq_true]
    exact ⟨p, hp, by simpa using e⟩

theorem putI_mem {L : List (ByteArray × Int)} {n : ByteArray} {v : Int} {p : ByteArray × Int} (h : p ∈ putI L n v) : p ∈ L ∨ p = (n, v) := by
  unfold putI at h
  split at h
  · obtain ⟨q, hq, e⟩ := List.mem_map.1 h
    by_cases hn : q.1 = n
    · rw [if_pos hn] at e; exact .inr e.symm
    · rw [if_neg hn] at e; subst e; exact .inl hq
  · rcases List.mem_append.1 h with h | h
    · exact .inl h
    · exact .inr (by simpa using h)

theorem numOf_range {L : List (ByteArray × Int)} (h : ∀ p ∈ L, p.1.size ≤ maxLen ∧ 0 ≤ p.2 ∧ p.2 ≤ 4611686018427387904) (n : ByteArray) : 0 ≤ numOf L n ∧ numOf L n ≤ 4611686018427387904 := by
  unfold numOf
  cases hf : L.find? fun p => decide (p.1 = n) with
  | none => simp
  | some q => exact (h q (List.mem_of_find?_eq_some hf)).2

/-- what a number is, behind an addition -/
def sumOf (L : List (ByteArray × Int)) (n : ByteArray) (k : Int) : Int := numOf L n + min k (4611686018427387904 - numOf L n)

/-- Nothing has turned but block g, and what is new. -/
structure OnlyG (g : Nat) (w w' : World) : Prop where
  size : w.heap.size ≤ w'.heap.size
  kept : ∀ k, k ≠ g → k < w.heap.size → w'.heap[k]? = w.heap[k]?
  below : ∀ B, B ≤ g → Below B w w'

theorem OnlyG.trans {g : Nat} {w w1 w2 : World} (h : OnlyG g w w1) (k : OnlyG g w1 w2) : OnlyG g w w2 :=
  ⟨Nat.le_trans h.size k.size, fun i h1 h2 => (k.kept i h1 (Nat.lt_of_lt_of_le h2 h.size)).trans (h.kept i h1 h2), fun B hB => (h.below B hB).trans (k.below B hB)⟩
theorem OnlyG.refl (g : Nat) (w : World) : OnlyG g w w := ⟨Nat.le_refl _, fun _ _ _ => rfl, fun _ _ => Below.refl _ _⟩

def AddPost (g : Nat) (L : List (ByteArray × Int)) (w : World) (e : Ending) (w' : World) : Prop := e = .returned (.tuple #[]) ∧ (∃ p, MeterAt w' g p L) ∧ OnlyG g w w'

theorem add_nil (n : ByteArray) (k : Int) (w : World) : Calls Try.prog 16 #[.pointer none, .string n, .int .i64 k] w fun e w' => e = .returned (.tuple #[]) ∧ w' = w := by
  go_enter Try.func16, Try.ntmps16
  refine wp_scope_loop 0 (fun _ _ => False) (fun _ _ => 0) rfl (fun _ => ?_) (fun _ _ h => h.elim)
  go_wp2
  first | refine bodyPost_ret (results_none rfl _ _ _) rfl ?_ | (simp only [Exit.jump]; refine bodyPost_ret (results_none rfl _ _ _) rfl ?_)
  exact ⟨rfl, rfl⟩

theorem add_less (g : Nat) (n : ByteArray) (k : Int) (hk : k ≤ 0) (w : World) : Calls Try.prog 16 #[.pointer (some ⟨g, 0, none⟩), .string n, .int .i64 k] w fun e w' => e = .returned (.tuple #[]) ∧ w' = w := by
  go_enter Try.func16, Try.ntmps16
  refine wp_scope_loop 0 (fun _ _ => False) (fun _ _ => 0) rfl (fun _ => ?_) (fun _ _ h => h.elim)
  go_wp2
  first | refine bodyPost_ret (results_none rfl _ _ _) rfl ?_ | (simp only [Exit.jump]; refine bodyPost_ret (results_none rfl _ _ _) rfl ?_)
  exact ⟨rfl, rfl⟩

/-- the world in which the next map lies, and where its variable points at it -/
def nextW (w : World) (o : Obj) : World := (w.alloc o).alloc (.cells #[.map (some w.heap.size)] 66)

theorem nextW_old {w : World} {o : Obj} {k : Nat} (hk : k < w.heap.size) : (nextW w o).heap[k]? = w.heap[k]? := by
  unfold nextW
  rw [Lib.alloc_old _ _ _ (by simp; omega), Lib.alloc_old _ _ _ hk]
theorem nextW_map (w : World) (o : Obj) : (nextW w o).heap[w.heap.size]? = some o := by
  unfold nextW
  rw [Lib.alloc_old _ _ _ (by simp)]
  exact heap_alloc_new w _
theorem nextW_var (w : World) (o : Obj) : (nextW w o).heap[w.heap.size + 1]? = some (.cells #[.map (some w.heap.size)] 66 (0, 0)) := by
  have := heap_alloc_new (w.alloc o) (.cells #[.map (some w.heap.size)] 66)
  rw [show (w.alloc o).heap.size = w.heap.size + 1 by simp] at this
  exact this
theorem nextW_size (w : World) (o : Obj) : (nextW w o).heap.size = w.heap.size + 2 := by unfold nextW; simp

theorem nextW_below (B : Nat) (w : World) (o : Obj) (hB : B ≤ w.heap.size) : Below B w (nextW w o) := ((Below.refl B w).alloc hB _).alloc (by simp; omega) _

set_option maxRecDepth 100000 in
set_option maxHeartbeats 4000000 in
theorem add_walk_lo {g nb mb : Nat} (n : ByteArray) (k x : Int) (es : Array MapEntry) (clock : Nat) (w W3 W4 : World) (hk : 0 < k) (hk2 : k ≤ 9223372036854775807) (x1 : 0 ≤ x) (x2 : x ≤ 4611686018427387904) (hc : k ≤ 4611686018427387904 - x)
    (HW : Calls Try.prog 27 #[.pointer (some ⟨g, 0, none⟩)] w fun e w' => e = .returned (.tuple #[.pointer (some ⟨nb, 0, none⟩), .map (some mb)]) ∧ w' = w)
    (HC : Calls Try.prog 28 #[.map (some mb)] w fun e w' => e = .returned (.map (some w.heap.size)) ∧ w' = w.alloc (.map es clock))
    (hl : (Instr.lookup 66 (.map (some w.heap.size)) (.string n) false).run Try.prog (nextW w (.map es clock)) = .ok (.int .i64 x) (nextW w (.map es clock)))
    (hU : (Instr.mapUpdate 66 (.map (some w.heap.size)) (.string n) (.int .i64 (x + k))).run Try.prog (nextW w (.map es clock)) = .ok () W3)
    (HK : Calls Try.prog 29 #[.pointer (some ⟨g, 0, none⟩), .pointer (some ⟨nb, 0, none⟩), .pointer (some ⟨w.heap.size + 1, 0, none⟩)] W3 fun e w' => e = .returned (.bool true) ∧ w' = W4)
    (hv : W3.cell? ⟨w.heap.size + 1, 0, none⟩ = some (.map (some w.heap.size))) :
    Calls Try.prog 16 #[.pointer (some ⟨g, 0, none⟩), .string n, .int .i64 k] w fun e w' => e = .returned (.tuple #[]) ∧ w' = W4 := by
  have hk' : ¬ k ≤ 0 := by omega
  have g1 : IntKind.i64.wrap (4611686018427387904 - x) = 4611686018427387904 - x := IntWalk.i64_in _ (by omega)
  have g2 : IntKind.i64.wrap (x + k) = x + k := IntWalk.i64_in _ (by omega)
  have hq := fun w' => run_eql_map_nil_sl (P := Try.prog) w' 66 _ _ (some w.heap.size) Try.underlying66
  have hnot : ∀ (x : Bool) (w : World), (Op.unary .not (.bool x)).run Try.prog w = .ok (.bool (!x)) w := fun _ _ => rfl
  unfold nextW at hl hU
  replace HW := Lib.hid HW
  replace HC := Lib.hid HC
  replace HK := Lib.hid HK
  go_enter Try.func16, Try.ntmps16
  refine wp_scope_loop 0 (fun _ _ => False) (fun _ _ => 0) rfl (fun _ => ?_) (fun _ _ h => h.elim)
  go_wp2_with fail
  go_step3
  go_step
  go_step
  go_wp2_with fail
  refine HW.out.mono ?_
  rintro e w' ⟨rfl, hw'⟩
  replace hw' := hw'.symm
  subst hw'
  go_wp2_with fail
  refine HC.out.mono ?_
  rintro e w' ⟨rfl, hw'⟩
  subst hw'
  go_wp2_with fail
  refine HK.out.mono ?_
  rintro e w' ⟨rfl, hw'⟩
  subst hw'
  go_wp2_with fail
  simp only [Exit.jump]
  refine bodyPost_end (results_none rfl _ _ _) rfl ?_
  exact ⟨rfl, rfl⟩

set_option maxRecDepth 100000 in
set_option maxHeartbeats 4000000 in
theorem add_walk_hi {g nb mb : Nat} (n : ByteArray) (k x : Int) (es : Array MapEntry) (clock : Nat) (w W3 W4 : World) (hk : 0 < k) (hk2 : k ≤ 9223372036854775807) (x1 : 0 ≤ x) (x2 : x ≤ 4611686018427387904) (hc : 4611686018427387904 - x < k)
    (HW : Calls Try.prog 27 #[.pointer (some ⟨g, 0, none⟩)] w fun e w' => e = .returned (.tuple #[.pointer (some ⟨nb, 0, none⟩), .map (some mb)]) ∧ w' = w)
    (HC : Calls Try.prog 28 #[.map (some mb)] w fun e w' => e = .returned (.map (some w.heap.size)) ∧ w' = w.alloc (.map es clock))
    (hl : (Instr.lookup 66 (.map (some w.heap.size)) (.string n) false).run Try.prog (nextW w (.map es clock)) = .ok (.int .i64 x) (nextW w (.map es clock)))
    (hU : (Instr.mapUpdate 66 (.map (some w.heap.size)) (.string n) (.int .i64 (x + (4611686018427387904 - x)))).run Try.prog (nextW w (.map es clock)) = .ok () W3)
    (HK : Calls Try.prog 29 #[.pointer (some ⟨g, 0, none⟩), .pointer (some ⟨nb, 0, none⟩), .pointer (some ⟨w.heap.size + 1, 0, none⟩)] W3 fun e w' => e = .returned (.bool true) ∧ w' = W4)
    (hv : W3.cell? ⟨w.heap.size + 1, 0, none⟩ = some (.map (some w.heap.size))) :
    Calls Try.prog 16 #[.pointer (some ⟨g, 0, none⟩), .string n, .int .i64 k] w fun e w' => e = .returned (.tuple #[]) ∧ w' = W4 := by
  have hk' : ¬ k ≤ 0 := by omega
  have g1 : IntKind.i64.wrap (4611686018427387904 - x) = 4611686018427387904 - x := IntWalk.i64_in _ (by omega)
  have g2 : IntKind.i64.wrap (x + (4611686018427387904 - x)) = x + (4611686018427387904 - x) := IntWalk.i64_in _ (by omega)
  have hq := fun w' => run_eql_map_nil_sl (P := Try.prog) w' 66 _ _ (some w.heap.size) Try.underlying66
  have hnot : ∀ (x : Bool) (w : World), (Op.unary .not (.bool x)).run Try.prog w = .ok (.bool (!x)) w := fun _ _ => rfl
  unfold nextW at hl hU
  replace HW := Lib.hid HW
  replace HC := Lib.hid HC
  replace HK := Lib.hid HK
  go_enter Try.func16, Try.ntmps16
  refine wp_scope_loop 0 (fun _ _ => False) (fun _ _ => 0) rfl (fun _ => ?_) (fun _ _ h => h.elim)
  go_wp2_with fail
  go_step3
  go_step
  go_step
  go_wp2_with fail
  refine HW.out.mono ?_
  rintro e w' ⟨rfl, hw'⟩
  replace hw' := hw'.symm
  subst hw'
  go_wp2_with fail
  refine HC.out.mono ?_
  rintro e w' ⟨rfl, hw'⟩
  subst hw'
  go_wp2_with fail
  refine HK.out.mono ?_
  rintro e w' ⟨rfl, hw'⟩
  subst hw'
  go_wp2_with fail
  simp only [Exit.jump]
  refine bodyPost_end (results_none rfl _ _ _) rfl ?_
  exact ⟨rfl, rfl⟩

end Go.Proofs.Ytcfadekcdcphnaa
