/- Texts of this seat's proofs, laid into one file. -/
import Derived.Test.YtfaoamdlknlgpaaGreatArgsCollectDoneG9
import Derived.Deep.LoopGhost
import Derived.Deep.QuietTactic
/- Lists of texts: oxbowalike's Short and Texts. -/
namespace Go.Proofs.YtfaoamdlknlgpaaGreat
open Go.RowKit
set_option linter.unusedVariables false

theorem strRow_cell {w : World} {b o k : Nat} {A : List ByteArray} {s : ByteArray} (h : RowAt w 1 b o (A.map fun p => [.string p])) (hk : A[k]? = some s) : w.cell? ⟨b, o + k, none⟩ = some (.string s) := by
  have h1 : (A.map fun p => [Value.string p])[k]? = some [.string s] := by rw [List.getElem?_map, hk]; rfl
  have := h.cell h1 (j := 0) (u := .string s) rfl
  simpa using this

def sizesTo (A : List ByteArray) (k : Nat) : Nat := ((A.take k).map ByteArray.size).sum
theorem sizesTo_succ {A : List ByteArray} {k : Nat} {s : ByteArray} (h : A[k]? = some s) : sizesTo A (k + 1) = sizesTo A k + s.size := by
  unfold sizesTo
  rw [List.take_add_one, h]
  simp
theorem sizesTo_at {A : List ByteArray} {k j : Nat} {s : ByteArray} (h : A[j]? = some s) (hj : j < k) : s.size ≤ sizesTo A k := by
  induction k with
  | zero => omega
  | succ k ih =>
    cases hx : A[k]? with
    | none =>
      have h1 : j < A.length := (List.getElem?_eq_some_iff.1 h).1
      have h2 : A.length ≤ k := List.getElem?_eq_none_iff.1 hx
      have := ih (by omega)
      have e : sizesTo A (k + 1) = sizesTo A k := by
        unfold sizesTo
        rw [List.take_of_length_le (by omega), List.take_of_length_le h2]
      omega
    | some t =>
      rw [sizesTo_succ hx]
      by_cases e : j = k
      · subst e
        rw [hx] at h
        cases h
        omega
      · have := ih (by omega)
        omega

/-- oxbowalike.Short's answer -/
def shortL (A : List ByteArray) (M : Nat) : Bool := decide (A.length ≤ M ∧ sizesTo A A.length ≤ M)
theorem shortL_at {A : List ByteArray} {M : Nat} (h : shortL A M = true) : A.length ≤ M ∧ ∀ s ∈ A, s.size ≤ M := by
  have h' := of_decide_eq_true h
  refine ⟨h'.1, fun s hs => ?_⟩
  obtain ⟨j, hj⟩ := List.getElem?_of_mem hs
  exact Nat.le_trans (sizesTo_at hj (List.getElem?_eq_some_iff.1 hj).1) h'.2

set_option maxRecDepth 100000 in
set_option maxHeartbeats 4000000 in
theorem short_any (A : List ByteArray) (ao : Option Addr) (c M : Nat) (hM : M ≤ 1000000) (hc : A.length ≤ c) (hlen : A.length ≤ maxLen) (w : World) (h1 : Row w 1 ao (A.map fun p => [.string p])) :
    Calls Tryz.prog 24 #[.slice ao A.length c, .int .i64 M] w fun e w' => e = .returned (.bool (shortL A M)) ∧ w' = w := by
  obtain ⟨n, hn⟩ : ∃ n, n = A.length := ⟨_, rfl⟩
  have HN : Hid (A.length = n) := Lib.hid hn.symm
  have HR : Hid (shortL A M = decide (n ≤ M ∧ sizesTo A n ≤ M)) := Lib.hid (by rw [hn]; rfl)
  rw [← hn] at hc hlen ⊢
  rw [HR.out]
  clear hn HR
  have hml : maxLen ≤ 9223372036854775807 := by decide
  go_enter Tryz.func24, Tryz.ntmps24
  go_wp2_with fail
  go_loopg [5, 6] n (fun u v5 v6 wr => ∃ k : Nat, u = n - k ∧ k ≤ n ∧ k ≤ M + 1 ∧ v5 = .int .i64 (sizesTo A k) ∧ v6 = .int .i64 k ∧ wr = w ∧ Hid (sizesTo A k ≤ k * M))
  case atStart => exact ⟨0, rfl, Nat.zero_le _, Nat.zero_le _, rfl, rfl, rfl, Lib.hid (by simp [sizesTo])⟩
  case round =>
    obtain ⟨k, hq, hk, hkM, rfl, rfl, hwr, hsz⟩ := hrel
    replace hq := hq.symm
    subst hq
    replace hwr := hwr.symm
    subst hwr
    have hb0 : sizesTo A k ≤ 1000001 * 1000000 := Nat.le_trans hsz.out (Nat.mul_le_mul (by omega) hM)
    by_cases hlt : k < n
    · have e1 : (k : Int) < n := by omega
      by_cases hkm : k ≤ M
      · have e2 : (k : Int) ≤ M := by omega
        obtain ⟨s, hp⟩ : ∃ p, A[k]? = some p := ⟨A[k]'(by rw [HN.out]; exact hlt), by simp⟩
        obtain ⟨rb, o, rfl, hat⟩ := h1 (by intro h; simp at h; subst h; simp at hp)
        have t0 := strRow_cell hat hp
        clear hat
        have hpp := Lib.hid hp
        clear hp
        by_cases hsM : s.size ≤ M
        · have e3 : (s.size : Int) ≤ M := by omega
          have g1 : IntKind.i64.wrap ((k : Int) + 1) = (k : Int) + 1 := IntWalk.i64_in _ (by omega)
          have g2 : IntKind.i64.wrap ((sizesTo A k : Int) + s.size) = (sizesTo A k : Int) + s.size := IntWalk.i64_in _ (by omega)
          have f4 : Hid (n - (k + 1) < n - k) := Lib.hid (by omega)
          go_wp2_with fail
          go_roundg (n - (k + 1))
          case measure => exact f4.out
          case rel => exact ⟨k + 1, rfl, by omega, by omega, by rw [sizesTo_succ hpp.out]; push_cast; rfl, rfl, rfl, Lib.hid (by rw [sizesTo_succ hpp.out, Nat.add_mul]; have := hsz.out; omega)⟩
        · have e3 : ¬ (s.size : Int) ≤ M := by omega
          have hno : ¬ sizesTo A n ≤ M := by have := sizesTo_at hpp.out hlt; omega
          have hd : decide (n ≤ M ∧ sizesTo A n ≤ M) = false := decide_eq_false (by omega)
          go_wp2
          go_ret
          exact ⟨rfl, rfl⟩
      · have e2 : ¬ (k : Int) ≤ M := by omega
        have hd : decide (n ≤ M ∧ sizesTo A n ≤ M) = false := decide_eq_false (by omega)
        have e3 : ¬ (n : Int) ≤ M := by omega
        go_wp2
        go_ret
        exact ⟨rfl, rfl⟩
    · obtain rfl : k = n := by omega
      have e1 : ¬ (k : Int) < k := by omega
      by_cases hkm : k ≤ M
      · have e2 : (k : Int) ≤ M := by omega
        by_cases hs : sizesTo A k ≤ M
        · have e3 : (sizesTo A k : Int) ≤ M := by omega
          have hd : decide (k ≤ M ∧ sizesTo A k ≤ M) = true := decide_eq_true ⟨hkm, hs⟩
          go_wp2
          go_ret
          exact ⟨rfl, rfl⟩
        · have e3 : ¬ (sizesTo A k : Int) ≤ M := by omega
          have hd : decide (k ≤ M ∧ sizesTo A k ≤ M) = false := decide_eq_false (fun h => hs h.2)
          go_wp2
          go_ret
          exact ⟨rfl, rfl⟩
      · have e2 : ¬ (k : Int) ≤ M := by omega
        have hd : decide (k ≤ M ∧ sizesTo A k ≤ M) = false := decide_eq_false (fun h => hkm h.1)
        go_wp2
        go_ret
        exact ⟨rfl, rfl⟩

end Go.Proofs.YtfaoamdlknlgpaaGreat
