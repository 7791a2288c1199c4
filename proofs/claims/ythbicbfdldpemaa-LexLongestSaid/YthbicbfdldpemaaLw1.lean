/- lex's small functions: letter, digit, white, peek. -/
import Derived.Test.YthbicbfdldpemaaLx7
import Derived.Test.YthbicbfdldpemaaBase2
namespace Go.Proofs.Ythbicbfdldpemaa
open Go.RowKit
set_option linter.unusedVariables false

theorem whiteB_int2 (c : UInt8) : whiteB c = decide ((c.toNat : Int) = 32 ∨ (9 : Int) ≤ c.toNat ∧ (c.toNat : Int) ≤ 13 ∧ ¬ (c.toNat : Int) = 10) := by
  rw [whiteB_int]
  congr 1
  apply propext
  omega

set_option maxRecDepth 100000 in
theorem pletter_any (c : UInt8) (w : World) : Calls Try.prog 99 #[.int .u8 c.toNat] w fun e w' => e = .returned (.bool (letterB c)) ∧ w' = w := by
  rw [letterB_int]
  go_enter Try.func99, Try.ntmps99
  go_wp2
  all_goals
    go_ret
    refine ⟨?_, rfl⟩
    refine congrArg (fun b => Ending.returned (Value.bool b)) ?_
    rw [Bool.eq_iff_iff] <;> first
      | (simp; done)
      | (simp; omega)
set_option maxRecDepth 100000 in
theorem pdigit_any (c : UInt8) (w : World) : Calls Try.prog 101 #[.int .u8 c.toNat] w fun e w' => e = .returned (.bool (digitB c)) ∧ w' = w := by
  rw [digitB_int]
  go_enter Try.func101, Try.ntmps101
  go_wp2
  all_goals
    go_ret
    refine ⟨?_, rfl⟩
    refine congrArg (fun b => Ending.returned (Value.bool b)) ?_
    rw [Bool.eq_iff_iff] <;> first
      | (simp; done)
      | (simp; omega)
set_option maxRecDepth 100000 in
theorem pwhite_any (c : UInt8) (w : World) : Calls Try.prog 84 #[.int .u8 c.toNat] w fun e w' => e = .returned (.bool (whiteB c)) ∧ w' = w := by
  rw [whiteB_int2]
  go_enter Try.func84, Try.ntmps84
  go_wp2
  all_goals
    go_ret
    refine ⟨?_, rfl⟩
    refine congrArg (fun b => Ending.returned (Value.bool b)) ?_
    rw [Bool.eq_iff_iff] <;> first
      | (simp; done)
      | (simp; omega)

/-- the characters that are gone through, and the place: what is read -/
structure WkAt (w : World) (b : Nat) (R : List Rn) (lo : Option Addr) (cap at_ : Nat) : Prop where
  l : w.cell? ⟨b, 1, none⟩ = some (.slice lo R.length cap)
  here : w.cell? ⟨b, 2, none⟩ = some (.int .i64 at_)
  row : Row w 3 lo (R.map Rn.v)
  lcap : R.length ≤ cap
  len : R.length ≤ 2000000
  atl : at_ ≤ 4000000

set_option maxRecDepth 100000 in
theorem peek_any (b : Nat) (R : List Rn) (lo : Option Addr) (cap at_ k : Nat) (hk : k ≤ 4000000) (w : World) (h : WkAt w b R lo cap at_) :
    Calls Try.prog 100 #[.pointer (some ⟨b, 0, none⟩), .int .i64 k] w fun e w' => e = .returned (.int .u8 (chAt (cs R) (at_ + k)).toNat) ∧ ∃ q, w' = w.drewN q := by
  obtain ⟨c1, c2, hrow, hlc, hlen, hat⟩ := h
  have q1 : IntKind.i64.wrap ((at_ : Int) + k) = (at_ : Int) + k := IntWalk.i64_in _ (by omega)
  by_cases hi : at_ + k < R.length
  · obtain ⟨r, hr⟩ : ∃ r, R[at_ + k]? = some r := ⟨R[at_ + k], by simp [hi]⟩
    rw [cs_at hr]
    obtain ⟨g, o, rfl, ha⟩ := hrow (by intro h; simp at h; subst h; simp at hr)
    have c0 := ha.cell (i := at_ + k) (cs := r.v) (by simp [hr]) (j := 0) (u := .int .u8 r.c.toNat) rfl
    simp only [Nat.add_zero] at c0
    obtain ⟨n, hn⟩ : ∃ n, n = R.length := ⟨_, rfl⟩
    rw [← hn] at c1 hi hlc
    have e1 : (at_ : Int) + k < n := by omega
    have e4 : ¬ (n : Int) ≤ (at_ : Int) + k := by omega
    have e2 : (0 : Int) ≤ (at_ : Int) + k := by omega
    have e3 : ((at_ : Int) + k).toNat = at_ + k := by omega
    clear hr ha hrow hn
    go_enter Try.func100, Try.ntmps100
    go_wp2_with fail
    go_region
    go_wp2_with fail
    go_region
    all_goals
      go_wp2
      go_ret
      exact ⟨rfl, 2, rfl⟩
  · rw [chAt_ge (by rw [cs_len]; omega)]
    obtain ⟨n, hn⟩ : ∃ n, n = R.length := ⟨_, rfl⟩
    rw [← hn] at c1 hi
    have e1 : ¬ (at_ : Int) + k < n := by omega
    have e2 : (n : Int) ≤ (at_ : Int) + k := by omega
    clear hrow hn
    go_enter Try.func100, Try.ntmps100
    go_wp2_with fail
    go_region
    all_goals
      go_wp2
      go_ret
      exact ⟨rfl, 1, rfl⟩
end Go.Proofs.Ythbicbfdldpemaa
