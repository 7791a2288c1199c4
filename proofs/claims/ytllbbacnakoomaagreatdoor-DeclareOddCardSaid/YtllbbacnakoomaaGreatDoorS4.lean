/- Texts of this seat's proofs, laid into one file. -/
import Derived.Test.YtllbbacnakoomaaGreatDoorS1
import Derived.Test.YtllbbacnakoomaaGreatDoorS3
import Derived.Test.YtllbbacnakoomaaGreatDoorShelf
set_option maxRecDepth 100000
set_option maxHeartbeats 16000000
namespace Go.Proofs.YtllbbacnakoomaaGreatDoor
open Go.RowKit
def froms : List UInt8 := [61,47,39,40,41,33,60,62,45]
def tos : List UInt8 := [35,92,94,91,93,124,123,125,126]
theorem all_u8 (p : UInt8 → Bool) (h : (List.range 256).all (fun n => p n.toUInt8) = true) (c : UInt8) : p c = true := by
 have := List.all_eq_true.1 h c.toNat (by simpa using c.toNat_lt)
 simpa using this
theorem ix_cases (c : UInt8) : (tri c = none ∧ Lib.indexByte froms c = -1) ∨ ∃ k : Nat, k < 9 ∧ Lib.indexByte froms c = (k : Int) ∧ tri c = tos[k]? := by
 have := all_u8 (fun c => (tri c = none && Lib.indexByte froms c = -1) || (List.range 9).any (fun k => Lib.indexByte froms c = (k : Int) && tri c = tos[k]?)) (by decide +kernel) c
 simpa using this
theorem tri_hit : ∀ (k : Nat) (hk : k < 9) (c : UInt8), froms[k]'hk = c → tri c = some (tos[k]'hk) := by
 intro k hk c hc
 subst hc
 revert k; decide +kernel
theorem tri_miss (c : UInt8) (h : ∀ k (hk : k < 9), froms[k]'hk ≠ c) : tri c = none := by
 have := all_u8 (fun c => tri c = none || (List.range 9).any (fun k => froms[k]? = some c)) (by decide +kernel) c
 simp only [Bool.or_eq_true, decide_eq_true_eq, List.any_eq_true, List.mem_range] at this
 rcases this with h1 | ⟨k, hk, h1⟩
 ·exact h1
 ·rw [List.getElem?_eq_getElem (show k < froms.length from hk)] at h1
  exact (h k hk (Option.some.inj h1)).elim
theorem u8_eq {a b : UInt8} (h : ((a.toNat : Int) == (b.toNat : Int)) = true) : a = b := by
 have := of_decide_eq_true h
 exact UInt8.toNat_inj.1 (by omega)
theorem u8_ne {a b : UInt8} (h : ((a.toNat : Int) == (b.toNat : Int)) = false) : a ≠ b := by
 intro e
 subst e
 simp at h
theorem rtri_any (c : UInt8) (w : World) :
 Calls Tryz.prog 183 #[.int .u8 c.toNat] w fun e w' => e = .returned (.tuple #[.int .u8 ((tri c).getD 0).toNat, .bool (tri c).isSome]) ∧ w = w' := by
 go_enter Tryz.func183, Tryz.ntmps183
 go_wp2
 go_loop [4] (fun i => ∃ k : Nat, k ≤ 9 ∧ i = .int .i64 k ∧ ∀ j (hj : j < 9), j < k → froms[j]'hj ≠ c) (fun i => 9 - (intOf i).toNat)
 case atStart => exact ⟨0, Nat.zero_le _, rfl, by omega⟩
 case round =>
  obtain ⟨k, hk, rfl, hno⟩ := hrel
  by_cases hlt : k < 9
  ·have H := Hd hno; clear hno
   go_wp2
   ·go_ret2
    have e : tri c = some (tos[k]'hlt) := tri_hit k hlt c (u8_eq (by assumption))
    exact ⟨by rw [e]; rfl, rfl⟩
   ·have hne := u8_ne (a := froms[k]'hlt) (b := c) (by assumption)
    go_round
    case rel =>
     refine ⟨k + 1, by omega, by go_num, fun j hj hjk => ?_⟩
     by_cases e : j = k
     ·subst e; exact hne
     ·exact H.out j hj (by omega)
    case measure => simp [intOf]; omega
  ·have H := Hd hno; clear hno
   go_wp2
   go_ret2
   have e : tri c = none := tri_miss c fun j hj => H.out j hj (by omega)
   exact ⟨by rw [e]; rfl, rfl⟩
def Rn.v (r : Rn) : List Value := [.int .u8 r.c.toNat, .int .i64 r.f, .int .i64 r.t]
theorem ba_at (s : ByteArray) (k : Nat) (hk : k < s.size) : s.data.toList[k]? = some (s[k]'hk) := by
 have h : k < s.data.toList.length := by rw [← Lib.size_eq]; exact hk
 rw [List.getElem?_eq_getElem h]; rfl
theorem oneAt_no {s : ByteArray} {k : Nat} (hk : k < s.size) (h : hp2 (s.data.toList.drop k) = false) : oneAt s.data.toList k = ⟨s[k]'hk, k, k + 1⟩ := by
 unfold oneAt
 rw [h, List.getD_eq_getElem?_getD, ba_at s k hk]; rfl
theorem hp2_iff (l : List UInt8) : hp2 l = true ↔ l[0]? = some 63 ∧ l[1]? = some 63 := by
 match l with
 | [] => simp [hp2]
 | [a] => simp [hp2, List.isPrefixOf]
 | a :: b :: r => simp [hp2, List.isPrefixOf]; constructor <;> rintro ⟨h1, h2⟩ <;> exact ⟨h1.symm, h2.symm⟩
theorem oneAt_hit {s : ByteArray} {k : Nat} (hk : k + 2 < s.size) (h : hp2 (s.data.toList.drop k) = true) (ht : (tri (s[k + 2]'hk)).isSome = true) : oneAt s.data.toList k = ⟨(tri (s[k + 2]'hk)).getD 0, k, k + 3⟩ := by
 obtain ⟨d, hd⟩ := Option.isSome_iff_exists.1 ht
 unfold oneAt
 rw [h, ba_at s _ hk, hd]
 simp [hd]
theorem oneAt_q {s : ByteArray} {k : Nat} (hk : k < s.size) (h : hp2 (s.data.toList.drop k) = true) : s[k]'hk = 63 := by
 have := ((hp2_iff _).1 h).1
 rw [List.getElem?_drop, Nat.add_zero, ba_at s k hk] at this
 exact Option.some.inj this
theorem oneAt_miss {s : ByteArray} {k : Nat} (hk : k + 2 < s.size) (h : hp2 (s.data.toList.drop k) = true) (ht : (tri (s[k + 2]'hk)).isSome = false) : oneAt s.data.toList k = ⟨s[k]'(by omega), k, k + 1⟩ := by
 rw [oneAt_q (by omega) h]
 unfold oneAt
 rw [h, ba_at s _ hk]
 have : tri (s[k + 2]'hk) = none := by simpa using ht
 simp [this]
theorem oneAt_end {s : ByteArray} {k : Nat} (hk : k < s.size) (hk2 : ¬ k + 2 < s.size) (h : hp2 (s.data.toList.drop k) = true) : oneAt s.data.toList k = ⟨s[k]'hk, k, k + 1⟩ := by
 rw [oneAt_q hk h]
 unfold oneAt
 rw [h, List.getElem?_eq_none (by rw [← Lib.size_eq]; omega)]
 rfl
end Go.Proofs.YtllbbacnakoomaaGreatDoor
