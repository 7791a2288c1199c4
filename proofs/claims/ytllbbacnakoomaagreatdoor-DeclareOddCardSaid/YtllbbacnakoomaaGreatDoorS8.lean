/- Texts of this seat's proofs, laid into one file. -/
import Derived.Test.YtllbbacnakoomaaGreatDoorS2
import Derived.Test.YtllbbacnakoomaaGreatDoorS3
import Derived.Deep.LoopGhost
import Derived.Lib.ConvBytes
import Derived.Lib.Strings
set_option maxRecDepth 100000
set_option maxHeartbeats 16000000
namespace Go.Proofs.YtllbbacnakoomaaGreatDoor
open Go.RowKit
set_option linter.unusedVariables false
theorem ext_list (s : ByteArray) (a k : Nat) : (s.extract a (a + k)).data.toList = (s.data.toList.drop a).take k := by
 rw [ByteArray.data_extract, Array.toList_extract, List.extract_eq_take_drop]
 congr 1
 omega
theorem cat_list (a b : ByteArray) : (a ++ b).data.toList = a.data.toList ++ b.data.toList := by simp
theorem sz_list (a : ByteArray) : a.data.toList.length = a.size := Array.length_toList
def prefs : List (List UInt8) := [[], [76], [117], [85], [117,56]]
theorem chAt_cons0 (c : UInt8) (r : List UInt8) : chAt (c :: r) 0 = c := rfl
theorem chAt_consS (c : UInt8) (r : List UInt8) (i : Nat) : chAt (c :: r) (i + 1) = chAt r i := rfl
theorem chAt_app {p r : List UInt8} {i : Nat} : chAt (p ++ r) (p.length + i) = chAt r i := by
 unfold chAt
 rw [List.getD_eq_getElem?_getD, List.getD_eq_getElem?_getD, List.getElem?_append_right (by omega)]
 congr 2
 omega
theorem Eb5 : EI Tryz.prog 115 5 (.int .u8 0) 1 1 := ⟨Tryz.underlying115, by kernel_rfl, rfl, by decide⟩
def byC (l : List UInt8) : List (List Value) := l.map fun c => [.int .u8 c.toNat]
theorem byC_len (l : List UInt8) : (byC l).length = l.length := List.length_map _
theorem byC_snoc (l : List UInt8) (c : UInt8) : byC (l ++ [c]) = byC l ++ [[.int .u8 c.toNat]] := by unfold byC; rw [List.map_append]; rfl
def quoteL (s : List UInt8) : List UInt8 := 34 :: (escL s ++ [34])
theorem escL_size {s : ByteArray} (hs : s.size ≤ 1000000) : (escL s.data.toList).length ≤ 2000000 := by
 have h1 := escL_len s.data.toList
 have h2 := escN_le s.data.toList
 have h3 : s.data.toList.length = s.size := Array.length_toList
 omega
theorem escC_cases (c : UInt8) : (c = 34 ∧ escC c = [92,34]) ∨ (c ≠ 34 ∧ c = 92 ∧ escC c = [92,92]) ∨ (c ≠ 34 ∧ c ≠ 92 ∧ escC c = [c]) := by
 unfold escC escB
 by_cases h1 : c = 34
 ·subst h1; exact .inl ⟨rfl, rfl⟩
 ·by_cases h2 : c = 92
  ·subst h2; exact .inr (.inl ⟨by decide, rfl, rfl⟩)
  ·exact .inr (.inr ⟨h1, h2, by simp [h1, h2]⟩)
theorem u8_int {c : UInt8} {n : Nat} (hn : n < 256) (h : c ≠ UInt8.ofNat n) : ¬ (c.toNat : Int) = n ∧ ((c.toNat : Int) == n) = false := by
 have : ¬ (c.toNat : Int) = n := by
  intro e
  apply h
  apply UInt8.toNat_inj.1
  simp
  omega
 exact ⟨this, beq_false_of_ne this⟩
theorem rQuotedW_any (s : ByteArray) (hs : s.size ≤ 100000000) (w : World) :
 Calls Tryz.prog 98 #[.string s] w fun e w' => e = .returned (.string ⟨(quoteL s.data.toList).toArray⟩) ∧ Below w.heap.size w w' := by
 have hsl : s.data.toList.length = s.size := Array.length_toList
 replace hsl := Hd hsl
 have ho0 : Hid (Own (w.alloc (.cells #[.int .u8 34] 5)) w.heap.size 5 1 (.slice (some ⟨w.heap.size, 0, none⟩) 1 1) (byC (34 :: escL (s.data.toList.take 0)))) := Hd ⟨World.ownsRow_lit w #[.int .u8 34] 1 (Nat.le_refl _) (by decide) rfl, by simp [byC]⟩
 have hb0 : Hid (Below w.heap.size w (w.alloc (.cells #[.int .u8 34] 5))) := Hd ((Below.refl _ w).alloc (Nat.le_refl _) _)
 go_enter Tryz.func98, Tryz.ntmps98
 go_wp2_with fail
 go_loopg [3,4] s.size (fun q v3 v4 wx => ∃ i : Nat, q = s.size - i ∧ i ≤ s.size ∧ v4 = .int .i64 i ∧ Hid (Own wx w.heap.size 5 1 v3 (byC (34 :: escL (s.data.toList.take i)))) ∧ Hid (Below w.heap.size w wx))
 case atStart => exact ⟨0, rfl, Nat.zero_le _, rfl, ho0, hb0⟩
 case round =>
  clear ho0 hb0
  obtain ⟨i, hq, hi, rfl, ho, hb⟩ := hrel
  replace hq := hq.symm
  subst hq
  have hsB := hb.out.size
  have hlen : Hid ((byC (34 :: escL (s.data.toList.take i))).length + 3 ≤ 1000000000) := Hd (by
   rw [byC_len, List.length_cons, escL_len]
   have := escN_le (s.data.toList.take i)
   have h2 : (s.data.toList.take i).length ≤ s.size := by rw [List.length_take, hsl.out]; omega
   omega)
  by_cases hin : i < s.size
  ·have hin' : (i : Int) < s.size := by omega
   have f4 : Hid (s.size - (i + 1) < s.size - i) := Hd (by omega)
   have g1 : IntKind.i64.wrap ((i : Int) + 1) = (i : Int) + 1 := IntWalk.i64_in _ (by omega)
   obtain ⟨c, hc⟩ : ∃ c, s.data.toList[i]? = some c := ⟨_, List.getElem?_eq_getElem (by rw [hsl.out]; exact hin)⟩
   have hci : (s[i]'hin) = c := by
    rw [List.getElem?_eq_some_iff] at hc
    obtain ⟨h1, h2⟩ := hc
    rw [← h2]; simp [ByteArray.getElem_eq_getElem_data]
   have hst := escL_take hc
   rcases escC_cases c with ⟨rfl, he⟩ | ⟨hn, rfl, he⟩ | ⟨hn, hn2, he⟩
   ·have hn34 : ((UInt8.toNat 34 : Nat) : Int) = 34 := rfl
    rw [he] at hst
    replace hst := Hd hst
    go_wp2_with (at_builtin; first
     | (refine wpList_append1 Eb5 rfl rfl ho.out rfl rfl (news := [.int .u8 92]) (by simp) rfl (by simp [Value.oneCell']) (by have := hlen.out; omega) (by decide) hsB ?_; intro v5 w5 hown5 hg5; have hb5 := bapp hb.out ho.out hg5 hsB; have hs5 := hb5.size)
     | (refine wpList_append1 Eb5 rfl rfl hown5 rfl rfl (news := [.int .u8 34]) (by simp) rfl (by simp [Value.oneCell']) (by rw [List.length_append]; have := hlen.out; simp; omega) (by decide) hs5 ?_; intro v6 w6 hown6 hg6; have hb6 := bapp hb5 hown5 hg6 hs5))
    go_roundg (s.size - (i + 1))
    case measure => exact f4.out
    case rel => exact ⟨i + 1, rfl, by omega, by simp, Hd (by rw [hst.out, ← List.cons_append]; simpa [byC] using hown6), Hd hb6⟩
   ·have hn92 : ((UInt8.toNat 92 : Nat) : Int) = 92 := rfl
    rw [he] at hst
    replace hst := Hd hst
    go_wp2_with (at_builtin; first
     | (refine wpList_append1 Eb5 rfl rfl ho.out rfl rfl (news := [.int .u8 92]) (by simp) rfl (by simp [Value.oneCell']) (by have := hlen.out; omega) (by decide) hsB ?_; intro v5 w5 hown5 hg5; have hb5 := bapp hb.out ho.out hg5 hsB; have hs5 := hb5.size)
     | (refine wpList_append1 Eb5 rfl rfl hown5 rfl rfl (news := [.int .u8 92]) (by simp) rfl (by simp [Value.oneCell']) (by rw [List.length_append]; have := hlen.out; simp; omega) (by decide) hs5 ?_; intro v6 w6 hown6 hg6; have hb6 := bapp hb5 hown5 hg6 hs5))
    go_roundg (s.size - (i + 1))
    case measure => exact f4.out
    case rel => exact ⟨i + 1, rfl, by omega, by simp, Hd (by rw [hst.out, ← List.cons_append]; simpa [byC] using hown6), Hd hb6⟩
   ·obtain ⟨n1, n2⟩ := u8_int (n := 34) (by decide) hn
    obtain ⟨n3, n4⟩ := u8_int (n := 92) (by decide) hn2
    rw [he] at hst
    replace hst := Hd hst
    go_wp2_with (at_builtin; first
     | (refine wpList_append1 Eb5 rfl rfl ho.out rfl rfl (news := [.int .u8 c.toNat]) (by simp) rfl (by simp [Value.oneCell']) (by have := hlen.out; omega) (by decide) hsB ?_; intro v5 w5 hown5 hg5; have hb5 := bapp hb.out ho.out hg5 hsB))
    go_roundg (s.size - (i + 1))
    case measure => exact f4.out
    case rel => exact ⟨i + 1, rfl, by omega, by simp, Hd (by rw [hst.out, ← List.cons_append]; simpa [byC] using hown5), Hd hb5⟩
  ·obtain rfl : i = s.size := by omega
   have hin' : ¬ (s.size : Int) < (s.size : Int) := by omega
   have ht : s.data.toList.take s.size = s.data.toList := List.take_of_length_le (by rw [hsl.out]; exact Nat.le_refl _)
   rw [ht] at ho hlen
   go_wp2_with (at_builtin; first
    | (refine wpList_append1 Eb5 rfl rfl ho.out rfl rfl (news := [.int .u8 34]) (by simp) rfl (by simp [Value.oneCell']) (by have := hlen.out; omega) (by decide) hsB ?_; intro v5 w5 hown5 hg5; have hb5 := Hd (bapp hb.out ho.out hg5 hsB); have hcv := run_str_own (P := Tryz.prog) (l := quoteL s.data.toList) (by simpa [byC, quoteL] using hown5) 115 9 Tryz.underlying115 Tryz.underlying5 Tryz.underlying9))
   go_ret
   exact ⟨rfl, hb5.out⟩
theorem rQuoted_any (s : ByteArray) (hs : s.size ≤ 1000000) (w : World) :
 Calls Tryz.prog 98 #[.string s] w fun e w' => e = .returned (.string ⟨(quoteL s.data.toList).toArray⟩) ∧ Below w.heap.size w w' := rQuotedW_any s (by omega) w
def prefsB : List ByteArray := [⟨#[]⟩, ⟨#[76]⟩, ⟨#[117]⟩, ⟨#[85]⟩, ⟨#[117,56]⟩]
theorem byte_chAt {s : ByteArray} {i : Nat} (h : i < s.size) : (s[i]'h) = chAt s.data.toList i := by
 unfold chAt
 rw [List.getD_eq_getElem?_getD, List.getElem?_eq_getElem (by rw [sz_list]; exact h)]
 simp [ByteArray.getElem_eq_getElem_data]
theorem beq_list {a b : ByteArray} : (a.toList == b.toList) = (a.data.toList == b.data.toList) := by rw [Lib.toList_data, Lib.toList_data]
end Go.Proofs.YtllbbacnakoomaaGreatDoor
