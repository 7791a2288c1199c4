/- Texts of this seat's proofs, laid into one file. -/
import Derived.Test.YtllbbacnakoomaaGreatDoorS2
import Derived.Test.YtllbbacnakoomaaGreatDoorS7
import Derived.Test.YtllbbacnakoomaaGreatDoorS8
import Derived.Test.YtllbbacnakoomaaGreatDoorS5
import Derived.Deep.LoopGhost
set_option maxRecDepth 100000
set_option maxHeartbeats 16000000
namespace Go.Proofs.YtllbbacnakoomaaGreatDoor
set_option linter.unusedVariables false
def valC (c : UInt8) : Nat := if 48 ≤ c ∧ c ≤ 57 then c.toNat - 48 else if 97 ≤ c ∧ c ≤ 102 then c.toNat - 97 + 10 else if 65 ≤ c ∧ c ≤ 70 then c.toNat - 65 + 10 else 99
def digL (base : Nat) (l : List UInt8) : Nat := (l.takeWhile fun c => decide (valC c < base)).length
def lowS : Option UInt8 → List UInt8 → Option (List UInt8)
 | _, [] => some []
 | p, c :: r => if c = 85 then (lowS (some c) r).map (117 :: ·) else if c = 76 then (if r.head? = some 108 ∨ p = some 108 then none else (lowS (some c) r).map (108 :: ·)) else (lowS (some c) r).map (c :: ·)
def sufRows : List (List UInt8) := [[], [117], [108], [117,108], [108,117], [108,108], [117,108,108], [108,108,117]]
def sufB (s : List UInt8) : Bool := match lowS none s with | some t => sufRows.contains t | none => false
def accL (base : Nat) : Nat → List UInt8 → Option Nat
 | u, [] => some u
 | u, c :: r => if (18446744073709551615 - valC c) / base < u then none else accL base (u * base + valC c) r
def baseL (s : List UInt8) : Nat × Nat := if chAt s 0 = 48 ∧ s ≠ [] then (if 1 < s.length ∧ (chAt s 1 = 120 ∨ chAt s 1 = 88) then (16,2) else (8,0)) else (10,0)
def numberB (s : List UInt8) : Bool :=
 let n := digL (baseL s).1 (s.drop (baseL s).2)
 decide (n ≠ 0) && (accL (baseL s).1 0 ((s.drop (baseL s).2).take n)).isSome && sufB (s.drop ((baseL s).2 + n))
def expoL (s : List UInt8) (i : Nat) : Option Nat :=
 let j := if i < s.length ∧ (chAt s i = 43 ∨ chAt s i = 45) then i + 1 else i
 if 0 < digL 10 (s.drop j) then some (j + digL 10 (s.drop j)) else none
def floatB (s : List UInt8) : Bool :=
 let b := if 1 < s.length ∧ chAt s 0 = 48 ∧ (chAt s 1 = 120 ∨ chAt s 1 = 88) then (16,2) else (10,0)
 let n := digL b.1 (s.drop b.2)
 let dot := decide (b.2 + n < s.length) && decide (chAt s (b.2 + n) = 46)
 let m := if dot then digL b.1 (s.drop (b.2 + n + 1)) else 0
 let i := if dot then b.2 + n + 1 + m else b.2 + n
 let has := decide (i < s.length) && (decide (b.1 = 10) && (decide (chAt s i = 101) || decide (chAt s i = 69)) || decide (b.1 = 16) && (decide (chAt s i = 112) || decide (chAt s i = 80)))
 if n + m = 0 then false
 else if has then match expoL s (i + 1) with | none => false | some j => decide (j = s.length) || decide (j + 1 = s.length) && (decide (chAt s j = 102) || decide (chAt s j = 70) || decide (chAt s j = 108) || decide (chAt s j = 76))
 else if b.1 = 16 ∨ dot = false then false
 else decide (i = s.length) || decide (i + 1 = s.length) && (decide (chAt s i = 102) || decide (chAt s i = 70) || decide (chAt s i = 108) || decide (chAt s i = 76))
def escFrom : List UInt8 := [39,34,63,92,97,98,102,110,114,116,118]
def escTo : List UInt8 := [39,34,63,92,7,8,12,10,13,9,11]
def escNum (base : Nat) (l : List UInt8) : Nat := l.foldl (fun v c => (v * base + valC c) % 256) 0
def escV (s : List UInt8) : UInt8 × Nat :=
 match s with
 | [] => (0,0)
 | c :: r => match (escFrom.zip escTo).find? (fun p => p.1 = c) with
   | some p => (p.2,1)
   | none =>
     if c = 120 then (if digL 16 r = 0 then (0,0) else (UInt8.ofNat (escNum 16 (r.take (digL 16 r))), 1 + digL 16 r))
     else if min (digL 8 s) 3 = 0 then (0,0) else (UInt8.ofNat (escNum 8 (s.take (min (digL 8 s) 3))), min (digL 8 s) 3)
def aheadQ (q : UInt8) (A : List UInt8) : Option Nat := (prefs.find? fun p => decide (p.length + 2 ≤ A.length) && (A.take p.length == p) && decide (chAt A p.length = q) && decide (chAt A (A.length - 1) = q)).map List.length
def lettersQ (A : List UInt8) : Option (Nat × UInt8) := match aheadQ 39 A with | some n => some (n, 39) | none => (aheadQ 34 A).map fun n => (n, 34)
def bytesIn (q : UInt8) : Nat → List UInt8 → Option (List UInt8)
 | _, [] => some []
 | 0, _ => none
 | k + 1, c :: r => if c = q then none else if c = 92 then (if (escV r).2 = 0 then none else (bytesIn q k (r.drop (escV r).2)).map ((escV r).1 :: ·)) else (bytesIn q k r).map (c :: ·)
def bytesV (A : List UInt8) : Option (List UInt8) := (lettersQ A).bind fun p => bytesIn p.2 (A.length + 1) ((A.drop (p.1 + 1)).take (A.length - 1 - (p.1 + 1)))
def charB (A : List UInt8) : Bool := match lettersQ A, bytesV A with
 | some p, some b => decide (p.2 = 39) && !(A.take p.1 == [117,56]) && decide (1 ≤ b.length) && decide (b.length ≤ 8)
 | _, _ => false
def keysL : List ByteArray := [(⟨#[97,117,116,111]⟩ : ByteArray), (⟨#[98,114,101,97,107]⟩ : ByteArray), (⟨#[99,97,115,101]⟩ : ByteArray), (⟨#[99,104,97,114]⟩ : ByteArray), (⟨#[99,111,110,115,116]⟩ : ByteArray), (⟨#[99,111,110,116,105,110,117,101]⟩ : ByteArray), (⟨#[100,101,102,97,117,108,116]⟩ : ByteArray), (⟨#[100,111]⟩ : ByteArray), (⟨#[100,111,117,98,108,101]⟩ : ByteArray), (⟨#[101,108,115,101]⟩ : ByteArray), (⟨#[101,110,117,109]⟩ : ByteArray), (⟨#[101,120,116,101,114,110]⟩ : ByteArray), (⟨#[102,108,111,97,116]⟩ : ByteArray), (⟨#[102,111,114]⟩ : ByteArray), (⟨#[103,111,116,111]⟩ : ByteArray), (⟨#[105,102]⟩ : ByteArray), (⟨#[105,110,108,105,110,101]⟩ : ByteArray), (⟨#[105,110,116]⟩ : ByteArray), (⟨#[108,111,110,103]⟩ : ByteArray), (⟨#[114,101,103,105,115,116,101,114]⟩ : ByteArray), (⟨#[114,101,115,116,114,105,99,116]⟩ : ByteArray), (⟨#[114,101,116,117,114,110]⟩ : ByteArray), (⟨#[115,104,111,114,116]⟩ : ByteArray), (⟨#[115,105,103,110,101,100]⟩ : ByteArray), (⟨#[115,105,122,101,111,102]⟩ : ByteArray), (⟨#[115,116,97,116,105,99]⟩ : ByteArray), (⟨#[115,116,114,117,99,116]⟩ : ByteArray), (⟨#[115,119,105,116,99,104]⟩ : ByteArray), (⟨#[116,121,112,101,100,101,102]⟩ : ByteArray), (⟨#[117,110,105,111,110]⟩ : ByteArray), (⟨#[117,110,115,105,103,110,101,100]⟩ : ByteArray), (⟨#[118,111,105,100]⟩ : ByteArray), (⟨#[118,111,108,97,116,105,108,101]⟩ : ByteArray), (⟨#[119,104,105,108,101]⟩ : ByteArray), (⟨#[95,65,108,105,103,110,97,115]⟩ : ByteArray), (⟨#[95,65,108,105,103,110,111,102]⟩ : ByteArray), (⟨#[95,65,116,111,109,105,99]⟩ : ByteArray), (⟨#[95,66,111,111,108]⟩ : ByteArray), (⟨#[95,67,111,109,112,108,101,120]⟩ : ByteArray), (⟨#[95,71,101,110,101,114,105,99]⟩ : ByteArray), (⟨#[95,73,109,97,103,105,110,97,114,121]⟩ : ByteArray), (⟨#[95,78,111,114,101,116,117,114,110]⟩ : ByteArray), (⟨#[95,83,116,97,116,105,99,95,97,115,115,101,114,116]⟩ : ByteArray), (⟨#[95,84,104,114,101,97,100,95,108,111,99,97,108]⟩ : ByteArray)]
def isKey (x : ByteArray) : Bool := keysL.any fun k => decide (k = x)
def usualP (x : ByteArray) : ByteArray × Bool :=
 if x = (⟨#[35]⟩ : ByteArray) ∨ x = (⟨#[35,35]⟩ : ByteArray) ∨ x = (⟨#[37,58]⟩ : ByteArray) ∨ x = (⟨#[37,58,37,58]⟩ : ByteArray) then (x, false)
 else if x = (⟨#[60,58]⟩ : ByteArray) then ((⟨#[91]⟩ : ByteArray), true) else if x = (⟨#[58,62]⟩ : ByteArray) then ((⟨#[93]⟩ : ByteArray), true) else if x = (⟨#[60,37]⟩ : ByteArray) then ((⟨#[123]⟩ : ByteArray), true) else if x = (⟨#[37,62]⟩ : ByteArray) then ((⟨#[125]⟩ : ByteArray), true) else (x, true)
def preQ (A : List UInt8) : List UInt8 := if A.any (fun c => decide (c = 34 ∨ c = 39)) then A.takeWhile (fun c => !decide (c = 34 ∨ c = 39)) else []
structure CatS where
 (let_ : List UInt8) (s : List UInt8) (n : Nat) (last : Nat)
def catL : List Tm → Nat → CatS → CatS
 | [], _, c => c
 | x :: r, k, c =>
   if x.kind = 7 then catL r (k + 1) c
   else match bytesV x.text.data.toList with
    | none => c
    | some b => if x.kind ≠ 4 then c else catL r (k + 1) ⟨if c.let_ = [] then preQ x.text.data.toList else c.let_, c.s ++ b, c.n + 1, k⟩
def oneT (x : Tm) (i : Nat) (kind : Int) (text : ByteArray) (n : Nat) : Ct := ⟨kind, text, x.file, x.f, x.t, i, n⟩
def kindT (x : Tm) : Int :=
 if x.kind = 1 then (if isKey x.text then 2 else 1)
 else if x.kind = 2 then (if numberB x.text.data.toList then 3 else if floatB x.text.data.toList then 4 else 0)
 else if x.kind = 3 then (if charB x.text.data.toList then 5 else 0)
 else if x.kind = 5 then (if (usualP x.text).2 then 7 else 0)
 else 0
def allGo (l : List Tm) : Nat → Nat → List Ct
 | 0, _ => []
 | k + 1, i => match l[i]? with
   | none => []
   | some x =>
     if x.kind = 7 then allGo l k (i + 1)
     else if x.kind = 4 then match bytesV x.text.data.toList with
      | none => allGo l k (i + 1)
      | some b => let c := catL (l.drop (i + 1)) (i + 1) ⟨preQ x.text.data.toList, b, 1, i⟩
        oneT x i 6 (bs (c.let_ ++ quoteL c.s)) c.n :: allGo l k (c.last + 1)
     else if kindT x = 0 then allGo l k (i + 1)
     else oneT x i (kindT x) (if x.kind = 5 then (usualP x.text).1 else x.text) 1 :: allGo l k (i + 1)
def allL (l : List Tm) : List Ct := allGo l (l.length + 1) 0 ++ [⟨8, ⟨#[]⟩, ⟨#[]⟩, 0,0, l.length, 0⟩]
def flatL (s : List UInt8) : List Tm := (linesL s).1.flatMap fun l => l.toks.map (Tk.tm (bs [102]))
def toksU (s : List UInt8) : List Ct := allL (flatL s)
end Go.Proofs.YtllbbacnakoomaaGreatDoor
namespace Go.Proofs.YtllbbacnakoomaaGreatDoor
open Go.RowKit
set_option linter.unusedVariables false
theorem valC_d {c : UInt8} (h1 : 48 ≤ c.toNat) (h2 : c.toNat ≤ 57) : valC c = c.toNat - 48 := by
 unfold valC
 rw [if_pos ⟨UInt8.le_iff_toNat_le.2 h1, UInt8.le_iff_toNat_le.2 h2⟩]
theorem valC_a {c : UInt8} (h1 : 97 ≤ c.toNat) (h2 : c.toNat ≤ 102) : valC c = c.toNat - 87 := by
 unfold valC
 rw [if_neg (by simp only [UInt8.le_iff_toNat_le]; simp; omega), if_pos ⟨UInt8.le_iff_toNat_le.2 h1, UInt8.le_iff_toNat_le.2 h2⟩]
 omega
theorem valC_A {c : UInt8} (h1 : 65 ≤ c.toNat) (h2 : c.toNat ≤ 70) : valC c = c.toNat - 55 := by
 unfold valC
 rw [if_neg (by simp only [UInt8.le_iff_toNat_le]; simp; omega), if_neg (by simp only [UInt8.le_iff_toNat_le]; simp; omega), if_pos ⟨UInt8.le_iff_toNat_le.2 h1, UInt8.le_iff_toNat_le.2 h2⟩]
 omega
theorem valC_n {c : UInt8} (h1 : ¬ (48 ≤ c.toNat ∧ c.toNat ≤ 57)) (h2 : ¬ (97 ≤ c.toNat ∧ c.toNat ≤ 102)) (h3 : ¬ (65 ≤ c.toNat ∧ c.toNat ≤ 70)) : valC c = 99 := by
 unfold valC
 rw [if_neg (by simp only [UInt8.le_iff_toNat_le]; exact h1), if_neg (by simp only [UInt8.le_iff_toNat_le]; exact h2), if_neg (by simp only [UInt8.le_iff_toNat_le]; exact h3)]
theorem valC_le (c : UInt8) : valC c ≤ 99 := by
 have hlt := c.toNat_lt
 by_cases h1 : 48 ≤ c.toNat ∧ c.toNat ≤ 57
 ·rw [valC_d h1.1 h1.2]; omega
 ·by_cases h2 : 97 ≤ c.toNat ∧ c.toNat ≤ 102
  ·rw [valC_a h2.1 h2.2]; omega
  ·by_cases h3 : 65 ≤ c.toNat ∧ c.toNat ≤ 70
   ·rw [valC_A h3.1 h3.2]; omega
   ·rw [valC_n h1 h2 h3]; omega
theorem rvalue_any (c : UInt8) (w : World) : Calls Tryz.prog 150 #[.int .u8 c.toNat] w fun e w' => e = .returned (.int .i64 (valC c)) ∧ w' = w := by
 have hlt := c.toNat_lt
 by_cases h1 : 48 ≤ c.toNat ∧ c.toNat ≤ 57
 ·rw [valC_d h1.1 h1.2, show ((c.toNat - 48 : Nat) : Int) = (c.toNat : Int) - 48 by omega]
  have a1 : (48 : Int) ≤ c.toNat := by omega
  have a2 : (c.toNat : Int) ≤ 57 := by omega
  have g1 : IntKind.u8.wrap ((c.toNat : Int) - 48) = (c.toNat : Int) - 48 := IntWalk.u8_in _ (by omega)
  have g2 : IntKind.i64.wrap ((c.toNat : Int) - 48) = (c.toNat : Int) - 48 := IntWalk.i64_in _ (by omega)
  clear h1
  go_enter Tryz.func150, Tryz.ntmps150
  go_wp2
  go_ret
  exact ⟨rfl, rfl⟩
 ·by_cases h2 : 97 ≤ c.toNat ∧ c.toNat ≤ 102
  ·rw [valC_a h2.1 h2.2, show ((c.toNat - 87 : Nat) : Int) = (c.toNat : Int) - 97 + 10 by omega]
   have a0 : (48 : Int) ≤ c.toNat := by omega
   have a1 : ¬ (c.toNat : Int) ≤ 57 := by omega
   have a2 : (97 : Int) ≤ c.toNat := by omega
   have a3 : (c.toNat : Int) ≤ 102 := by omega
   have g1 : IntKind.u8.wrap ((c.toNat : Int) - 97) = (c.toNat : Int) - 97 := IntWalk.u8_in _ (by omega)
   have g2 : IntKind.i64.wrap ((c.toNat : Int) - 97) = (c.toNat : Int) - 97 := IntWalk.i64_in _ (by omega)
   have g3 : IntKind.i64.wrap ((c.toNat : Int) - 97 + 10) = (c.toNat : Int) - 97 + 10 := IntWalk.i64_in _ (by omega)
   clear h1 h2
   go_enter Tryz.func150, Tryz.ntmps150
   go_wp2
   go_ret
   exact ⟨rfl, rfl⟩
  ·by_cases h3 : 65 ≤ c.toNat ∧ c.toNat ≤ 70
   ·rw [valC_A h3.1 h3.2, show ((c.toNat - 55 : Nat) : Int) = (c.toNat : Int) - 65 + 10 by omega]
    have a0 : (48 : Int) ≤ c.toNat := by omega
    have a1 : ¬ (c.toNat : Int) ≤ 57 := by omega
    have a2 : ¬ (97 : Int) ≤ c.toNat := by omega
    have a3 : (65 : Int) ≤ c.toNat := by omega
    have a4 : (c.toNat : Int) ≤ 70 := by omega
    have g1 : IntKind.u8.wrap ((c.toNat : Int) - 65) = (c.toNat : Int) - 65 := IntWalk.u8_in _ (by omega)
    have g2 : IntKind.i64.wrap ((c.toNat : Int) - 65) = (c.toNat : Int) - 65 := IntWalk.i64_in _ (by omega)
    have g3 : IntKind.i64.wrap ((c.toNat : Int) - 65 + 10) = (c.toNat : Int) - 65 + 10 := IntWalk.i64_in _ (by omega)
    clear h1 h2 h3
    go_enter Tryz.func150, Tryz.ntmps150
    go_wp2
    go_ret
    exact ⟨rfl, rfl⟩
   ·rw [valC_n h1 h2 h3]
    have a1 : ¬ ((48 : Int) ≤ c.toNat ∧ (c.toNat : Int) ≤ 57) := by omega
    have a2 : ¬ ((97 : Int) ≤ c.toNat ∧ (c.toNat : Int) ≤ 102) := by omega
    have a3 : ¬ ((65 : Int) ≤ c.toNat ∧ (c.toNat : Int) ≤ 70) := by omega
    clear h1 h2 h3
    go_enter Tryz.func150, Tryz.ntmps150
    go_wp2
    all_goals
     first
      | (go_ret; exact ⟨rfl, rfl⟩)
      | (exfalso; simp at *; omega)
theorem digL_nil (base : Nat) : digL base [] = 0 := rfl
theorem digL_step {s : List UInt8} {base i : Nat} (h : i < s.length) : digL base (s.drop i) = if valC (chAt s i) < base then digL base (s.drop (i + 1)) + 1 else 0 := by
 rw [drop_at h]
 unfold digL
 rw [List.takeWhile_cons]
 by_cases hv : valC (chAt s i) < base
 ·rw [if_pos (decide_eq_true hv), if_pos hv]; rfl
 ·rw [if_neg (by simp [hv]), if_neg hv]; rfl
theorem digL_le (base : Nat) (s : List UInt8) : digL base s ≤ s.length := (List.takeWhile_sublist _).length_le
theorem digL_end {s : List UInt8} {base i : Nat} (h : s.length ≤ i) : digL base (s.drop i) = 0 := by rw [List.drop_eq_nil_of_le h]; rfl
theorem rdigits_any (s : ByteArray) (hs : s.size ≤ 1000000) (i base : Nat) (hi : i ≤ 1000010) (hbase : base ≤ 16) (w : World) :
 Calls Tryz.prog 149 #[.string s, .int .i64 i, .int .i64 base] w fun e w' => e = .returned (.int .i64 (digL base (s.data.toList.drop i))) ∧ w' = w := by
 obtain ⟨r, hr⟩ : ∃ r, r = digL base (s.data.toList.drop i) := ⟨_, rfl⟩
 have HN0 : Hid (0 + digL base (s.data.toList.drop (i + 0)) = r) := Hd (by rw [hr]; simp)
 rw [← hr]
 clear hr
 go_enter Tryz.func149, Tryz.ntmps149
 go_wp2_with fail
 go_loopg [7] (s.size + 1) (fun q v7 wx => ∃ n : Nat, q = s.size + 1 - n ∧ n ≤ s.size ∧ v7 = .int .i64 n ∧ wx = w ∧ Hid (n + digL base (s.data.toList.drop (i + n)) = r))
 case atStart => exact ⟨0, rfl, Nat.zero_le _, rfl, rfl, HN0⟩
 case round =>
  clear HN0
  obtain ⟨n, hq, hn, rfl, rfl, hN⟩ := hrel
  replace hq := hq.symm
  subst hq
  have g1 : IntKind.i64.wrap ((i : Int) + n) = ((i + n : Nat) : Int) := by rw [IntWalk.i64_in _ (by omega)]; omega
  have g2 : IntKind.i64.wrap ((n : Int) + 1) = (n : Int) + 1 := IntWalk.i64_in _ (by omega)
  by_cases hin : i + n < s.size
  ·have hin' : ((i + n : Nat) : Int) < s.size := by omega
   have hst := hN.out
   rw [digL_step (by rw [sz_list]; exact hin)] at hst
   obtain ⟨c, hc⟩ : ∃ c, c = chAt s.data.toList (i + n) := ⟨_, rfl⟩
   have hci : (s[i + n]'hin) = c := by rw [hc]; exact byte_chAt _
   rw [← hc] at hst
   have HV := Hd (rvalue_any c wr)
   have f4 : Hid (s.size + 1 - (n + 1) < s.size + 1 - n) := Hd (by omega)
   by_cases hv : valC c < base
   ·rw [if_pos hv] at hst
    have hv' : (valC c : Int) < base := by omega
    replace hst : Hid (n + 1 + digL base (s.data.toList.drop (i + (n + 1))) = r) := Hd (by rw [← hst, ← Nat.add_assoc i n 1]; omega)
    clear hc
    go_wp2_with fail
    refine HV.out.mono ?_
    rintro e w1 ⟨rfl, rfl⟩
    go_wp2_with fail
    go_roundg (s.size + 1 - (n + 1))
    case measure => exact f4.out
    case rel => exact ⟨n + 1, rfl, by omega, by simp, rfl, hst⟩
   ·rw [if_neg hv] at hst
    have hv' : ¬ (valC c : Int) < base := by omega
    replace hst := Hd hst
    clear hc
    go_wp2_with fail
    refine HV.out.mono ?_
    rintro e w1 ⟨rfl, rfl⟩
    go_wp2
    go_ret
    exact ⟨by rw [← hst.out]; rfl, rfl⟩
  ·have hin' : ¬ ((i + n : Nat) : Int) < s.size := by omega
   have hst : Hid (n = r) := Hd (by have := hN.out; rw [digL_end (by rw [sz_list]; omega)] at this; exact this)
   go_wp2
   go_ret
   exact ⟨by rw [← hst.out]; rfl, rfl⟩
end Go.Proofs.YtllbbacnakoomaaGreatDoor
namespace Go.Proofs.YtllbbacnakoomaaGreatDoor
open Go.RowKit
set_option linter.unusedVariables false
def prevS (l : List UInt8) (i : Nat) : Option UInt8 := if i = 0 then none else some (chAt l (i - 1))
theorem prevS_succ (l : List UInt8) (i : Nat) : prevS l (i + 1) = some (chAt l i) := by unfold prevS; rw [if_neg (by omega)]; rfl
theorem map_app2 (o : Option (List UInt8)) (Y : List UInt8) (c : UInt8) : (o.map (c :: ·)).map (fun x => Y ++ x) = o.map fun x => (Y ++ [c]) ++ x := by
 cases o <;> simp
theorem lowS_step {l : List UInt8} {i : Nat} (h : i < l.length) : lowS (prevS l i) (l.drop i) =
 if chAt l i = 85 then (lowS (prevS l (i + 1)) (l.drop (i + 1))).map (117 :: ·)
 else if chAt l i = 76 then (if (i + 1 < l.length ∧ chAt l (i + 1) = 108) ∨ (0 < i ∧ chAt l (i - 1) = 108) then none else (lowS (prevS l (i + 1)) (l.drop (i + 1))).map (108 :: ·))
 else (lowS (prevS l (i + 1)) (l.drop (i + 1))).map (chAt l i :: ·) := by
 rw [drop_at h, lowS, prevS_succ]
 have e1 : ((l.drop (i + 1)).head? = some 108) = (i + 1 < l.length ∧ chAt l (i + 1) = 108) := by
  by_cases h2 : i + 1 < l.length
  ·rw [drop_at h2]; simp [h2]
  ·rw [List.drop_eq_nil_of_le (by omega)]; simp [h2]
 have e2 : (prevS l i = some 108) = (0 < i ∧ chAt l (i - 1) = 108) := by
  unfold prevS
  by_cases h0 : i = 0
  ·simp [h0]
  ·rw [if_neg h0]; simp; omega
 simp only [e1, e2]
def sufRowsB : List ByteArray := [(⟨#[]⟩ : ByteArray), (⟨#[117]⟩ : ByteArray), (⟨#[108]⟩ : ByteArray), (⟨#[117,108]⟩ : ByteArray), (⟨#[108,117]⟩ : ByteArray), (⟨#[108,108]⟩ : ByteArray), (⟨#[117,108,108]⟩ : ByteArray), (⟨#[108,108,117]⟩ : ByteArray)]
theorem suf_at {i : Nat} {p : ByteArray} (h : sufRowsB[i]? = some p) : sufRows.drop i = p.data.toList :: sufRows.drop (i + 1) := by
 have hi := (List.getElem?_eq_some_iff.1 h).1
 match i, hi with
 | 0, _ => simp [sufRowsB] at h; subst h; rfl
 | 1, _ => simp [sufRowsB] at h; subst h; rfl
 | 2, _ => simp [sufRowsB] at h; subst h; rfl
 | 3, _ => simp [sufRowsB] at h; subst h; rfl
 | 4, _ => simp [sufRowsB] at h; subst h; rfl
 | 5, _ => simp [sufRowsB] at h; subst h; rfl
 | 6, _ => simp [sufRowsB] at h; subst h; rfl
 | 7, _ => simp [sufRowsB] at h; subst h; rfl
abbrev sufO : Obj := .cells #[.string (⟨#[]⟩ : ByteArray), .string (⟨#[117]⟩ : ByteArray), .string (⟨#[108]⟩ : ByteArray), .string (⟨#[117,108]⟩ : ByteArray), .string (⟨#[108,117]⟩ : ByteArray), .string (⟨#[108,108]⟩ : ByteArray), .string (⟨#[117,108,108]⟩ : ByteArray), .string (⟨#[108,108,117]⟩ : ByteArray)] 9
theorem own_byte (w : World) (c : UInt8) : Own (w.alloc (.cells #[.int .u8 c.toNat] 5)) w.heap.size 5 1 (.slice (some ⟨w.heap.size, 0, none⟩) 1 1) (byC [c]) := ⟨World.ownsRow_lit w #[.int .u8 c.toNat] 1 (Nat.le_refl _) (by decide) rfl, by simp [byC]⟩
def SufPost (x : Bool) (e : Ending) : Prop := ∃ b, e = .returned (.tuple #[.bool b, .bool x])
def sufT : Option (List UInt8) → Bool
 | some t => sufRows.contains t
 | none => false
theorem suf_T (l : List UInt8) : sufB l = sufT (lowS none l) := by
 unfold sufB sufT
 cases lowS none l <;> rfl
theorem rsuffix_any (s : ByteArray) (hs : s.size ≤ 1000000) (w : World) :
 Calls Tryz.prog 151 #[.string s] w fun e w' => SufPost (sufB s.data.toList) e ∧ Below w.heap.size w w' := by
 obtain ⟨R, hR⟩ : ∃ R, R = lowS none s.data.toList := ⟨_, rfl⟩
 have hS : Hid (sufB s.data.toList = sufT R) := Hd (by rw [hR]; exact suf_T _)
 have hR0 : Hid ((lowS (prevS s.data.toList 0) (s.data.toList.drop 0)).map (fun x => (⟨#[]⟩ : ByteArray).data.toList ++ x) = R) := Hd (by
  rw [hR, List.drop_zero]; unfold prevS; rw [if_pos rfl]; cases lowS none s.data.toList <;> rfl)
 clear hR
 generalize sufB s.data.toList = sb at hS ⊢
 have hrow0 : Hid (Row (w.alloc sufO) 1 (some ⟨w.heap.size, 0, none⟩) (sufRowsB.map fun p => [.string p])) := Hd (row_new w (css := sufRowsB.map fun p => [.string p]) (by simp [sufRowsB]) 9 (by simp [sufRowsB]) rfl)
 have hb0 : Hid (Below w.heap.size w (w.alloc sufO)) := Hd ((Below.refl _ w).alloc (Nat.le_refl _) _)
 have hsl : Hid (s.data.toList.length = s.size) := Hd (sz_list s)
 go_enter Tryz.func151, Tryz.ntmps151
 go_wp2_with fail
 go_loopg [5,6,7,19,22] s.size (fun q v5 v6 v7 v19 v22 wx => ∃ (i : Nat) (t : ByteArray), q = s.size - i ∧ i ≤ s.size ∧ v5 = .string t ∧ v6 = .int .i64 i ∧ Hid (t.size = i) ∧ Hid ((lowS (prevS s.data.toList i) (s.data.toList.drop i)).map (fun x => t.data.toList ++ x) = R) ∧ Hid (Row wx 1 (some ⟨w.heap.size, 0, none⟩) (sufRowsB.map fun p => [.string p])) ∧ Hid (Below w.heap.size w wx))
 case atStart => exact ⟨0, ⟨#[]⟩, rfl, Nat.zero_le _, rfl, rfl, Hd rfl, hR0, hrow0, hb0⟩
 case round =>
  clear hR0 hrow0 hb0
  obtain ⟨i, t, hq, hi, rfl, rfl, ht, hR, hrow, hb⟩ := hrel
  replace hq := hq.symm
  subst hq
  have hsB := hb.out.size
  by_cases hin : i < s.size
  ·have hin' : (i : Int) < s.size := by omega
   have g1 : IntKind.i64.wrap ((i : Int) + 1) = (i : Int) + 1 := IntWalk.i64_in _ (by omega)
   have f4 : Hid (s.size - (i + 1) < s.size - i) := Hd (by omega)
   have hcat : t.size + 1 ≤ 9223372036854775807 := by have := ht.out; omega
   have hcat2 : ¬ 9223372036854775807 < t.size + 1 := by omega
   obtain ⟨c, hc⟩ : ∃ c, c = chAt s.data.toList i := ⟨_, rfl⟩
   have hci : (s[i]'hin) = c := by rw [hc]; exact byte_chAt _
   have hst := hR.out
   rw [lowS_step (by rw [sz_list]; exact hin), ← hc] at hst
   clear hc hR
   have hn : ∀ d : UInt8, Hid ((t ++ (⟨#[d]⟩ : ByteArray)).size = i + 1 ∧ (t ++ (⟨#[d]⟩ : ByteArray)).data.toList = t.data.toList ++ [d]) := fun d => Hd ⟨by rw [ByteArray.size_append, ht.out]; rfl, by simp⟩
   by_cases c85 : c = 85
   ·subst c85
    rw [if_pos rfl, map_app2] at hst
    replace hst := Hd hst
    have l85 : ((UInt8.toNat 85 : Nat) : Int) = 85 := rfl
    have hcv := run_str_own (P := Tryz.prog) (w := wr.alloc (.cells #[.int .u8 (117)] 5)) (l := [117]) (own_byte wr 117) 115 9 Tryz.underlying115 Tryz.underlying5 Tryz.underlying9
    have hn1 := hn 117
    clear hn
    go_wp2
    go_roundg (s.size - (i + 1))
    case measure => exact f4.out
    case rel => exact ⟨i + 1, _, rfl, by omega, rfl, by simp, Hd hn1.out.1, Hd (by rw [hn1.out.2]; exact hst.out), Hd (hrow.out.below ((Below.refl _ wr).alloc (Nat.le_refl _) _)), Hd (hb.out.alloc hsB _)⟩
   rw [if_neg c85] at hst
   obtain ⟨c85a, c85b⟩ := u8_int (n := 85) (by decide) c85
   replace c85a : ¬ (c.toNat : Int) = 85 := c85a
   replace c85b : ((c.toNat : Int) == 85) = false := c85b
   replace c85 := Hd c85
   by_cases c76 : c = 76
   ·subst c76
    have l76 : ((UInt8.toNat 76 : Nat) : Int) = 76 := rfl
    rw [if_pos rfl] at hst
    by_cases hA : i + 1 < s.size
    ·have hA' : (i : Int) + 1 < s.size := by omega
     have hiz : (0 : Int) ≤ (i : Int) + 1 := by omega
     have hit : ((i : Int) + 1).toNat = i + 1 := by omega
     obtain ⟨d, hd⟩ : ∃ d, d = chAt s.data.toList (i + 1) := ⟨_, rfl⟩
     have hdi : (s[i + 1]'hA) = d := by rw [hd]; exact byte_chAt _
     rw [← hd] at hst
     clear hd
     by_cases d108 : d = 108
     ·subst d108
      have l108 : ((UInt8.toNat 108 : Nat) : Int) = 108 := rfl
      rw [if_pos (.inl ⟨by rw [sz_list]; exact hA, rfl⟩)] at hst
      have hRn : Hid (sb = false) := Hd (by
       have : R = none := by rw [← hst]; rfl
       rw [hS.out, this]; rfl)
      clear hst hn
      go_wp2
      go_ret2
      exact ⟨⟨_, by rw [hRn.out]; rfl⟩, hb.out⟩
     ·obtain ⟨d108a, d108b⟩ := u8_int (n := 108) (by decide) d108
      replace d108a : ¬ (d.toNat : Int) = 108 := d108a
      replace d108b : ((d.toNat : Int) == 108) = false := d108b
      replace d108 := Hd d108
      by_cases hB : 0 < i
      ·have hB' : (0 : Int) < (i : Int) := by omega
       have hpz : (0 : Int) ≤ (i : Int) - 1 := by omega
       have hpy : (i : Int) - 1 < s.size := by omega
       have hpt : ((i : Int) - 1).toNat = i - 1 := by omega
       have g2 : IntKind.i64.wrap ((i : Int) - 1) = (i : Int) - 1 := IntWalk.i64_in _ (by omega)
       obtain ⟨p, hp⟩ : ∃ p, p = chAt s.data.toList (i - 1) := ⟨_, rfl⟩
       have hpi : (s[i - 1]'(by omega)) = p := by rw [hp]; exact byte_chAt _
       rw [← hp] at hst
       clear hp
       by_cases p108 : p = 108
       ·subst p108
        have l108 : ((UInt8.toNat 108 : Nat) : Int) = 108 := rfl
        rw [if_pos (.inr ⟨hB, rfl⟩)] at hst
        have hRn : Hid (sb = false) := Hd (by
         have : R = none := by rw [← hst]; rfl
         rw [hS.out, this]; rfl)
        clear hst hn
        go_wp2
        go_ret2
        exact ⟨⟨_, by rw [hRn.out]; rfl⟩, hb.out⟩
       ·obtain ⟨p108a, p108b⟩ := u8_int (n := 108) (by decide) p108
        replace p108a : ¬ (p.toNat : Int) = 108 := p108a
        replace p108b : ((p.toNat : Int) == 108) = false := p108b
        have hB2 : ¬ (0 < i ∧ p = 108) := fun h => p108 h.2
        replace p108 := Hd p108
        rw [if_neg (fun h => h.elim (fun h => d108.out h.2) hB2), map_app2] at hst
        replace hB2 := Hd hB2
        replace hst := Hd hst
        have hcv := run_str_own (P := Tryz.prog) (w := wr.alloc (.cells #[.int .u8 (108)] 5)) (l := [108]) (own_byte wr 108) 115 9 Tryz.underlying115 Tryz.underlying5 Tryz.underlying9
        have hn1 := hn 108
        clear hn
        go_wp2
        go_roundg (s.size - (i + 1))
        case measure => exact f4.out
        case rel => exact ⟨i + 1, _, rfl, by omega, rfl, by simp, Hd hn1.out.1, Hd (by rw [hn1.out.2]; exact hst.out), Hd (hrow.out.below ((Below.refl _ wr).alloc (Nat.le_refl _) _)), Hd (hb.out.alloc hsB _)⟩
      ·have hB' : ¬ (0 : Int) < (i : Int) := by omega
       have hB2 : ¬ (0 < i ∧ chAt s.data.toList (i - 1) = 108) := fun h => hB h.1
       rw [if_neg (fun h => h.elim (fun h => d108.out h.2) hB2), map_app2] at hst
       replace hB2 := Hd hB2
       replace hst := Hd hst
       have hcv := run_str_own (P := Tryz.prog) (w := wr.alloc (.cells #[.int .u8 (108)] 5)) (l := [108]) (own_byte wr 108) 115 9 Tryz.underlying115 Tryz.underlying5 Tryz.underlying9
       have hn1 := hn 108
       clear hn
       go_wp2
       go_roundg (s.size - (i + 1))
       case measure => exact f4.out
       case rel => exact ⟨i + 1, _, rfl, by omega, rfl, by simp, Hd hn1.out.1, Hd (by rw [hn1.out.2]; exact hst.out), Hd (hrow.out.below ((Below.refl _ wr).alloc (Nat.le_refl _) _)), Hd (hb.out.alloc hsB _)⟩
    ·have hA' : ¬ (i : Int) + 1 < s.size := by omega
     have d108 : Hid (¬ i + 1 < s.data.toList.length) := Hd (by rw [sz_list]; exact hA)
     replace d108 := Hd d108
     by_cases hB : 0 < i
     ·have hB' : (0 : Int) < (i : Int) := by omega
      have hpz : (0 : Int) ≤ (i : Int) - 1 := by omega
      have hpy : (i : Int) - 1 < s.size := by omega
      have hpt : ((i : Int) - 1).toNat = i - 1 := by omega
      have g2 : IntKind.i64.wrap ((i : Int) - 1) = (i : Int) - 1 := IntWalk.i64_in _ (by omega)
      obtain ⟨p, hp⟩ : ∃ p, p = chAt s.data.toList (i - 1) := ⟨_, rfl⟩
      have hpi : (s[i - 1]'(by omega)) = p := by rw [hp]; exact byte_chAt _
      rw [← hp] at hst
      clear hp
      by_cases p108 : p = 108
      ·subst p108
       have l108 : ((UInt8.toNat 108 : Nat) : Int) = 108 := rfl
       rw [if_pos (.inr ⟨hB, rfl⟩)] at hst
       have hRn : Hid (sb = false) := Hd (by
        have : R = none := by rw [← hst]; rfl
        rw [hS.out, this]; rfl)
       clear hst hn
       go_wp2
       go_ret2
       exact ⟨⟨_, by rw [hRn.out]; rfl⟩, hb.out⟩
      ·obtain ⟨p108a, p108b⟩ := u8_int (n := 108) (by decide) p108
       replace p108a : ¬ (p.toNat : Int) = 108 := p108a
       replace p108b : ((p.toNat : Int) == 108) = false := p108b
       have hB2 : ¬ (0 < i ∧ p = 108) := fun h => p108 h.2
       replace p108 := Hd p108
       rw [if_neg (fun h => h.elim (fun h => d108.out h.1) hB2), map_app2] at hst
       replace hB2 := Hd hB2
       replace hst := Hd hst
       have hcv := run_str_own (P := Tryz.prog) (w := wr.alloc (.cells #[.int .u8 (108)] 5)) (l := [108]) (own_byte wr 108) 115 9 Tryz.underlying115 Tryz.underlying5 Tryz.underlying9
       have hn1 := hn 108
       clear hn
       go_wp2
       go_roundg (s.size - (i + 1))
       case measure => exact f4.out
       case rel => exact ⟨i + 1, _, rfl, by omega, rfl, by simp, Hd hn1.out.1, Hd (by rw [hn1.out.2]; exact hst.out), Hd (hrow.out.below ((Below.refl _ wr).alloc (Nat.le_refl _) _)), Hd (hb.out.alloc hsB _)⟩
     ·have hB' : ¬ (0 : Int) < (i : Int) := by omega
      have hB2 : ¬ (0 < i ∧ chAt s.data.toList (i - 1) = 108) := fun h => hB h.1
      rw [if_neg (fun h => h.elim (fun h => d108.out h.1) hB2), map_app2] at hst
      replace hB2 := Hd hB2
      replace hst := Hd hst
      have hcv := run_str_own (P := Tryz.prog) (w := wr.alloc (.cells #[.int .u8 (108)] 5)) (l := [108]) (own_byte wr 108) 115 9 Tryz.underlying115 Tryz.underlying5 Tryz.underlying9
      have hn1 := hn 108
      clear hn
      go_wp2
      go_roundg (s.size - (i + 1))
      case measure => exact f4.out
      case rel => exact ⟨i + 1, _, rfl, by omega, rfl, by simp, Hd hn1.out.1, Hd (by rw [hn1.out.2]; exact hst.out), Hd (hrow.out.below ((Below.refl _ wr).alloc (Nat.le_refl _) _)), Hd (hb.out.alloc hsB _)⟩
   ·rw [if_neg c76, map_app2] at hst
    obtain ⟨c76a, c76b⟩ := u8_int (n := 76) (by decide) c76
    replace c76a : ¬ (c.toNat : Int) = 76 := c76a
    replace c76b : ((c.toNat : Int) == 76) = false := c76b
    replace c76 := Hd c76
    replace hst := Hd hst
    have hcv := run_str_own (P := Tryz.prog) (w := wr.alloc (.cells #[.int .u8 ((c.toNat : Int))] 5)) (l := [c]) (own_byte wr c) 115 9 Tryz.underlying115 Tryz.underlying5 Tryz.underlying9
    have hn1 := hn c
    clear hn
    go_wp2
    go_roundg (s.size - (i + 1))
    case measure => exact f4.out
    case rel => exact ⟨i + 1, _, rfl, by omega, rfl, by simp, Hd hn1.out.1, Hd (by rw [hn1.out.2]; exact hst.out), Hd (hrow.out.below ((Below.refl _ wr).alloc (Nat.le_refl _) _)), Hd (hb.out.alloc hsB _)⟩
  ·obtain rfl : i = s.size := by omega
   have hin' : ¬ (s.size : Int) < (s.size : Int) := by omega
   have hRt : Hid (sb = sufRows.contains t.data.toList) := Hd (by
    have := hR.out
    rw [List.drop_eq_nil_of_le (by rw [sz_list]; exact Nat.le_refl _)] at this
    rw [hS.out, ← this]
    simp [lowS, sufT])
   clear hR ht hi
   go_wp2_with fail
   have hR1 : Hid ((sufRows.drop 0).contains t.data.toList = sb) := Hd hRt.out.symm
   clear hRt
   go_loopg [8] 8 (fun q v8 wx => ∃ i : Nat, q = 8 - i ∧ i ≤ 8 ∧ v8 = .int .i64 i ∧ wx = wr ∧ Hid ((sufRows.drop i).contains t.data.toList = sb))
   case atStart => exact ⟨0, rfl, Nat.zero_le _, rfl, rfl, hR1⟩
   case round =>
    clear hR1
    obtain ⟨i, hq, hi, rfl, rfl, hR⟩ := hrel
    replace hq := hq.symm
    subst hq
    by_cases hin : i < 8
    ·have hin' : (i : Int) < 8 := by omega
     have f4 : Hid (8 - (i + 1) < 8 - i) := Hd (by omega)
     have g1 : IntKind.i64.wrap ((i : Int) + 1) = (i : Int) + 1 := IntWalk.i64_in _ (by omega)
     obtain ⟨p, hp⟩ : ∃ p, sufRowsB[i]? = some p := ⟨_, List.getElem?_eq_getElem hin⟩
     have hpd := suf_at hp
     have x0 : wr.cell? ⟨w.heap.size, i, none⟩ = some (.string p) := by
      obtain ⟨b', o', e, hat⟩ := hrow.out (by simp [sufRowsB])
      simp only [Option.some.injEq, Addr.mk.injEq, and_true] at e
      obtain ⟨rfl, rfl⟩ := e
      have := hat i [.string p] (by rw [List.getElem?_map, hp]; rfl) 0 _ rfl
      simpa using this
     have hstep := hR.out
     rw [hpd, List.contains_cons] at hstep
     have hb1 : (p.toList == t.toList) = (t.data.toList == p.data.toList) := by rw [beq_list]; exact Bool.beq_comm
     generalize (t.data.toList == p.data.toList) = e1 at hb1 hstep
     replace hstep := Hd hstep
     clear hp hpd hR
     cases e1 with
     | false =>
       go_wp2_with fail
       go_roundg (8 - (i + 1))
       case measure => exact f4.out
       case rel => exact ⟨i + 1, rfl, by omega, by simp, rfl, Hd (by have := hstep.out; simpa using this)⟩
     | true =>
       have hT : Hid (sb = true) := Hd (by have := hstep.out; simpa using this.symm)
       go_wp2
       all_goals
        go_ret2
        exact ⟨⟨_, by rw [hT.out]; rfl⟩, hb.out⟩
    ·obtain rfl : i = 8 := by omega
     have hF : Hid (sb = false) := Hd hR.out.symm
     clear hin hi
     go_wp2
     go_ret2
     exact ⟨⟨_, by rw [hF.out]; rfl⟩, hb.out⟩
end Go.Proofs.YtllbbacnakoomaaGreatDoor
namespace Go.Proofs.YtllbbacnakoomaaGreatDoor
set_option linter.unusedVariables false
theorem catL_last : ∀ (l : List Tm) (k : Nat) (c : CatS), c.last < k → c.last ≤ (catL l k c).last
 | [], k, c, h => Nat.le_refl _
 | x :: r, k, c, h => by
   unfold catL
   split
   ·exact catL_last r (k + 1) c (by omega)
   ·split
    ·exact Nat.le_refl _
    ·split
     ·exact Nat.le_refl _
     ·have := catL_last r (k + 1) ⟨if c.let_ = [] then preQ x.text.data.toList else c.let_, c.s ++ (by assumption), c.n + 1, k⟩ (by simp only; omega)
      simp only at this
      omega
theorem allGo_more (T : List Tm) : ∀ (k m i : Nat), T.length < k + i → T.length < m + i → allGo T k i = allGo T m i
 | 0, m, i, h, hm => by
   have hn : T[i]? = none := List.getElem?_eq_none (by omega)
   cases m with
   | zero => rfl
   | succ m => unfold allGo; rw [hn]
 | k + 1,0, i, h, hm => by
   have hn : T[i]? = none := List.getElem?_eq_none (by omega)
   unfold allGo; rw [hn]
 | k + 1, m + 1, i, h, hm => by
   have H := fun j (hj : i + 1 ≤ j) => allGo_more T k m j (by omega) (by omega)
   unfold allGo
   cases hx : T[i]? with
   | none => rfl
   | some x =>
     simp only
     split
     ·exact H _ (Nat.le_refl _)
     split
     ·cases hb : bytesV x.text.data.toList with
      | none => exact H _ (Nat.le_refl _)
      | some b =>
        simp only
        rw [H _ (by have := catL_last (T.drop (i + 1)) (i + 1) ⟨preQ x.text.data.toList, b, 1, i⟩ (Nat.lt_succ_self i); simp only at this; omega)]
     split
     ·exact H _ (Nat.le_refl _)
     ·rw [H _ (Nat.le_refl _)]
def allF (T : List Tm) (i : Nat) : List Ct := allGo T (T.length + 1) i
theorem allL_F (T : List Tm) : allL T = allF T 0 ++ [⟨8, ⟨#[]⟩, ⟨#[]⟩, 0,0, T.length, 0⟩] := rfl
theorem allF_end {T : List Tm} {i : Nat} (h : T.length ≤ i) : allF T i = [] := by
 unfold allF allGo
 rw [List.getElem?_eq_none h]
theorem allF_step {T : List Tm} {i : Nat} {x : Tm} (hx : T[i]? = some x) : allF T i =
 if x.kind = 7 then allF T (i + 1)
 else if x.kind = 4 then match bytesV x.text.data.toList with
  | none => allF T (i + 1)
  | some b => oneT x i 6 (bs ((catL (T.drop (i + 1)) (i + 1) ⟨preQ x.text.data.toList, b, 1, i⟩).let_ ++ quoteL (catL (T.drop (i + 1)) (i + 1) ⟨preQ x.text.data.toList, b, 1, i⟩).s)) (catL (T.drop (i + 1)) (i + 1) ⟨preQ x.text.data.toList, b, 1, i⟩).n :: allF T ((catL (T.drop (i + 1)) (i + 1) ⟨preQ x.text.data.toList, b, 1, i⟩).last + 1)
 else if kindT x = 0 then allF T (i + 1)
 else oneT x i (kindT x) (if x.kind = 5 then (usualP x.text).1 else x.text) 1 :: allF T (i + 1) := by
 have hi := (List.getElem?_eq_some_iff.1 hx).1
 have H := fun j (hj : i + 1 ≤ j) => allGo_more T T.length (T.length + 1) j (by omega) (by omega)
 conv => lhs; unfold allF allGo
 rw [hx]
 simp only
 unfold allF
 rw [H _ (Nat.le_refl _)]
 cases hb : bytesV x.text.data.toList with
 | none => rfl
 | some b =>
   simp only
   rw [H _ (by have := catL_last (T.drop (i + 1)) (i + 1) ⟨preQ x.text.data.toList, b, 1, i⟩ (Nat.lt_succ_self i); simp only at this; omega)]
theorem catL_end (k : Nat) (c : CatS) : catL [] k c = c := rfl
theorem catL_step (x : Tm) (r : List Tm) (k : Nat) (c : CatS) : catL (x :: r) k c =
 if x.kind = 7 then catL r (k + 1) c
 else match bytesV x.text.data.toList with
  | none => c
  | some b => if x.kind ≠ 4 then c else catL r (k + 1) ⟨if c.let_ = [] then preQ x.text.data.toList else c.let_, c.s ++ b, c.n + 1, k⟩ := by
 conv => lhs; unfold catL
 all_goals rfl
theorem bytesIn_len {q : UInt8} : ∀ (k : Nat) (l b : List UInt8), bytesIn q k l = some b → b.length ≤ l.length
 | _, [], b, h => by
   cases b with
   | nil => exact Nat.zero_le _
   | cons c r => unfold bytesIn at h; cases h
 | 0, c :: r, b, h => by cases h
 | k + 1, c :: r, b, h => by
   unfold bytesIn at h
   split at h
   ·cases h
   split at h
   ·split at h
    ·cases h
    ·obtain ⟨d, hd, rfl⟩ := Option.map_eq_some_iff.1 h
     have := bytesIn_len k _ d hd
     rw [List.length_drop] at this
     simp only [List.length_cons]
     omega
   ·obtain ⟨d, hd, rfl⟩ := Option.map_eq_some_iff.1 h
    have := bytesIn_len k _ d hd
    simp only [List.length_cons]
    omega
theorem bytesV_len {A b : List UInt8} (h : bytesV A = some b) : b.length ≤ A.length := by
 unfold bytesV at h
 obtain ⟨p, _, h2⟩ := Option.bind_eq_some_iff.1 h
 have := bytesIn_len _ _ _ h2
 rw [List.length_take, List.length_drop] at this
 omega
theorem preQ_len (A : List UInt8) : (preQ A).length ≤ A.length := by
 unfold preQ
 split
 ·exact (List.takeWhile_sublist _).length_le
 ·exact Nat.zero_le _
end Go.Proofs.YtllbbacnakoomaaGreatDoor
namespace Go.Proofs.YtllbbacnakoomaaGreatDoor
set_option linter.unusedVariables false
def TI (n : Nat) (s : LS) : Prop := (s.out.flatMap (·.toks)).length + s.toks.length ≤ s.i ∧ (∀ t ∈ s.toks, t.text.length ≤ n) ∧ ∀ l ∈ s.out, ∀ t ∈ l.toks, t.text.length ≤ n
def TF (n : Nat) (ls : List Ln) : Prop := (ls.flatMap (·.toks)).length ≤ n ∧ ∀ l ∈ ls, ∀ t ∈ l.toks, t.text.length ≤ n
theorem finL_map {n : Nat} : ∀ ls : List Ln, (finL n ls).map (·.toks) = ls.map (·.toks)
 | [] => rfl
 | [l] => rfl
 | l :: m :: r => by simp only [finL, List.map_cons]; rw [finL_map (m :: r)]; rfl
theorem TF.finL {n m : Nat} {ls : List Ln} (h : TF n ls) : TF n (finL m ls) := by
 obtain ⟨h1, h2⟩ := h
 have e : (Go.Proofs.YtllbbacnakoomaaGreatDoor.finL m ls).flatMap (·.toks) = ls.flatMap (·.toks) := by
  rw [List.flatMap_def, List.flatMap_def, finL_map]
 refine ⟨by rw [e]; exact h1, fun l hl t ht => ?_⟩
 have : l.toks ∈ (Go.Proofs.YtllbbacnakoomaaGreatDoor.finL m ls).map (·.toks) := List.mem_map.2 ⟨l, hl, rfl⟩
 rw [finL_map] at this
 obtain ⟨l', hl', e'⟩ := List.mem_map.1 this
 exact h2 l' hl' t (by rw [e']; exact ht)
theorem lineStep_ti {R : List Rn} {n : Nat} {s : LS} (hi : s.i < R.length) (h : TI R.length s) : match lineStep R n s with | .inl s' => TI R.length s' | .inr r => TF R.length r.1 := by
 have hs := fun s' => lineStep_i (R := R) (n := n) (s := s) (s' := s') hi
 revert hs
 unfold lineStep
 obtain ⟨h1, h2, h3⟩ := h
 have h4 : ∀ (l : Ln), l.toks = s.toks → ∀ x ∈ s.out ++ [l], ∀ t ∈ x.toks, t.text.length ≤ R.length := fun l hl x hx t ht => by
  rcases List.mem_append.1 hx with hx | hx
  ·exact h3 x hx t ht
  ·rw [List.mem_singleton.1 hx, hl] at ht
   exact h2 t ht
 split
 ·intro hs
  refine ⟨by simp only [List.flatMap_append, List.length_append, List.flatMap_cons, List.flatMap_nil, List.append_nil, List.length_nil]; omega, fun t ht => (List.not_mem_nil ht).elim, h4 _ rfl⟩
 ·split
  ·intro hs
   exact ⟨by simp only; omega, h2, h3⟩
  ·split
   ·split
    ·intro hs
     exact ⟨by simp only [List.flatMap_append, List.length_append, List.flatMap_cons, List.flatMap_nil, List.append_nil]; omega, h4 _ rfl⟩
    ·intro hs
     have := (hs _ rfl).1
     exact ⟨by simp only at this ⊢; omega, h2, h3⟩
   ·intro hs
    have := (hs _ rfl).1
    refine ⟨by simp only [List.length_append, List.length_singleton] at this ⊢; omega, fun t ht => ?_, h3⟩
    rcases List.mem_append.1 ht with ht | ht
    ·exact h2 t ht
    ·rw [List.mem_singleton.1 ht]
     unfold tokAt
     simp only
     rw [List.length_take, List.length_drop, cs_len]
     omega
theorem linesRun_tf {R : List Rn} {n : Nat} : ∀ (k : Nat) (s : LS), s.i ≤ R.length → TI R.length s → TF R.length (linesRun R n k s).1
 | 0, s, hle, h => TF.finL ⟨by have := h.1; omega, h.2.2⟩
 | k + 1, s, hle, h => by
   unfold linesRun
   split
   ·rename_i hi
    have hst := lineStep_ti (n := n) hi h
    have hs := fun s' => lineStep_i (R := R) (n := n) (s := s) (s' := s') hi
    cases he : lineStep R n s with
    | inl s' =>
      rw [he] at hst
      exact linesRun_tf k s' (hs s' he).2 hst
    | inr r =>
      rw [he] at hst
      exact hst
   ·exact TF.finL ⟨by have := h.1; omega, h.2.2⟩
theorem linesL_tf (text : List UInt8) : TF (text.length + 1) (linesL text).1 := by
 have := linesRun_tf (R := charsL text) (n := text.length) ((charsL text).length + 1) ⟨0, [], 0, false, [], []⟩ (Nat.zero_le _) ⟨by simp, by simp, by simp⟩
 obtain ⟨h1, h2⟩ := this
 have hl := charsL_len text
 exact ⟨Nat.le_trans h1 hl, fun l hl' t ht => Nat.le_trans (h2 l hl' t ht) hl⟩
theorem flatL_len (s : List UInt8) : (flatL s).length ≤ s.length + 1 := by
 have h := (linesL_tf s).1
 unfold flatL
 rw [← List.map_flatMap, List.length_map]
 exact h
theorem flatL_txt (s : List UInt8) : ∀ t ∈ flatL s, t.text.size ≤ s.length + 1 := by
 intro t ht
 obtain ⟨l, hl, ht⟩ := List.mem_flatMap.1 ht
 obtain ⟨k, hk, rfl⟩ := List.mem_map.1 ht
 exact (linesL_tf s).2 l hl k hk
theorem catL_len : ∀ (l : List Tm) (k m : Nat) (c : CatS), (∀ t ∈ l, t.text.size ≤ m) → c.let_.length ≤ m → (catL l k c).let_.length ≤ m ∧ (catL l k c).s.length ≤ c.s.length + l.length * m
 | [], k, m, c, h, hc => ⟨hc, Nat.le_add_right _ _⟩
 | x :: r, k, m, c, h, hc => by
   have hx := h x (.head _)
   have hr : ∀ t ∈ r, t.text.size ≤ m := fun t ht => h t (.tail _ ht)
   rw [catL_step, List.length_cons, Nat.add_mul, Nat.one_mul]
   split
   ·have := catL_len r (k + 1) m c hr hc; exact ⟨this.1, by omega⟩
   ·cases hb : bytesV x.text.data.toList with
    | none => simp only; exact ⟨hc, by omega⟩
    | some b =>
      simp only
      have hbl := bytesV_len hb
      have hpl := preQ_len x.text.data.toList
      rw [sz_list] at hbl hpl
      split
      ·exact ⟨hc, by omega⟩
      ·have := catL_len r (k + 1) m ⟨if c.let_ = [] then preQ x.text.data.toList else c.let_, c.s ++ b, c.n + 1, k⟩ hr (by simp only; split <;> omega)
       simp only [List.length_append] at this
       exact ⟨this.1, by omega⟩
end Go.Proofs.YtllbbacnakoomaaGreatDoor
namespace Go.Proofs.YtllbbacnakoomaaGreatDoor
set_option linter.unusedVariables false
def envOf (names : List ByteArray) : Ev := names.foldl (fun e n => .decl e n true) .new
def outOf (L : List Ct) (o : PO T) : Option (List UInt8) := o.map fun r => if r.2.bad = true ∨ r.2.at_ ≠ (L.length : Int) - 1 then [] else T.out r.1
def exprOf (N : Nat) (L : List Ct) (names : List ByteArray) : Option (List UInt8) := outOf L ((recN L N).expr 0 ⟨0, envOf names, false⟩)
def writE (s : List UInt8) (names : List ByteArray) : Option (List UInt8) := exprOf 1000 (toksU s) names
end Go.Proofs.YtllbbacnakoomaaGreatDoor
namespace Go.Proofs.YtllbbacnakoomaaGreatDoor
set_option linter.unusedVariables false
theorem usualP_len (x : ByteArray) : (usualP x).1.size ≤ x.size + 2 := by
 unfold usualP
 repeat' (first | split | (simp only; first | exact Nat.le_add_right _ _ | (show _ ≤ x.size + 2; exact Nat.le_trans (by decide) (Nat.le_add_left 2 _))))
theorem quoteL_le2 (s : List UInt8) : (quoteL s).length ≤ 2 * s.length + 2 := by
 unfold quoteL
 rw [List.length_cons, List.length_append, List.length_singleton, escL_len]
 have := escN_le s
 omega
theorem allGo_len (T : List Tm) : ∀ k i, (allGo T k i).length ≤ k
 | 0, i => Nat.le_refl _
 | k + 1, i => by
   have H := fun j => allGo_len T k j
   unfold allGo
   cases T[i]? with
   | none => exact Nat.zero_le _
   | some x =>
     simp only
     split
     ·exact Nat.le_trans (H _) (Nat.le_succ _)
     split
     ·cases bytesV x.text.data.toList with
      | none => exact Nat.le_trans (H _) (Nat.le_succ _)
      | some b => simp only [List.length_cons]; exact Nat.succ_le_succ (H _)
     split
     ·exact Nat.le_trans (H _) (Nat.le_succ _)
     ·simp only [List.length_cons]; exact Nat.succ_le_succ (H _)
theorem allGo_txt (T : List Tm) (m : Nat) (hT : ∀ t ∈ T, t.text.size ≤ m) (hn : T.length ≤ 5000) (hm : m ≤ 5000) : ∀ k i, ∀ t ∈ allGo T k i, t.text.size ≤ 1000000000
 | 0, i, t, h => by cases h
 | k + 1, i, t, h => by
   have H := fun j => allGo_txt T m hT hn hm k j
   unfold allGo at h
   cases hx : T[i]? with
   | none => rw [hx] at h; cases h
   | some x =>
     rw [hx] at h
     simp only at h
     have hxm := hT x (List.mem_of_getElem? hx)
     split at h
     ·exact H _ t h
     split at h
     ·cases hb : bytesV x.text.data.toList with
      | none => rw [hb] at h; exact H _ t h
      | some b =>
        rw [hb] at h
        simp only at h
        rcases List.mem_cons.1 h with rfl | h
        ·have hbl := bytesV_len hb
         have hpl := preQ_len x.text.data.toList
         rw [sz_list] at hbl hpl
         have hc := catL_len (T.drop (i + 1)) (i + 1) m ⟨preQ x.text.data.toList, b, 1, i⟩ (fun t ht => hT t (List.mem_of_mem_drop ht)) (by simp only; omega)
         have hq := quoteL_le2 (catL (T.drop (i + 1)) (i + 1) ⟨preQ x.text.data.toList, b, 1, i⟩).s
         have hd : (T.drop (i + 1)).length * m ≤ 5000 * 5000 := Nat.mul_le_mul (by rw [List.length_drop]; omega) hm
         show ((catL (T.drop (i + 1)) (i + 1) ⟨preQ x.text.data.toList, b, 1, i⟩).let_ ++ quoteL (catL (T.drop (i + 1)) (i + 1) ⟨preQ x.text.data.toList, b, 1, i⟩).s).toArray.size ≤ _
         simp only [List.size_toArray, List.length_append]
         simp only at hc
         omega
        ·exact H _ t h
     split at h
     ·exact H _ t h
     ·rcases List.mem_cons.1 h with rfl | h
      ·have := usualP_len x.text
       unfold oneT
       simp only
       split <;> omega
      ·exact H _ t h
theorem toksU_facts {s : ByteArray} (hs : s.size ≤ 1900) : (toksU s.data.toList).length ≤ 2000 ∧ ∀ t ∈ toksU s.data.toList, t.text.size ≤ 1000000000 := by
 have h1 := flatL_len s.data.toList
 have h2 := flatL_txt s.data.toList
 rw [sz_list] at h1 h2
 unfold toksU allL
 refine ⟨?_, fun t ht => ?_⟩
 ·rw [List.length_append, List.length_singleton]
  have := allGo_len (flatL s.data.toList) ((flatL s.data.toList).length + 1) 0
  omega
 ·rcases List.mem_append.1 ht with ht | ht
  ·exact allGo_txt _ (s.size + 1) h2 (by omega) (by omega) _ _ t ht
  ·rw [List.mem_singleton.1 ht]; exact Nat.zero_le _
end Go.Proofs.YtllbbacnakoomaaGreatDoor
