/- Ropes: what the laws share. -/
import Derived.Test.YtnmlijngnnlejaaRp13
namespace Go.Proofs.Ytnmlijngnnlejaa
open Go.RowKit
set_option linter.unusedVariables false

def rndX (a n : Int) : Int := (a.tmod n + n).tmod n
theorem rndX_range (a n : Int) (h0 : 0 < n) : 0 ≤ rndX a n ∧ rndX a n < n := by
  have h2 : -n < a.tmod n := Int.lt_tmod_of_pos a h0
  unfold rndX
  rw [Int.tmod_eq_emod_of_nonneg (by omega)]
  exact ⟨Int.emod_nonneg _ (by omega), Int.emod_lt_of_pos _ h0⟩

set_option maxRecDepth 100000 in
theorem roundX_any (a n : Int) (h0 : 0 < n) (h1 : n ≤ 1000000) (ha : -9223372036854775808 ≤ a ∧ a ≤ 9223372036854775807) (w : World) :
    Calls Try.prog 9 #[.int .i64 a, .int .i64 n] w fun e w' => e = .returned (.int .i64 (rndX a n)) ∧ w' = w := by
  have hr := rndX_range a n h0
  have h2 : -n < a.tmod n := Int.lt_tmod_of_pos a h0
  have h3 : a.tmod n < n := Int.tmod_lt_of_pos a h0
  have HQ : Hid (rndX a n = (a.tmod n + n) % n) := Lib.hid (Int.tmod_eq_emod_of_nonneg (by omega))
  go_enter Try.func9, Try.ntmps9
  go_wp2
  go_ret
  exact ⟨by rw [HQ.out]; rfl, rfl⟩

/-- All ropes are as they were. -/
structure KB (B : Nat) (w w' : World) : Prop where
  below : Below B w w'
  ropes : ∀ t k, RAt w B t k → RAt w' B t k

theorem KB.refl (B : Nat) (w : World) : KB B w w := ⟨Below.refl _ _, fun _ _ h => h⟩
theorem KR.kb {B g : Nat} {w w' : World} (h : KR B g w w') : KB B w w' := ⟨h.below, h.ropes⟩
theorem KB.of_below {B : Nat} {w w' : World} (hB : B ≤ w.heap.size) (h : Below w.heap.size w w') : KB B w w' := ⟨h.mono hB, fun _ _ ht => ht.below h⟩
theorem KB.trans {B : Nat} {w w1 w2 : World} (h : KB B w w1) (k : KB B w1 w2) : KB B w w2 := ⟨h.below.trans k.below, fun t i ht => k.ropes t i (h.ropes t i ht)⟩
theorem KB.size {B : Nat} {w w' : World} (h : KB B w w') (hB : B ≤ w.heap.size) : B ≤ w'.heap.size := Nat.le_trans hB h.below.size

theorem awake_in {B : Nat} (W : World) (hB : B ≤ W.heap.size) : Calls Try.prog 6 #[] W fun e w' => e = .returned (.bool true) ∧ Below B W w' := (awake_any W).mono fun e w' h => ⟨h.1, h.2.mono hB⟩

theorem new_in {B : Nat} (s : ByteArray) (hs : s.size ≤ 65536) (W : World) (hB : B ≤ W.heap.size) : Calls Try.prog 7 #[.string s] W fun e w' => NewPost B s.data.toList e w' ∧ KB B W w' := (new_any s hs W hB).mono fun e w' h => ⟨h.1, KB.of_below hB h.2⟩

theorem insert_in {B g : Nat} {t : RT} (W : World) (hr : RAt W B t g) (ht : t.Good) (hB : B ≤ W.heap.size) (x : Nat) (hx : x ≤ t.text.length) (s : ByteArray) (hs : t.text.length + s.size ≤ 65536) :
    Calls Try.prog 8 #[.pointer (some ⟨g, 0, none⟩), .int .i64 x, .string s] W fun e w' => NewPost B (t.text.take x ++ s.data.toList ++ t.text.drop x) e w' ∧ KB B W w' :=
  (insert_any (o := some t) W ⟨ht, g, rfl, hr⟩ hB x hx s hs).mono fun e w' h => ⟨h.1, KB.of_below hB h.2⟩

theorem delete_in {B g : Nat} {t : RT} (W : World) (hr : RAt W B t g) (ht : t.Good) (hB : B ≤ W.heap.size) (hl : t.text.length ≤ 1000000) (f u : Nat) (h1 : f ≤ u) (h2 : u ≤ t.text.length) :
    Calls Try.prog 14 #[.pointer (some ⟨g, 0, none⟩), .int .i64 f, .int .i64 u] W fun e w' => NewPost B (t.text.take f ++ t.text.drop u) e w' ∧ KB B W w' :=
  (delete_any (o := some t) W ⟨ht, g, rfl, hr⟩ hB hl f u h1 h2).mono fun e w' h => ⟨h.1, KB.of_below hB h.2⟩

theorem start_in {B g : Nat} {t : RT} (W : World) (hr : RAt W B t g) (ht : t.Good) (hB : B ≤ W.heap.size) (hl : t.text.length ≤ 1000000) (x : Nat) (hx : x ≤ t.text.count 10) : Calls Try.prog 12 #[.pointer (some ⟨g, 0, none⟩), .int .i64 x] W fun e w' => e = .returned (.tuple #[.int .i64 (nlEnd t.text x : Nat), .int .i64 0]) ∧ KB B W w' := (start_any W hr ht hB hl x hx).mono fun e w' h => ⟨h.1, h.2.kb⟩

theorem line_in {B g : Nat} {t : RT} (W : World) (hr : RAt W B t g) (ht : t.Good) (hB : B ≤ W.heap.size) (hl : t.text.length ≤ 1000000) (x : Nat) (hx : x ≤ t.text.length) : Calls Try.prog 13 #[.pointer (some ⟨g, 0, none⟩), .int .i64 x] W fun e w' => e = .returned (.tuple #[.int .i64 ((t.text.take x).count 10 : Nat), .int .i64 ((x : Int) - (nlEnd t.text ((t.text.take x).count 10) : Nat)), .int .i64 0]) ∧ KB B W w' := (line_any W hr ht hB hl x hx).mono fun e w' h => ⟨h.1, h.2.kb⟩

theorem lines_in {B g : Nat} {t : RT} (W : World) (hr : RAt W B t g) (hB : B ≤ W.heap.size) (hl : t.text.length ≤ 1000000) : Calls Try.prog 11 #[.pointer (some ⟨g, 0, none⟩)] W fun e w' => e = .returned (.int .i64 ((t.text.count 10 : Nat) + 1)) ∧ KB B W w' := (lines_any W hr hB hl).mono fun e w' h => ⟨h.1, h.2.kb⟩

theorem slice_in {B g : Nat} {t : RT} (W : World) (hr : RAt W B t g) (ht : t.Good) (hB : B ≤ W.heap.size) (hl : t.text.length ≤ 1000000) (f u : Nat) (h1 : f ≤ u) (h2 : u ≤ t.text.length) (r : ByteArray) (hrs : (t.text.drop f).take (u - f) = r.data.toList) :
    Calls Try.prog 15 #[.pointer (some ⟨g, 0, none⟩), .int .i64 f, .int .i64 u] W fun e w' => e = .returned (.tuple #[.string r, .int .i64 0]) ∧ KB B W w' :=
  (slice_any (o := some t) W ⟨ht, g, rfl, hr⟩ hB hl f u h1 h2).mono fun e w' h => by
    have h1 := h.1
    simp only [textO] at h1
    rw [hrs] at h1
    exact ⟨h1, KB.of_below hB h.2⟩

theorem text_in {B g : Nat} {t : RT} (W : World) (hr : RAt W B t g) (ht : t.Good) (hB : B ≤ W.heap.size) (hl : t.text.length ≤ 1000000) (r : ByteArray) (hrs : t.text = r.data.toList) :
    Calls Try.prog 16 #[.pointer (some ⟨g, 0, none⟩)] W fun e w' => e = .returned (.string r) ∧ KB B W w' :=
  (text_any (o := some t) W ⟨ht, g, rfl, hr⟩ hl).mono fun e w' h => by
    have h1 := h.1
    simp only [textO] at h1
    rw [hrs] at h1
    exact ⟨h1, KB.of_below hB h.2⟩
end Go.Proofs.Ytnmlijngnnlejaa
