/- Ropes: New, Slice, Insert, Delete. -/
import Derived.Test.YtekbilieddficaaDoorRp6
namespace Go.Proofs.YtekbilieddficaaDoor
open Go.RowKit
set_option linter.unusedVariables false

/-- a rope of that text, and no error -/
def NewPost (B : Nat) (l : List UInt8) (e : Ending) (w' : World) : Prop := ∃ g t, e = .returned (.tuple #[.pointer (some ⟨g, 0, none⟩), .int .i64 0]) ∧ RAt w' B t g ∧ t.Good ∧ t.text = l

theorem made_in {B : Nat} {p : Option Addr} {o : Option RT} (W : World) (h : RP W B p o) (hB : B ≤ W.heap.size) : Calls Tryd.prog 53 #[.pointer p] W fun e w' => RGPost B (textO o) e w' ∧ Below W.heap.size W w' := made_any W h hB

set_option maxRecDepth 100000 in
theorem new_any {B : Nat} (s : ByteArray) (hs : s.size ≤ 65536) (w : World) (hB : B ≤ w.heap.size) : Calls Tryd.prog 29 #[.string s] w fun e w' => NewPost B s.data.toList e w' ∧ Below w.heap.size w w' := by
  have f1 : ¬ (65536 : Int) < (s.size : Int) := by omega
  have HB := Lib.hid (build_any (B := B) s.size s w (Nat.le_refl _) (by omega) hB)
  go_enter Tryd.func29, Tryd.ntmps29
  go_wp2_with fail
  refine HB.out.mono ?_
  rintro e w1 ⟨⟨p, o, rfl, r, t⟩, b1⟩
  have HM := Lib.hid (made_in w1 r (Nat.le_trans hB b1.size))
  replace t := Lib.hid t
  go_wp2_with fail
  refine HM.out.mono ?_
  rintro e w2 ⟨⟨g, tt, rfl, h1, h2, h3⟩, b2⟩
  go_wp2
  go_ret2
  exact ⟨⟨g, tt, rfl, h1, h2, h3.trans t.out⟩, b1.trans (b2.mono b1.size)⟩

theorem new_big (s : ByteArray) (hs : 65536 < s.size) (hm : s.size ≤ 9223372036854775807) (w : World) : Calls Tryd.prog 29 #[.string s] w fun e w' => e = .returned (.tuple #[.pointer none, .int .i64 4]) ∧ w' = w := by
  have f1 : (65536 : Int) < (s.size : Int) := by omega
  go_enter Tryd.func29, Tryd.ntmps29
  go_wp2
  go_ret2
  exact ⟨rfl, rfl⟩

set_option maxRecDepth 100000 in
theorem insert_bad {B : Nat} {p : Option Addr} {o : Option RT} (w : World) (h : RP w B p o) (hl : (textO o).length ≤ 1000000) (x : Int) (s : ByteArray) (hn : ¬ (0 ≤ x ∧ x ≤ (textO o).length)) :
    Calls Tryd.prog 38 #[.pointer p, .int .i64 x, .string s] w fun e w' => e = .returned (.tuple #[.pointer none, .int .i64 1]) ∧ w' = w := by
  have HW := within_any w h hl x x
  rw [decide_eq_false (by omega)] at HW
  replace HW := Lib.hid HW
  clear hn h
  go_enter Tryd.func38, Tryd.ntmps38
  go_wp2_with fail
  refine HW.out.mono ?_
  rintro e w' ⟨rfl, hw'⟩
  replace hw' := hw'.symm
  subst hw'
  go_wp2
  go_ret2
  exact ⟨rfl, rfl⟩

set_option maxRecDepth 100000 in
theorem insert_big {B : Nat} {p : Option Addr} {o : Option RT} (w : World) (h : RP w B p o) (hl : (textO o).length ≤ 65536) (x : Nat) (hx : x ≤ (textO o).length) (s : ByteArray) (hs : 65536 < (textO o).length + s.size) (hm : s.size ≤ 9223372036854775807) :
    Calls Tryd.prog 38 #[.pointer p, .int .i64 x, .string s] w fun e w' => e = .returned (.tuple #[.pointer none, .int .i64 4]) ∧ w' = w := by
  have HW := within_any w h (by omega) x x
  rw [decide_eq_true (by omega)] at HW
  replace HW := Lib.hid HW
  have HL := len_any w h
  obtain ⟨n, hn⟩ : ∃ n, n = (textO o).length := ⟨_, rfl⟩
  rw [← hn] at HL hl hx hs
  replace HL := Lib.hid HL
  have f1 : (65536 : Int) - (n : Int) < (s.size : Int) := by omega
  have f2 : (n : Int) ≤ 65536 := by omega
  clear hn h
  go_enter Tryd.func38, Tryd.ntmps38
  go_wp2_with fail
  refine HW.out.mono ?_
  rintro e w' ⟨rfl, hw'⟩
  replace hw' := hw'.symm
  subst hw'
  go_wp2_with fail
  refine HL.out.mono ?_
  rintro e w' ⟨rfl, hw'⟩
  replace hw' := hw'.symm
  subst hw'
  go_wp2
  go_ret2
  exact ⟨rfl, rfl⟩

set_option maxRecDepth 100000 in
theorem insert_any {B : Nat} {p : Option Addr} {o : Option RT} (w : World) (h : RP w B p o) (hB : B ≤ w.heap.size) (x : Nat) (hx : x ≤ (textO o).length) (s : ByteArray) (hs : (textO o).length + s.size ≤ 65536) :
    Calls Tryd.prog 38 #[.pointer p, .int .i64 x, .string s] w fun e w' => NewPost B ((textO o).take x ++ s.data.toList ++ (textO o).drop x) e w' ∧ Below w.heap.size w w' := by
  have HW := within_any w h (by omega) x x
  rw [decide_eq_true (by omega)] at HW
  replace HW := Lib.hid HW
  have HL := len_any w h
  have HS := Lib.hid (split_in w h hB (by omega) x (by omega) (by omega))
  obtain ⟨L, hL⟩ : ∃ L, L = textO o := ⟨_, rfl⟩
  rw [← hL] at HS HL hs hx ⊢
  obtain ⟨n, hn⟩ : ∃ n, n = L.length := ⟨_, rfl⟩
  rw [← hn] at HL hx hs
  replace HL := Lib.hid HL
  have f1 : ¬ (65536 : Int) - (n : Int) < (s.size : Int) := by omega
  have f2 : (n : Int) ≤ 65536 := by omega
  have e1 : ((x : Int)).toNat = x := by omega
  have hss : s.data.toList.length = s.size := (Lib.size_eq s).symm
  have HBd := Lib.hid (fun W (hk : B ≤ W.heap.size) => build_any (B := B) s.size s W (Nat.le_refl _) (by omega) hk)
  replace e1 := Lib.hid e1
  replace hn := Lib.hid hn
  replace hL := Lib.hid hL
  replace hss := Lib.hid hss
  clear h
  go_enter Tryd.func38, Tryd.ntmps38
  go_wp2_with fail
  refine HW.out.mono ?_
  rintro e w' ⟨rfl, hw'⟩
  replace hw' := hw'.symm
  subst hw'
  go_wp2_with fail
  refine HL.out.mono ?_
  rintro e w' ⟨rfl, hw'⟩
  replace hw' := hw'.symm
  subst hw'
  go_wp2_with fail
  refine HS.out.mono ?_
  rintro e w1 ⟨⟨q1, o1, q2, o2, rfl, r1, r2, t1, t2⟩, b1⟩
  rw [e1.out] at t1 t2
  have k1 := Nat.le_trans hB b1.size
  replace t1 := Lib.hid t1
  replace t2 := Lib.hid t2
  go_wp2_with fail
  refine (HBd.out _ k1).mono ?_
  rintro e w2 ⟨⟨q3, o3, rfl, r3, t3⟩, b2⟩
  have B2 := bstep b1 b2 b1.size
  have k2 := Nat.le_trans hB B2.size
  have HJ := Lib.hid (join_in w2 (r1.below b2) r3 k2 (by rw [t1.out, t3, List.length_take, hss.out, ← hn.out]; omega))
  replace t3 := Lib.hid t3
  go_wp2_with fail
  refine HJ.out.mono ?_
  rintro e w3 ⟨⟨q4, o4, rfl, r4, t4⟩, b3⟩
  have B3 := bstep B2 b3 B2.size
  have k3 := Nat.le_trans hB B3.size
  have HJ2 := Lib.hid (join_in w3 r4 ((r2.below b2).below b3) k3 (by rw [t4, t1.out, t2.out, t3.out, List.length_append, List.length_take, List.length_drop, hss.out, ← hn.out]; omega))
  replace t4 := Lib.hid t4
  go_wp2_with fail
  refine HJ2.out.mono ?_
  rintro e w4 ⟨⟨q5, o5, rfl, r5, t5⟩, b4⟩
  have B4 := bstep B3 b4 B3.size
  have HM := Lib.hid (made_in w4 r5 (Nat.le_trans hB B4.size))
  replace t5 := Lib.hid t5
  go_wp2_with fail
  refine HM.out.mono ?_
  rintro e w5 ⟨⟨g, tt, rfl, h1, h2, h3⟩, b5⟩
  go_wp2
  go_ret2
  exact ⟨⟨g, tt, rfl, h1, h2, by rw [h3, t5.out, t4.out, t1.out, t3.out, t2.out]⟩, bstep B4 b5 B4.size⟩

set_option maxRecDepth 100000 in
theorem delete_bad {B : Nat} {p : Option Addr} {o : Option RT} (w : World) (h : RP w B p o) (hl : (textO o).length ≤ 1000000) (f t : Int) (hn : ¬ (0 ≤ f ∧ f ≤ t ∧ t ≤ (textO o).length)) :
    Calls Tryd.prog 39 #[.pointer p, .int .i64 f, .int .i64 t] w fun e w' => e = .returned (.tuple #[.pointer none, .int .i64 1]) ∧ w' = w := by
  have HW := within_any w h hl f t
  rw [decide_eq_false hn] at HW
  replace HW := Lib.hid HW
  clear hn h
  go_enter Tryd.func39, Tryd.ntmps39
  go_wp2_with fail
  refine HW.out.mono ?_
  rintro e w' ⟨rfl, hw'⟩
  replace hw' := hw'.symm
  subst hw'
  go_wp2
  go_ret2
  exact ⟨rfl, rfl⟩

set_option maxRecDepth 100000 in
theorem delete_any {B : Nat} {p : Option Addr} {o : Option RT} (w : World) (h : RP w B p o) (hB : B ≤ w.heap.size) (hl : (textO o).length ≤ 1000000) (f t : Nat) (h1 : f ≤ t) (h2 : t ≤ (textO o).length) :
    Calls Tryd.prog 39 #[.pointer p, .int .i64 f, .int .i64 t] w fun e w' => NewPost B ((textO o).take f ++ (textO o).drop t) e w' ∧ Below w.heap.size w w' := by
  have HW := within_any w h hl f t
  rw [decide_eq_true (show (0 : Int) ≤ f ∧ (f : Int) ≤ t ∧ (t : Int) ≤ (textO o).length by omega)] at HW
  replace HW := Lib.hid HW
  have HS := Lib.hid (split_in w h hB hl f (by omega) (by omega))
  have z1 : (f : Int) ≤ 1000000 := by omega
  have z2 : (t : Int) ≤ 1000000 := by omega
  have e1 : ((f : Int)).toNat = f := by omega
  have e2 : ((t : Int) - (f : Int)).toNat = t - f := by omega
  replace e1 := Lib.hid e1
  replace e2 := Lib.hid e2
  obtain ⟨L, hL⟩ : ∃ L, L = textO o := ⟨_, rfl⟩
  rw [← hL] at HS hl h2 ⊢
  replace hL := Lib.hid hL
  clear h
  go_enter Tryd.func39, Tryd.ntmps39
  go_wp2_with fail
  refine HW.out.mono ?_
  rintro e w' ⟨rfl, hw'⟩
  replace hw' := hw'.symm
  subst hw'
  go_wp2_with fail
  refine HS.out.mono ?_
  rintro e w1 ⟨⟨q1, o1, q2, o2, rfl, r1, r2, t1, t2⟩, b1⟩
  have HS2 := split_in w1 r2 (Nat.le_trans hB b1.size) (by rw [t2, List.length_drop]; omega) ((t : Int) - (f : Int)) (by omega) (by omega)
  rw [t2, e1.out] at HS2
  rw [e1.out] at t1
  replace HS2 := Lib.hid HS2
  replace t1 := Lib.hid t1
  clear t2 r2
  go_wp2_with fail
  refine HS2.out.mono ?_
  rintro e w2 ⟨⟨q3, o3, q4, o4, rfl, r3, r4, t3, t4⟩, b2⟩
  rw [e2.out, List.drop_drop, show f + (t - f) = t by omega] at t4
  have B2 := bstep b1 b2 b1.size
  have HJ := Lib.hid (join_in w2 (r1.below b2) r4 (Nat.le_trans hB B2.size) (by rw [t1.out, t4, List.length_take, List.length_drop]; omega))
  replace t3 := Lib.hid t3
  replace t4 := Lib.hid t4
  go_wp2_with fail
  refine HJ.out.mono ?_
  rintro e w3 ⟨⟨q5, o5, rfl, r5, t5⟩, b3⟩
  have B3 := bstep B2 b3 B2.size
  have HM := Lib.hid (made_in w3 r5 (Nat.le_trans hB B3.size))
  replace t5 := Lib.hid t5
  go_wp2_with fail
  refine HM.out.mono ?_
  rintro e w5 ⟨⟨g, tt, rfl, h1, h2, h3⟩, b5⟩
  go_wp2
  go_ret2
  exact ⟨⟨g, tt, rfl, h1, h2, by rw [h3, t5.out, t1.out, t4.out]⟩, bstep B3 b5 B3.size⟩
end Go.Proofs.YtekbilieddficaaDoor
