/- Paths: Join (the program's and the document's), awake. -/
import Derived.Test.YtekbilieddficaaDoorPa10
namespace Go.Proofs.YtekbilieddficaaDoor
open Go.RowKit
set_option linter.unusedVariables false

/-- a text or none, as it is told -/
def resV : Option (List UInt8) → Value
  | some l => .tuple #[.string ⟨l.toArray⟩, .int .i64 0]
  | none => .tuple #[.string ⟨#[]⟩, .int .i64 1]

theorem CleanOf.eq {p : List UInt8} {e : Ending} (h : CleanOf p e) : e = .returned (resV (cleanP p)) := by
  obtain ⟨r, k, rfl, ⟨h, rfl⟩ | ⟨h, rfl, rfl⟩⟩ := h
  · rw [h]; exact congrArg (fun x => Ending.returned (.tuple #[.string x, .int .i64 0])) (str_lit rfl)
  · rw [h]; rfl

theorem pclean_res (s : ByteArray) (hs : s.size ≤ 90000) (o : Option (List UInt8)) (ho : cleanP s.data.toList = o) (w : World) : Calls Tryd.prog 60 #[.string s] w fun e w' => e = .returned (resV o) ∧ Below w.heap.size w w' :=
  (pclean_any s hs w).mono fun e w' h => ⟨by rw [← ho]; exact h.1.eq, h.2⟩
theorem rclean_res (s : ByteArray) (hs : s.size ≤ 90000) (o : Option (List UInt8)) (ho : cleanP s.data.toList = o) (w : World) : Calls Tryd.prog 61 #[.string s] w fun e w' => e = .returned (resV o) ∧ Below w.heap.size w w' :=
  (rclean_any s hs w).mono fun e w' h => ⟨by rw [← ho]; exact h.1.eq, h.2⟩

theorem pre_slash (p : ByteArray) : Lib.hasPrefix p.data.toList (⟨#[47]⟩ : ByteArray).data.toList = decide (p.data.toList.head? = some 47) := by
  cases p.data.toList with
  | nil => rfl
  | cons c cs =>
    by_cases h : c = 47
    · simp [Lib.hasPrefix, h]
    · have h2 : (47 == c) = false := by simpa using fun e => h e.symm
      simp [Lib.hasPrefix, List.isPrefixOf, h, h2]

set_option maxRecDepth 100000 in
theorem pjoin_res (d p : ByteArray) (hs : d.size + 1 + p.size ≤ 90000) (o : Option (List UInt8)) (ho : joinedP d.data.toList p.data.toList = o) (w : World) : Calls Tryd.prog 35 #[.string d, .string p] w fun e w' => e = .returned (resV o) ∧ Below w.heap.size w w' := by
  have HP := Lib.hid (Tryd.strings_HasPrefix p ⟨#[47]⟩ w)
  have hpre := pre_slash p
  unfold joinedP at ho
  by_cases h : p.data.toList.head? = some 47
  · rw [if_pos h] at ho
    rw [decide_eq_true h] at hpre
    have HC := Lib.hid (pclean_res p (by omega) o ho w)
    rw [hpre] at HP
    replace ho := Lib.hid ho
    replace hpre := Lib.hid hpre
    clear h
    go_enter Tryd.func35, Tryd.ntmps35
    go_wp2_with fail
    refine HP.out.mono ?_
    rintro e w' ⟨rfl, hw'⟩
    replace hw' := hw'.symm
    subst hw'
    go_wp2_with fail
    refine HC.out.mono ?_
    rintro e w1 ⟨rfl, hb⟩
    cases o with
    | none => unfold resV; go_wp2; go_ret2; exact ⟨rfl, hb⟩
    | some l => unfold resV; go_wp2; go_ret2; exact ⟨rfl, hb⟩
  · rw [if_neg h] at ho
    rw [decide_eq_false h] at hpre
    have h1 : d.size + 1 ≤ 9223372036854775807 := by omega
    have h2 : (d ++ (⟨#[47]⟩ : ByteArray)).size + p.size ≤ 9223372036854775807 := by rw [ByteArray.size_append]; have : (⟨#[47]⟩ : ByteArray).size = 1 := rfl; omega
    have hsz : (d ++ (⟨#[47]⟩ : ByteArray) ++ p).size ≤ 90000 := by rw [ByteArray.size_append, ByteArray.size_append]; have : (⟨#[47]⟩ : ByteArray).size = 1 := rfl; omega
    have HC := Lib.hid (pclean_res (d ++ (⟨#[47]⟩ : ByteArray) ++ p) hsz o (by rw [data_app, data_app, ← ho]; simp) w)
    rw [hpre] at HP
    replace ho := Lib.hid ho
    replace hpre := Lib.hid hpre
    replace hsz := Lib.hid hsz
    clear h
    go_enter Tryd.func35, Tryd.ntmps35
    go_wp2_with fail
    refine HP.out.mono ?_
    rintro e w' ⟨rfl, hw'⟩
    replace hw' := hw'.symm
    subst hw'
    go_wp2_with fail
    refine HC.out.mono ?_
    rintro e w1 ⟨rfl, hb⟩
    cases o with
    | none => unfold resV; go_wp2; go_ret2; exact ⟨rfl, hb⟩
    | some l => unfold resV; go_wp2; go_ret2; exact ⟨rfl, hb⟩

set_option maxRecDepth 100000 in
theorem rjoin_res (d p : ByteArray) (hs : d.size + 1 + p.size ≤ 90000) (o : Option (List UInt8)) (ho : joinedP d.data.toList p.data.toList = o) (w : World) : Calls Tryd.prog 37 #[.string d, .string p] w fun e w' => e = .returned (resV o) ∧ Below w.heap.size w w' := by
  unfold joinedP at ho
  have key : p.data.toList.head? = if h : 0 < p.size then some (p[0]'h) else none := by
    by_cases h : 0 < p.size
    · rw [dif_pos h, ← get_byte h, List.head?_eq_getElem?]
    · rw [dif_neg h]
      have : p.data.toList = [] := List.eq_nil_of_length_eq_zero (by rw [← Lib.size_eq]; omega)
      rw [this]; rfl
  have h1 : d.size + 1 ≤ 9223372036854775807 := by omega
  have h2 : (d ++ (⟨#[47]⟩ : ByteArray)).size + p.size ≤ 9223372036854775807 := by rw [ByteArray.size_append]; have : (⟨#[47]⟩ : ByteArray).size = 1 := rfl; omega
  have hsz : (d ++ (⟨#[47]⟩ : ByteArray) ++ p).size ≤ 90000 := by rw [ByteArray.size_append, ByteArray.size_append]; have : (⟨#[47]⟩ : ByteArray).size = 1 := rfl; omega
  by_cases h : p.data.toList.head? = some 47
  · rw [if_pos h] at ho
    have h0 : 0 < p.size := by
      rcases Nat.lt_or_ge 0 p.size with h' | h'
      · exact h'
      · rw [dif_neg (by omega)] at key; rw [key] at h; cases h
    rw [dif_pos h0, h] at key
    have hb0 : ((p[0]'h0).toNat : Int) = 47 := by rw [← Option.some.inj key]; rfl
    have hb : (((p[0]'h0).toNat : Int) == 47) = true := by simp [hb0]
    have f0 : (0 : Int) < (p.size : Int) := by omega
    have HC := Lib.hid (rclean_res p (by omega) o ho w)
    replace ho := Lib.hid ho
    replace key := Lib.hid key
    replace hsz := Lib.hid hsz
    clear h hb0
    go_enter Tryd.func37, Tryd.ntmps37
    go_wp2_with fail
    refine HC.out.mono ?_
    rintro e w1 ⟨rfl, hbb⟩
    cases o with
    | none => unfold resV; go_wp2; go_ret2; exact ⟨rfl, hbb⟩
    | some l => unfold resV; go_wp2; go_ret2; exact ⟨rfl, hbb⟩
  · rw [if_neg h] at ho
    have HC := Lib.hid (rclean_res (d ++ (⟨#[47]⟩ : ByteArray) ++ p) hsz o (by rw [data_app, data_app, ← ho]; simp) w)
    replace ho := Lib.hid ho
    replace hsz := Lib.hid hsz
    by_cases h0 : 0 < p.size
    · rw [dif_pos h0] at key
      have hb0 : ((p[0]'h0).toNat : Int) ≠ 47 := by
        intro e
        apply h
        rw [key]
        congr 1
        exact u8_of (n := 47) (by decide) e
      have hb : (((p[0]'h0).toNat : Int) == 47) = false := by simpa using hb0
      have f0 : (0 : Int) < (p.size : Int) := by omega
      replace key := Lib.hid key
      clear h hb0
      go_enter Tryd.func37, Tryd.ntmps37
      go_wp2_with fail
      refine HC.out.mono ?_
      rintro e w1 ⟨rfl, hbb⟩
      cases o with
      | none => unfold resV; go_wp2; go_ret2; exact ⟨rfl, hbb⟩
      | some l => unfold resV; go_wp2; go_ret2; exact ⟨rfl, hbb⟩
    · have f0 : ¬ (0 : Int) < (p.size : Int) := by omega
      replace key := Lib.hid key
      clear h
      go_enter Tryd.func37, Tryd.ntmps37
      go_wp2_with fail
      refine HC.out.mono ?_
      rintro e w1 ⟨rfl, hbb⟩
      cases o with
      | none => unfold resV; go_wp2; go_ret2; exact ⟨rfl, hbb⟩
      | some l => unfold resV; go_wp2; go_ret2; exact ⟨rfl, hbb⟩

theorem dir_lit (s : ByteArray) (hs : s.size ≤ 1000000) (r : List UInt8) (hr : DirOf s.data.toList r) (w : World) : Calls Tryd.prog 34 #[.string s] w fun e w' => e = .returned (.string ⟨r.toArray⟩) ∧ w' = w :=
  (dir_any s hs w).mono fun e w' ⟨⟨r', h1, h2⟩, h3⟩ => ⟨by rw [h1]; congr 2; exact str_lit (h2.same hr), h3⟩

end Go.Proofs.YtekbilieddficaaDoor
