/- Paths: the document's Clean. -/
import Derived.Test.YtekbilieddficaaDoorPa4
import Derived.Deep.LoopGhost
namespace Go.Proofs.YtekbilieddficaaDoor
open Go.RowKit
set_option linter.unusedVariables false

/-- What of a text's parts is left, when k of them have come. -/
def CleanAt (p : List UInt8) (k : Nat) (outs : List (List UInt8)) : Prop := ((partsL p).take k).foldl stepP (some []) = some outs

theorem CleanAt.zero (p : List UInt8) : CleanAt p 0 [] := rfl

theorem fold_succ {p s : List UInt8} {k : Nat} (hs : (partsL p)[k]? = some s) : ((partsL p).take (k + 1)).foldl stepP (some []) = stepP (((partsL p).take k).foldl stepP (some [])) s := by
  rw [List.take_add_one, hs]
  simp [List.foldl_append]

theorem CleanAt.skip {p s : List UInt8} {k : Nat} {outs : List (List UInt8)} (h : CleanAt p k outs) (hs : (partsL p)[k]? = some s) (h1 : s = [] ∨ s = [46]) : CleanAt p (k + 1) outs := by
  unfold CleanAt at *
  rw [fold_succ hs, h]
  simp only [stepP, if_pos h1]

theorem CleanAt.more {p s : List UInt8} {k : Nat} {outs : List (List UInt8)} (h : CleanAt p k outs) (hs : (partsL p)[k]? = some s) (h1 : s ≠ []) (h2 : s ≠ [46]) (h3 : s ≠ [46, 46]) : CleanAt p (k + 1) (outs ++ [s]) := by
  unfold CleanAt at *
  rw [fold_succ hs, h]
  simp only [stepP, h1, h2, h3, or_self, if_false]

theorem CleanAt.up {p s : List UInt8} {k : Nat} {outs : List (List UInt8)} (h : CleanAt p k outs) (hs : (partsL p)[k]? = some s) (h1 : s = [46, 46]) (h2 : outs ≠ []) : CleanAt p (k + 1) outs.dropLast := by
  unfold CleanAt at *
  subst h1
  rw [fold_succ hs, h]
  simp [stepP, h2]

theorem CleanAt.fail {p s : List UInt8} {k : Nat} (h : CleanAt p k []) (hs : (partsL p)[k]? = some s) (h1 : s = [46, 46]) : cleanP p = none := by
  subst h1
  have hf := fold_succ hs
  rw [h] at hf
  unfold cleanP
  rw [← List.take_append_drop (k + 1) (partsL p), List.foldl_append, hf]
  have : stepP (some []) ([46, 46] : List UInt8) = none := by simp [stepP]
  rw [this, fold_none]

theorem CleanAt.done {p : List UInt8} {k : Nat} {outs : List (List UInt8)} (h : CleanAt p k outs) (hk : (partsL p).length ≤ k) : cleanP p = if ValidP (joinP outs) then some (joinP outs) else none := by
  unfold CleanAt at h
  rw [List.take_of_length_le hk] at h
  unfold cleanP
  rw [h]

/-- how long a list of parts is, with a slash for each -/
def costP (l : List (List UInt8)) : Nat := (l.map fun s => s.length + 1).sum

theorem costP_app (a b : List (List UInt8)) : costP (a ++ b) = costP a + costP b := by simp [costP]

theorem costP_parts (p : List UInt8) : costP (partsL p) = p.length + 1 := by
  induction p with
  | nil => rfl
  | cons c cs ih =>
    simp only [partsL]
    split
    · simp only [costP, List.map_cons, List.sum_cons, List.length_nil] at ih ⊢
      rw [ih]; simp; omega
    · cases hp : partsL cs with
      | nil => exact (partsL_ne cs hp).elim
      | cons q qs =>
        rw [hp] at ih
        simp only [costP, List.map_cons, List.sum_cons, List.length_cons] at ih ⊢
        omega

theorem joinP_cost (l : List (List UInt8)) : (joinP l).length ≤ costP l := by
  cases l with
  | nil => simp [joinP, costP]
  | cons a r =>
    have : ((r.map fun s => (47 : UInt8) :: s).flatten).length = costP r := by
      induction r with
      | nil => rfl
      | cons b r ih => simp only [List.map_cons, List.flatten_cons, List.length_append, List.length_cons, ih]; simp [costP]
    simp only [joinP, List.length_append, this]
    simp only [costP, List.map_cons, List.sum_cons]
    omega

theorem costP_len (l : List (List UInt8)) : l.length ≤ costP l := by
  induction l with
  | nil => simp
  | cons a r ih => simp only [costP, List.map_cons, List.sum_cons, List.length_cons] at ih ⊢; omega

theorem costP_drop (l : List (List UInt8)) : costP l.dropLast ≤ costP l := by
  rcases List.eq_nil_or_concat l with rfl | ⟨L, x, rfl⟩
  · simp
  · rw [List.concat_eq_append, List.dropLast_concat, costP_app]; omega

theorem CleanAt.cost {p : List UInt8} {k : Nat} {outs : List (List UInt8)} (h : CleanAt p k outs) : costP outs ≤ p.length + 1 := by
  have key : ∀ (ss l0 l : List (List UInt8)), ss.foldl stepP (some l0) = some l → costP l ≤ costP l0 + costP ss := by
    intro ss
    induction ss with
    | nil => intro l0 l h; simp at h; subst h; simp
    | cons a r ih =>
      intro l0 l h
      have hc : costP (a :: r) = a.length + 1 + costP r := by simp [costP]
      simp only [List.foldl, stepP] at h
      split at h
      · have := ih _ _ h; omega
      · split at h
        · split at h
          · rw [fold_none] at h; cases h
          · have := ih _ _ h
            have := costP_drop l0
            omega
        · have := ih _ _ h
          rw [costP_app] at this
          have h1 : costP [a] = a.length + 1 := by simp [costP]
          omega
  have h1 := key _ _ _ h
  have h2 := costP_parts p
  have h3 : costP ((partsL p).take k) ≤ costP (partsL p) := by
    rw [← List.take_append_drop k (partsL p), costP_app]
    simp
  have : costP [] = 0 := rfl
  omega

/-- what Clean tells -/
def CleanOf (p : List UInt8) (e : Ending) : Prop := ∃ (r : ByteArray) (k : Int), e = .returned (.tuple #[.string r, .int .i64 k]) ∧ ((cleanP p = some r.data.toList ∧ k = 0) ∨ (cleanP p = none ∧ r = ⟨#[]⟩ ∧ k = 1))

theorem own_new0 (w : World) (e sz : Nat) : Own (w.alloc (.cells #[] e)) w.heap.size e sz (.slice (some ⟨w.heap.size, 0, none⟩) 0 0) [] :=
  ⟨⟨by simp, .inr ⟨w.heap.size, 0, #[], rfl, Nat.le_refl _, heap_alloc_new w _, Nat.le_refl _, Nat.zero_le _, by simp, by simp⟩⟩, by simp⟩

theorem own_pop {w : World} {B e sz g n cap : Nat} {css : List (List Value)} (h : Own w B e sz (.slice (some ⟨g, 0, none⟩) (n + 1) cap) css) : Own w B e sz (.slice (some ⟨g, 0, none⟩) n cap) css.dropLast := by
  obtain ⟨ao, cap', hv, _⟩ := h.row
  simp only [Value.slice.injEq] at hv
  have hl : css.length = n + 1 := hv.2.1.symm
  rcases List.eq_nil_or_concat css with rfl | ⟨L, x, rfl⟩
  · simp at hl
  · rw [List.concat_eq_append] at *
    rw [List.dropLast_concat]
    have hn : L.length = n := by simpa using hl
    obtain ⟨h1, h2⟩ := h
    have h2' : ∀ c ∈ L, c.length = sz := fun c hc => h2 c (by simp [hc])
    refine ⟨?_, h2'⟩
    rw [List.length_append, List.length_singleton, List.flatten_append, hn] at h1
    have := ownsRow_pop (xs := L.flatten) (last := [x].flatten) (by rw [flatten_len h2', hn]) h1
    rw [hn]
    exact this

theorem txs_app (a b : List ByteArray) : txs (a ++ b) = txs a ++ txs b := by simp [txs]
theorem txs_drop (a : List ByteArray) : txs a.dropLast = (txs a).dropLast := by simp [txs, List.map_dropLast]
theorem strs_drop (a : List ByteArray) : strs a.dropLast = (strs a).dropLast := by simp [strs, List.map_dropLast]
theorem strs_app (a b : List ByteArray) : strs (a ++ b) = strs a ++ strs b := by simp [strs]
theorem strs_len (a : List ByteArray) : (strs a).length = a.length := by simp [strs]
theorem strs_one {a : List ByteArray} : ∀ cs ∈ strs a, cs.length = 1 := by intro cs h; unfold strs at h; obtain ⟨p, _, rfl⟩ := List.mem_map.1 h; rfl
theorem strs_cell {a : List ByteArray} : ∀ cs ∈ strs a, ∀ u ∈ cs, u.oneCell' = true := by intro cs h u hu; unfold strs at h; obtain ⟨p, _, rfl⟩ := List.mem_map.1 h; simp at hu; subst hu; rfl

end Go.Proofs.YtekbilieddficaaDoor
