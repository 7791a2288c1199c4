/- Chapter 4, plain Lean, on: characters stand in order; a plain text is itself. No program in sight. -/
import Derived.Test.YthbicbfdldpemaaPhSpec
namespace Go.Proofs.Ythbicbfdldpemaa

/-- one behind the other, from a place on, none beyond N -/
def Chain (N : Nat) : Nat → List Rn → Prop
  | _, [] => True
  | p, r :: rs => p ≤ r.f ∧ r.f ≤ r.t ∧ r.t ≤ N ∧ r.t - r.f ≤ 3 ∧ Chain N r.t rs

theorem Chain.weak {N p q : Nat} {l : List Rn} (h : Chain N p l) (hq : q ≤ p) : Chain N q l := by
  cases l with
  | nil => trivial
  | cons r rs => exact ⟨Nat.le_trans hq h.1, h.2⟩

theorem plainL_chain (N : Nat) : ∀ (n : Nat) (l : List UInt8) (p : Nat), l.length ≤ n → p + l.length ≤ N → Chain N p (plainL p l) := by
  intro n
  induction n with
  | zero => intro l p h _; cases l with
    | nil => simp [plainL, Chain]
    | cons a r => simp at h
  | succ n ih =>
    intro l p h hN
    match l with
    | [] => simp [plainL, Chain]
    | [a] => simp [plainL, Chain]; simp at hN; omega
    | [a, b] => simp [plainL, Chain]; simp at hN; omega
    | a :: b :: c :: r =>
      simp only [List.length_cons] at h hN
      simp only [plainL]
      split
      · exact ⟨Nat.le_refl _, by simp, by simp; omega, by simp, ih r (p + 3) (by omega) (by omega)⟩
      · exact ⟨Nat.le_refl _, by simp, by simp; omega, by simp, ih (b :: c :: r) (p + 1) (by simp; omega) (by simp; omega)⟩

theorem splicedL_chain (N : Nat) : ∀ (n : Nat) (l : List Rn) (p : Nat), l.length ≤ n → Chain N p l → Chain N p (splicedL l) := by
  intro n
  induction n with
  | zero => intro l p h _; cases l with
    | nil => simp [splicedL, Chain]
    | cons a r => simp at h
  | succ n ih =>
    intro l p h hc
    match l with
    | [] => simp [splicedL, Chain]
    | [a] => simpa [splicedL] using hc
    | a :: b :: r =>
      simp only [List.length_cons] at h
      obtain ⟨h1, h2, h3, h4, h5, h6, h7, h8, h9⟩ := hc
      simp only [splicedL]
      split
      · exact (ih r b.t (by omega) h9).weak (by omega)
      · exact ⟨h1, h2, h3, h4, ih (b :: r) a.t (by simp; omega) ⟨h5, h6, h7, h8, h9⟩⟩

theorem Chain.snoc {N : Nat} : ∀ {l : List Rn} {p : Nat} {r : Rn}, Chain N p l → p ≤ N → r.f = N → r.t = N → Chain N p (l ++ [r])
  | [], p, r, _, hp, h1, h2 => ⟨by omega, by omega, by omega, by omega, trivial⟩
  | a :: l, p, r, h, hp, h1, h2 => ⟨h.1, h.2.1, h.2.2.1, h.2.2.2.1, h.2.2.2.2.snoc h.2.2.1 h1 h2⟩

theorem standL_chain (l : List UInt8) : Chain l.length 0 (standL l) :=
  splicedL_chain _ _ _ _ (Nat.le_refl _) (plainL_chain _ _ _ _ (Nat.le_refl _) (by omega))

theorem charsL_chain (l : List UInt8) : Chain l.length 0 (charsL l) := by
  unfold charsL
  split
  · exact (standL_chain l).snoc (Nat.zero_le _) rfl rfl
  · exact standL_chain l

/-- where the one ahead ends -/
def atOf (l : List Rn) (k : Nat) : Nat := (((l.take k).getLast?).map (·.t)).getD 0

theorem atOf_zero (l : List Rn) : atOf l 0 = 0 := by simp [atOf]
theorem atOf_succ {l : List Rn} {k : Nat} {r : Rn} (h : l[k]? = some r) : atOf l (k + 1) = r.t := by
  simp [atOf, List.take_add_one, h]

theorem Chain.at {N : Nat} : ∀ {l : List Rn} {p k : Nat} {r : Rn}, Chain N p l → l[k]? = some r → ((((l.take k).getLast?).map (·.t)).getD p ≤ r.f) ∧ r.f ≤ r.t ∧ r.t ≤ N ∧ r.t - r.f ≤ 3
  | [], p, k, r, _, h => by simp at h
  | a :: l, p, 0, r, hc, h => by
    simp only [List.getElem?_cons_zero, Option.some.injEq] at h
    subst h
    exact ⟨by simpa using hc.1, hc.2.1, hc.2.2.1, hc.2.2.2.1⟩
  | a :: l, p, k + 1, r, hc, h => by
    simp only [List.getElem?_cons_succ] at h
    have := Chain.at (p := a.t) (k := k) (r := r) hc.2.2.2.2 h
    refine ⟨?_, this.2⟩
    have h1 := this.1
    rw [List.take_succ_cons]
    cases hl : l.take k with
    | nil => rw [hl] at h1; simpa using h1
    | cons b m =>
      rw [hl] at h1
      rw [List.getLast?_cons_cons]
      cases hx : (b :: m).getLast? with
      | none => simp at hx
      | some x => rw [hx] at h1; exact h1

theorem charsL_at (l : List UInt8) {k : Nat} {r : Rn} (h : (charsL l)[k]? = some r) : atOf (charsL l) k ≤ r.f ∧ r.f ≤ r.t ∧ r.t ≤ l.length ∧ r.t - r.f ≤ 3 :=
  (charsL_chain l).at h

theorem plainL_ne : ∀ (l : List UInt8) (p : Nat), l ≠ [] → plainL p l ≠ []
  | [], _, h => (h rfl).elim
  | [a], _, _ => by simp [plainL]
  | [a, b], _, _ => by simp [plainL]
  | a :: b :: c :: r, _, _ => by simp only [plainL]; split <;> simp

theorem charsL_nil (l : List UInt8) : charsL l = [] ↔ l = [] := by
  constructor
  · intro h
    unfold charsL at h
    split at h
    · simp at h
    · rename_i h1
      by_cases hl : l = []
      · exact hl
      · exact (h1 ⟨hl, .inl h⟩).elim
  · rintro rfl
    rfl

theorem charsL_last (l : List UInt8) (h : l ≠ []) : ∃ init r, charsL l = init ++ [r] ∧ r.c = 10 := by
  unfold charsL
  split
  · exact ⟨_, _, rfl, rfl⟩
  · rename_i h1
    rcases List.eq_nil_or_concat (standL l) with hn | ⟨init, r, hn⟩
    · exact (h1 ⟨h, .inl hn⟩).elim
    · rw [List.concat_eq_append] at hn
      refine ⟨init, r, hn, ?_⟩
      by_cases hr : r.c = 10
      · exact hr
      · exact (h1 ⟨h, .inr (by rw [hn]; simp [hr])⟩).elim

/-! ## a text without questions and backslashes -/

def plainB (l : List UInt8) : Bool := l.all fun c => c != 63 && c != 92

def idL : Nat → List UInt8 → List Rn
  | _, [] => []
  | p, a :: r => ⟨a, p, p + 1⟩ :: idL (p + 1) r

theorem plainL_plain : ∀ (l : List UInt8) (p : Nat), plainB l = true → plainL p l = idL p l
  | [], _, _ => rfl
  | [a], _, _ => rfl
  | [a, b], _, _ => rfl
  | a :: b :: c :: r, p, h => by
    have ha : a ≠ 63 := by simp [plainB] at h; exact h.1.1
    have hr : plainB (b :: c :: r) = true := by simp [plainB] at h ⊢; exact h.2
    simp only [plainL]
    rw [if_neg (fun hh => ha hh.1), plainL_plain (b :: c :: r) (p + 1) hr]
    rfl

theorem splicedL_no92 : ∀ (l : List Rn), (∀ r ∈ l, r.c ≠ 92) → splicedL l = l
  | [], _ => rfl
  | [a], _ => rfl
  | a :: b :: r, h => by
    simp only [splicedL]
    rw [if_neg (fun hh => h a (by simp) hh.1), splicedL_no92 (b :: r) (fun x hx => h x (by simp at hx ⊢; exact .inr hx))]

theorem idL_c : ∀ (l : List UInt8) (p : Nat), (idL p l).map (·.c) = l
  | [], _ => rfl
  | a :: r, p => by simp [idL, idL_c r (p + 1)]

theorem idL_mem : ∀ (l : List UInt8) (p : Nat) (r : Rn), r ∈ idL p l → r.c ∈ l ∧ p ≤ r.f ∧ r.t ≤ p + l.length
  | [], _, r, h => by simp [idL] at h
  | a :: l, p, r, h => by
    simp only [idL, List.mem_cons] at h
    rcases h with rfl | h
    · simp
    · have := idL_mem l (p + 1) r h
      exact ⟨by simp [this.1], by omega, by simp; omega⟩

theorem standL_plain {l : List UInt8} (h : plainB l = true) : standL l = idL 0 l := by
  unfold standL
  rw [plainL_plain l 0 h, splicedL_no92]
  intro r hr
  have := (idL_mem l 0 r hr).1
  simp only [plainB, List.all_eq_true, Bool.and_eq_true, bne_iff_ne] at h
  exact (h _ this).2

theorem backL_plain {l : List UInt8} (h : plainB l = true) : backL l 0 l.length = l := by
  unfold backL pickL
  rw [standL_plain h, List.filter_eq_self.2, idL_c]
  intro r hr
  have := idL_mem l 0 r hr
  simp
  omega

theorem idL_at : ∀ (l : List UInt8) (p k : Nat) (c : UInt8), l[k]? = some c → (idL p l)[k]? = some ⟨c, p + k, p + k + 1⟩
  | [], _, _, _, h => by simp at h
  | a :: l, p, 0, c, h => by simp at h; subst h; rfl
  | a :: l, p, k + 1, c, h => by
    simp only [List.getElem?_cons_succ] at h
    simp only [idL, List.getElem?_cons_succ]
    rw [idL_at l (p + 1) k c h]
    congr 2 <;> omega

theorem charsL_plain {l : List UInt8} (h : plainB l = true) {k : Nat} {c : UInt8} (hk : l[k]? = some c) : (charsL l)[k]? = some ⟨c, k, k + 1⟩ := by
  have := idL_at l 0 k c hk
  rw [← standL_plain h, Nat.zero_add] at this
  unfold charsL
  split
  · rw [List.getElem?_append_left (List.getElem?_eq_some_iff.1 this).1]; exact this
  · exact this

theorem plainB_snoc (l : List UInt8) (c : UInt8) : plainB (l ++ [c]) = (plainB l && (c != 63) && (c != 92)) := by
  simp [plainB, Bool.and_assoc]

end Go.Proofs.Ythbicbfdldpemaa
