/- Chapter 2 in plain Lean: paths, as lists of bytes; and the laws that PathsKeep and PathsParts ask. -/
import Derived.Test.YtekbilieddficaaDoorBase
namespace Go.Proofs.YtekbilieddficaaDoor
set_option linter.unusedVariables false

/-- A text at each slash. -/
def partsL : List UInt8 → List (List UInt8)
  | [] => [[]]
  | c :: cs => if c = 47 then [] :: partsL cs else match partsL cs with
    | [] => [[c]]
    | p :: ps => (c :: p) :: ps

/-- A byte that may stand in a part. -/
def NamedB (c : UInt8) : Prop := (97 ≤ c.toNat ∧ c.toNat ≤ 122) ∨ (65 ≤ c.toNat ∧ c.toNat ≤ 90) ∨ (48 ≤ c.toNat ∧ c.toNat ≤ 57) ∨ c.toNat = 46 ∨ c.toNat = 45 ∨ c.toNat = 95

instance (c : UInt8) : Decidable (NamedB c) := by unfold NamedB; infer_instance

/-- May a part be? -/
def PartOk (s : List UInt8) : Prop := s ≠ [] ∧ s.length ≤ 20 ∧ s ≠ [46] ∧ s ≠ [46, 46] ∧ ∀ c ∈ s, NamedB c

instance (s : List UInt8) : Decidable (PartOk s) := by unfold PartOk; infer_instance

/-- Is it a path? -/
def ValidP (p : List UInt8) : Prop := p.length ≤ 80 ∧ ∀ s ∈ partsL p, PartOk s

instance (p : List UInt8) : Decidable (ValidP p) := by unfold ValidP; infer_instance

/-- One part more. -/
def stepP (o : Option (List (List UInt8))) (s : List UInt8) : Option (List (List UInt8)) :=
  match o with
  | none => none
  | some l => if s = [] ∨ s = [46] then some l else if s = [46, 46] then (if l = [] then none else some l.dropLast) else some (l ++ [s])

/-- Parts with a slash between. -/
def joinP : List (List UInt8) → List UInt8
  | [] => []
  | a :: r => a ++ (r.map fun s => 47 :: s).flatten

def cleanP (p : List UInt8) : Option (List UInt8) :=
  match (partsL p).foldl stepP (some []) with
  | none => none
  | some l => if ValidP (joinP l) then some (joinP l) else none

def joinedP (d p : List UInt8) : Option (List UInt8) := if p.head? = some 47 then cleanP p else cleanP (d ++ 47 :: p)

/-- What stands ahead of the last slash. -/
def DirOf (p r : List UInt8) : Prop := (∃ k, p[k]? = some 47 ∧ (∀ j, k < j → p[j]? ≠ some 47) ∧ r = p.take k) ∨ ((∀ c ∈ p, c ≠ 47) ∧ r = [])

theorem DirOf.same {p r r' : List UInt8} (h : DirOf p r) (h' : DirOf p r') : r = r' := by
  rcases h with ⟨k, h1, h2, rfl⟩ | ⟨h1, rfl⟩
  · rcases h' with ⟨k', g1, g2, rfl⟩ | ⟨g1, rfl⟩
    · have : k = k' := by
        rcases Nat.lt_trichotomy k k' with h | h | h
        · exact (h2 k' h g1).elim
        · exact h
        · exact (g2 k h h1).elim
      rw [this]
    · exact (g1 47 (List.mem_of_getElem? h1) rfl).elim
  · rcases h' with ⟨k', g1, g2, rfl⟩ | ⟨g1, rfl⟩
    · exact (h1 47 (List.mem_of_getElem? g1) rfl).elim
    · rfl

theorem partsL_ne (p : List UInt8) : partsL p ≠ [] := by
  cases p with
  | nil => simp [partsL]
  | cons c cs =>
    simp only [partsL]
    split
    · simp
    · split <;> simp

theorem partsL_app (a b : List UInt8) : partsL (a ++ 47 :: b) = partsL a ++ partsL b := by
  induction a with
  | nil => simp [partsL]
  | cons c cs ih =>
    simp only [List.cons_append, partsL, ih]
    by_cases h : c = 47
    · simp [h]
    · simp only [h, if_false]
      cases hp : partsL cs with
      | nil => exact (partsL_ne cs hp).elim
      | cons p ps => simp

theorem partsL_one {a : List UInt8} (h : ∀ c ∈ a, c ≠ 47) : partsL a = [a] := by
  induction a with
  | nil => rfl
  | cons c cs ih =>
    simp only [partsL, if_neg (h c (by simp)), ih (fun x hx => h x (by simp [hx]))]

theorem partsL_noslash {p : List UInt8} : ∀ s ∈ partsL p, ∀ c ∈ s, c ≠ 47 := by
  induction p with
  | nil => simp [partsL]
  | cons c cs ih =>
    intro s hs x hx
    simp only [partsL] at hs
    by_cases h : c = 47
    · simp only [h, if_true, List.mem_cons] at hs
      rcases hs with rfl | hs
      · simp at hx
      · exact ih s hs x hx
    · simp only [h, if_false] at hs
      cases hp : partsL cs with
      | nil => exact (partsL_ne cs hp).elim
      | cons p ps =>
        rw [hp] at hs ih
        simp only [List.mem_cons] at hs
        rcases hs with rfl | hs
        · simp only [List.mem_cons] at hx
          rcases hx with rfl | hx
          · exact h
          · exact ih p (by simp) x hx
        · exact ih s (by simp [hs]) x hx

theorem joinP_cons (a b : List UInt8) (r : List (List UInt8)) : joinP (a :: b :: r) = a ++ 47 :: joinP (b :: r) := by simp [joinP]

theorem parts_join {l : List (List UInt8)} (hn : l ≠ []) (h : ∀ s ∈ l, ∀ c ∈ s, c ≠ 47) : partsL (joinP l) = l := by
  induction l with
  | nil => exact (hn rfl).elim
  | cons a r ih =>
    cases r with
    | nil => simp only [joinP, List.map_nil, List.flatten_nil, List.append_nil]; exact partsL_one (h a (by simp))
    | cons b r =>
      rw [joinP_cons, partsL_app, partsL_one (h a (by simp)), ih (by simp) (fun s hs => h s (by simp [hs]))]
      rfl

theorem join_parts (p : List UInt8) : joinP (partsL p) = p := by
  induction p with
  | nil => rfl
  | cons c cs ih =>
    simp only [partsL]
    by_cases h : c = 47
    · rw [if_pos h]
      cases hp : partsL cs with
      | nil => exact (partsL_ne cs hp).elim
      | cons p ps =>
        rw [joinP_cons, ← hp, ih, h]
        rfl
    · rw [if_neg h]
      cases hp : partsL cs with
      | nil => exact (partsL_ne cs hp).elim
      | cons p ps =>
        rw [hp] at ih
        simp only [joinP, List.cons_append] at ih ⊢
        rw [ih]

theorem joinP_app {l m : List (List UInt8)} (hl : l ≠ []) (hm : m ≠ []) : joinP (l ++ m) = joinP l ++ 47 :: joinP m := by
  induction l with
  | nil => exact (hl rfl).elim
  | cons a r ih =>
    cases r with
    | nil =>
      cases m with
      | nil => exact (hm rfl).elim
      | cons b m => simp only [List.cons_append, List.nil_append, joinP_cons]; simp [joinP]
    | cons b r =>
      have := ih (by simp)
      simp only [List.cons_append, joinP_cons] at this ⊢
      rw [this]
      simp

/-- A part that is neither empty nor dots. -/
def NiceP (s : List UInt8) : Prop := s ≠ [] ∧ s ≠ [46] ∧ s ≠ [46, 46] ∧ ∀ c ∈ s, c ≠ 47

theorem PartOk.nice {s : List UInt8} (h : PartOk s) : NiceP s :=
  ⟨h.1, h.2.2.1, h.2.2.2.1, fun c hc e => by subst e; have := h.2.2.2.2 47 hc; revert this; decide⟩

theorem fold_none (l : List (List UInt8)) : l.foldl stepP none = none := by
  induction l with
  | nil => rfl
  | cons a r ih => simpa [List.foldl, stepP] using ih

theorem fold_nice {l0 l : List (List UInt8)} (h : ∀ s ∈ l, NiceP s) : l.foldl stepP (some l0) = some (l0 ++ l) := by
  induction l generalizing l0 with
  | nil => simp
  | cons a r ih =>
    obtain ⟨h1, h2, h3, _⟩ := h a (by simp)
    simp only [List.foldl, stepP, h1, h2, h3, or_self, if_false]
    rw [ih (fun s hs => h s (by simp [hs]))]
    simp

theorem fold_inv {ss l0 l : List (List UInt8)} (hss : ∀ s ∈ ss, ∀ c ∈ s, c ≠ 47) (h0 : ∀ s ∈ l0, NiceP s) (h : ss.foldl stepP (some l0) = some l) : ∀ s ∈ l, NiceP s := by
  induction ss generalizing l0 with
  | nil => simp at h; subst h; exact h0
  | cons a r ih =>
    simp only [List.foldl, stepP] at h
    have hr := fun s hs => hss s (List.mem_cons_of_mem a hs)
    by_cases h1 : a = [] ∨ a = [46]
    · rw [if_pos h1] at h
      exact ih hr h0 h
    · rw [if_neg h1] at h
      by_cases h2 : a = [46, 46]
      · rw [if_pos h2] at h
        by_cases h3 : l0 = []
        · rw [if_pos h3, fold_none] at h
          cases h
        · rw [if_neg h3] at h
          exact ih hr (fun s hs => h0 s (List.dropLast_subset l0 hs)) h
      · rw [if_neg h2] at h
        refine ih hr ?_ h
        intro s hs
        rcases List.mem_append.1 hs with hs | hs
        · exact h0 s hs
        · simp only [List.mem_singleton] at hs
          subst hs
          exact ⟨fun e => h1 (.inl e), fun e => h1 (.inr e), h2, hss s (by simp)⟩

theorem validP_clean {a : List UInt8} (h : ValidP a) : cleanP a = some a := by
  unfold cleanP
  rw [fold_nice (fun s hs => (h.2 s hs).nice)]
  simp only [List.nil_append, join_parts]
  rw [if_pos h]

theorem cleanP_valid {p a : List UInt8} (h : cleanP p = some a) : ValidP a := by
  unfold cleanP at h
  split at h
  · cases h
  · split at h
    · rename_i hv
      simp only [Option.some.injEq] at h
      subst h
      exact hv
    · cases h

theorem cleanP_same {p a : List UInt8} (h : cleanP p = some a) : cleanP a = some a := validP_clean (cleanP_valid h)

theorem cleanP_not {p : List UInt8} (h : cleanP p = none) : ¬ ValidP p := fun hv => by rw [validP_clean hv] at h; cases h

theorem fold_dotted (l : List (List UInt8)) (l0 : List (List UInt8)) : (([46] : List UInt8) :: l ++ [[46]]).foldl stepP (some l0) = l.foldl stepP (some l0) := by
  have h1 : ∀ o, stepP o [46] = o := by intro o; cases o <;> simp [stepP]
  simp [List.foldl_append, h1]

theorem clean_dotted (p : List UInt8) : cleanP ([46, 47] ++ p ++ [47, 46]) = cleanP p := by
  have hp : partsL ([46, 47] ++ p ++ [47, 46]) = ([46] : List UInt8) :: partsL p ++ [[46]] := by
    have h1 : ([46, 47] ++ p ++ [47, 46] : List UInt8) = [46] ++ 47 :: (p ++ 47 :: [46]) := by simp
    rw [h1, partsL_app, partsL_app, partsL_one (a := [46]) (by decide)]
    simp
  unfold cleanP
  rw [hp, fold_dotted]

theorem valid_head {a : List UInt8} (h : ValidP a) : a.head? ≠ some 47 := by
  cases a with
  | nil => simp
  | cons c cs =>
    intro e
    simp only [List.head?_cons, Option.some.injEq] at e
    subst e
    exact (h.2 [] (by simp [partsL])).1 rfl

theorem parts_ok_clean {l : List (List UInt8)} {p : List UInt8} (hl : l ≠ []) (hok : ∀ s ∈ l, PartOk s) (hf : (partsL p).foldl stepP (some []) = some l) :
    cleanP p = if (joinP l).length ≤ 80 then some (joinP l) else none := by
  have hv : ValidP (joinP l) ↔ (joinP l).length ≤ 80 := by
    unfold ValidP
    rw [parts_join hl (fun s hs => (hok s hs).nice.2.2.2)]
    exact ⟨fun h => h.1, fun h => ⟨h, hok⟩⟩
  unfold cleanP
  rw [hf]
  simp only [hv]

theorem joined_keep {d a : List UInt8} (hd : ValidP d) (ha : ValidP a) : joinedP d a = if d.length + 1 + a.length ≤ 80 then some (d ++ 47 :: a) else none := by
  unfold joinedP
  rw [if_neg (valid_head ha)]
  have hf : (partsL (d ++ 47 :: a)).foldl stepP (some []) = some (partsL d ++ partsL a) := by
    rw [partsL_app, fold_nice (fun s hs => ?_)]
    · simp
    · rcases List.mem_append.1 hs with hs | hs
      · exact (hd.2 s hs).nice
      · exact (ha.2 s hs).nice
  rw [parts_ok_clean (by simp [partsL_ne]) (fun s hs => ?_) hf, joinP_app (partsL_ne d) (partsL_ne a), join_parts, join_parts]
  · simp only [List.length_append, List.length_cons]
    have h1 : d.length + (a.length + 1) = d.length + 1 + a.length := by omega
    rw [h1]
  · rcases List.mem_append.1 hs with hs | hs
    · exact hd.2 s hs
    · exact ha.2 s hs

/-- So many times up. -/
def upsP : Nat → List UInt8
  | 0 => []
  | k + 1 => upsP k ++ [46, 46, 47]

theorem upsP_front (k : Nat) : upsP (k + 1) = [46, 46, 47] ++ upsP k := by
  induction k with
  | zero => rfl
  | succ k ih =>
    have h1 : upsP (k + 1 + 1) = upsP (k + 1) ++ [46, 46, 47] := rfl
    have h2 : upsP (k + 1) = upsP k ++ [46, 46, 47] := rfl
    rw [h1, ih, List.append_assoc, ← h2, ih]

theorem parts_ups (k : Nat) (a : List UInt8) : partsL (upsP k ++ a) = List.replicate k [46, 46] ++ partsL a := by
  induction k with
  | zero => simp [upsP]
  | succ k ih =>
    rw [upsP_front]
    have h1 : ([46, 46, 47] ++ upsP k ++ a : List UInt8) = [46, 46] ++ 47 :: (upsP k ++ a) := by simp
    rw [h1, partsL_app, ih, partsL_one (a := [46, 46]) (by decide), List.replicate_succ]
    rfl

theorem fold_ups (k : Nat) (l : List (List UInt8)) : (List.replicate k ([46, 46] : List UInt8)).foldl stepP (some l) = if k ≤ l.length then some (l.take (l.length - k)) else none := by
  induction k generalizing l with
  | zero => simp
  | succ k ih =>
    rw [List.replicate_succ, List.foldl_cons]
    by_cases h : l = []
    · subst h
      have : stepP (some []) [46, 46] = none := by simp [stepP]
      rw [this, fold_none]
      simp
    · have : stepP (some l) [46, 46] = some l.dropLast := by simp [stepP, h]
      rw [this, ih]
      have hl : 0 < l.length := List.length_pos_iff.2 h
      rw [List.length_dropLast]
      by_cases hk : k + 1 ≤ l.length
      · rw [if_pos (by omega), if_pos hk, List.dropLast_eq_take, List.take_take]
        congr 2
        omega
      · rw [if_neg (by omega), if_neg hk]

theorem joined_back {d a : List UInt8} (hd : ValidP d) (ha : ValidP a) : joinedP d (upsP (partsL d).length ++ a) = some a := by
  unfold joinedP
  obtain ⟨k, hk⟩ : ∃ k, (partsL d).length = k + 1 := ⟨(partsL d).length - 1, by have := List.length_pos_iff.2 (partsL_ne d); omega⟩
  have hh : (upsP (partsL d).length ++ a).head? ≠ some 47 := by rw [hk, upsP_front]; simp
  rw [if_neg hh]
  have hf : (partsL (d ++ 47 :: (upsP (partsL d).length ++ a))).foldl stepP (some []) = some (partsL a) := by
    rw [partsL_app, parts_ups, List.foldl_append, fold_nice (fun s hs => (hd.2 s hs).nice), List.foldl_append, fold_ups]
    simp only [List.nil_append, Nat.le_refl, if_true, Nat.sub_self, List.take_zero]
    rw [fold_nice (fun s hs => (ha.2 s hs).nice)]
    simp
  rw [parts_ok_clean (partsL_ne a) ha.2 hf, join_parts, if_pos ha.1]

/-- So many times up, behind. -/
def downP : Nat → List UInt8
  | 0 => []
  | k + 1 => downP k ++ [47, 46, 46]

theorem parts_down (a : List UInt8) (k : Nat) : partsL (a ++ downP k) = partsL a ++ List.replicate k [46, 46] := by
  induction k with
  | zero => simp [downP]
  | succ k ih =>
    have h1 : (a ++ downP (k + 1) : List UInt8) = (a ++ downP k) ++ 47 :: [46, 46] := by simp [downP]
    rw [h1, partsL_app, ih, partsL_one (a := [46, 46]) (by decide), List.replicate_succ']
    simp

theorem join_len {l : List (List UInt8)} (h : ∀ s ∈ l, s.length ≤ 10) : (joinP l).length + 1 ≤ 11 * l.length + 1 := by
  cases l with
  | nil => simp [joinP]
  | cons a r =>
    have : ((r.map fun s => (47 : UInt8) :: s).flatten).length ≤ 11 * r.length := by
      induction r with
      | nil => simp
      | cons b r ih =>
        simp only [List.map_cons, List.flatten_cons, List.length_append, List.length_cons]
        have h1 := h b (by simp)
        have h2 := ih (fun s hs => h s (by rcases List.mem_cons.1 hs with rfl | hs <;> simp [*]))
        omega
    have h1 := h a (by simp)
    simp only [joinP, List.length_append, List.length_cons]
    omega

theorem clean_down {l : List (List UInt8)} (hl : l ≠ []) (hok : ∀ s ∈ l, PartOk s) (h10 : ∀ s ∈ l, s.length ≤ 10) (h6 : l.length ≤ 6) (k : Nat) :
    cleanP (joinP l ++ downP k) = if k < l.length then some (joinP (l.take (l.length - k))) else none := by
  have hf : (partsL (joinP l ++ downP k)).foldl stepP (some []) = if k ≤ l.length then some (l.take (l.length - k)) else none := by
    rw [parts_down, parts_join hl (fun s hs => (hok s hs).nice.2.2.2), List.foldl_append, fold_nice (fun s hs => (hok s hs).nice), List.nil_append, fold_ups]
  by_cases h : k ≤ l.length
  · rw [if_pos h] at hf
    by_cases h2 : k < l.length
    · rw [if_pos h2]
      have hln : (l.take (l.length - k)).length = l.length - k := by rw [List.length_take]; omega
      rw [parts_ok_clean (by intro e; rw [e] at hln; simp at hln; omega) (fun s hs => hok s (List.mem_of_mem_take hs)) hf, if_pos]
      have := join_len (l := l.take (l.length - k)) (fun s hs => h10 s (List.mem_of_mem_take hs))
      omega
    · rw [if_neg h2]
      have : l.length - k = 0 := by omega
      rw [this, List.take_zero] at hf
      unfold cleanP
      rw [hf]
      have : ¬ ValidP (joinP []) := by decide
      simp only [this, if_false]
  · rw [if_neg h] at hf
    rw [if_neg (by omega)]
    unfold cleanP
    rw [hf]

theorem clean_slashed {l : List (List UInt8)} (hl : l ≠ []) (hok : ∀ s ∈ l, PartOk s) (h10 : ∀ s ∈ l, s.length ≤ 10) (h6 : l.length ≤ 6) :
    cleanP ([47, 47] ++ joinP l ++ [47, 47, 46]) = some (joinP l) := by
  have hp : partsL ([47, 47] ++ joinP l ++ [47, 47, 46]) = [[], []] ++ l ++ [[], [46]] := by
    have h1 : ([47, 47] ++ joinP l ++ [47, 47, 46] : List UInt8) = [] ++ 47 :: ([] ++ 47 :: (joinP l ++ 47 :: ([] ++ 47 :: [46]))) := by simp
    rw [h1, partsL_app, partsL_app, partsL_app, partsL_app, parts_join hl (fun s hs => (hok s hs).nice.2.2.2)]
    simp [partsL]
  have hf : (partsL ([47, 47] ++ joinP l ++ [47, 47, 46])).foldl stepP (some []) = some l := by
    have e1 : ∀ o, stepP o [] = o := by intro o; cases o <;> simp [stepP]
    have e2 : ∀ o, stepP o [46] = o := by intro o; cases o <;> simp [stepP]
    rw [hp, List.foldl_append, List.foldl_append]
    simp only [List.foldl, e1, e2]
    rw [fold_nice (fun s hs => (hok s hs).nice)]
    simp
  rw [parts_ok_clean hl hok hf, if_pos]
  have := join_len h10
  omega

theorem join_valid {l : List (List UInt8)} (hl : l ≠ []) (hok : ∀ s ∈ l, PartOk s) (h10 : ∀ s ∈ l, s.length ≤ 10) (h6 : l.length ≤ 6) : ValidP (joinP l) := by
  unfold ValidP
  rw [parts_join hl (fun s hs => (hok s hs).nice.2.2.2)]
  have := join_len h10
  exact ⟨by omega, hok⟩

theorem dir_one {a : List UInt8} (h : ∀ c ∈ a, c ≠ 47) : DirOf a [] := .inr ⟨h, rfl⟩

theorem dir_app {a b : List UInt8} (h : ∀ c ∈ b, c ≠ 47) : DirOf (a ++ 47 :: b) a := by
  refine .inl ⟨a.length, by simp, ?_, by simp⟩
  intro j hj e
  rw [List.getElem?_append_right (by omega)] at e
  obtain ⟨i, hi⟩ : ∃ i, j - a.length = i + 1 := ⟨j - a.length - 1, by omega⟩
  rw [hi, List.getElem?_cons_succ] at e
  exact h 47 (List.mem_of_getElem? e) rfl

end Go.Proofs.YtekbilieddficaaDoor
