/- MeterCounts: the law in plain Lean: a list of names in order, and a map of numbers. -/
import Derived.Test.YtcfadekcdcphnaaMe1
namespace Go.Proofs.Ytcfadekcdcphnaa
open Go.RowKit
set_option linter.unusedVariables false

def kB (p : ByteArray × Int) : List UInt8 := p.1.data.toList

theorem ba_eq {a b : ByteArray} (h : a.data.toList = b.data.toList) : a = b := by
  cases a with | mk x => cases b with | mk y => exact congrArg ByteArray.mk (Array.toList_inj.1 h)

def Rise (L : List (ByteArray × Int)) : Prop := L.Pairwise fun p q => kB p < kB q

theorem Rise.nd {L : List (ByteArray × Int)} (h : Rise L) : (L.map (·.1)).Nodup := by
  unfold List.Nodup
  rw [List.pairwise_map]
  refine List.Pairwise.imp (fun {p q} hpq e => ?_) h
  unfold kB at hpq
  rw [e] at hpq
  exact List.lt_irrefl _ hpq

theorem numOf_mem {L : List (ByteArray × Int)} (h : (L.map (·.1)).Nodup) {n : ByteArray} {v : Int} (hm : (n, v) ∈ L) : numOf L n = v := by
  induction L with
  | nil => simp at hm
  | cons q L ih =>
    rw [List.map_cons, List.nodup_cons] at h
    unfold numOf
    rcases List.mem_cons.1 hm with e | hm
    · subst e
      simp
    · have hq : q.1 ≠ n := fun e => h.1 (by rw [e]; exact List.mem_map.2 ⟨_, hm, rfl⟩)
      simp only [List.find?_cons, hq, decide_false]
      exact ih h.2 hm

theorem numOf_not {L : List (ByteArray × Int)} {n : ByteArray} (h : ∀ p ∈ L, p.1 ≠ n) : numOf L n = 0 := by
  unfold numOf
  rw [List.find?_eq_none.2 (fun p hp => by simpa using h p hp)]
  rfl

theorem numOf_cases (L : List (ByteArray × Int)) (n : ByteArray) : (n, numOf L n) ∈ L ∨ (numOf L n = 0 ∧ ∀ p ∈ L, p.1 ≠ n) := by
  unfold numOf
  cases hf : L.find? fun p => decide (p.1 = n) with
  | none =>
    refine .inr ⟨rfl, fun p hp => ?_⟩
    simpa using List.find?_eq_none.1 hf p hp
  | some q =>
    have h1 : q.1 = n := by simpa using List.find?_some hf
    refine .inl ?_
    simp only [Option.map_some, Option.getD_some]
    rw [← h1]
    exact List.mem_of_find?_eq_some hf

theorem numOf_same {L L' : List (ByteArray × Int)} (h : (L.map (·.1)).Nodup) (h' : (L'.map (·.1)).Nodup) {n : ByteArray} (hm : ∀ v, (n, v) ∈ L ↔ (n, v) ∈ L') : numOf L n = numOf L' n := by
  rcases numOf_cases L n with h1 | ⟨h1, h2⟩
  · exact (numOf_mem h' ((hm _).1 h1)).symm
  · rw [h1, numOf_not]
    intro p hp e
    obtain ⟨a, b⟩ := p
    simp only at e
    subst e
    exact h2 _ ((hm b).2 hp) rfl

structure MInv (L M : List (ByteArray × Int)) : Prop where
  rise : Rise L
  vals : ∀ p ∈ L, 0 ≤ p.2 ∧ p.2 ≤ 4611686018427387904
  same : ∀ n, numOf M n = numOf L n
  pos : ∀ p ∈ M, 0 < p.2

theorem minv_nil : MInv [] [] := ⟨List.Pairwise.nil, by simp, fun _ => rfl, by simp⟩

theorem rise_split {L : List (ByteArray × Int)} (h : Rise L) {k : Nat} {nb : List UInt8} (lo : ∀ (j : Nat) p, j < k → L[j]? = some p → kB p < nb) (hi : ∀ p, L[k]? = some p → ¬ kB p < nb) :
    (∀ p ∈ L.take k, kB p < nb) ∧ ∀ p ∈ L.drop k, ¬ kB p < nb := by
  constructor
  · intro p hp
    obtain ⟨j, hj⟩ := List.getElem?_of_mem hp
    have hjk : j < k := by
      have := (List.getElem?_eq_some_iff.1 hj).1
      rw [List.length_take] at this
      omega
    rw [List.getElem?_take_of_lt hjk] at hj
    exact lo j p hjk hj
  · intro p hp
    obtain ⟨j, hj⟩ := List.getElem?_of_mem hp
    rw [List.getElem?_drop] at hj
    by_cases hj0 : j = 0
    · subst hj0
      exact hi p hj
    · intro hlt
      have h1 := (List.getElem?_eq_some_iff.1 hj).1
      have hk : L[k]? = some (L[k]'(by omega)) := List.getElem?_eq_getElem _
      have := (List.pairwise_iff_getElem.1 h) k (k + j) (by omega) h1 (by omega)
      rw [(List.getElem?_eq_some_iff.1 hj).2] at this
      exact hi _ hk (List.lt_trans this hlt)

structure MMid (L P R : List (ByteArray × Int)) (n : ByteArray) (x : Int) : Prop where
  lo : ∀ p ∈ P, kB p < n.data.toList
  hi : ∀ p ∈ R, n.data.toList < kB p
  riseP : Rise P
  riseR : Rise R
  val : numOf L n = x
  oth : ∀ m v, m ≠ n → ((m, v) ∈ L ↔ (m, v) ∈ P ∨ (m, v) ∈ R)
  x0 : 0 ≤ x ∧ x ≤ 4611686018427387904

theorem mid_new {L : List (ByteArray × Int)} (h : Rise L) {k : Nat} {n : ByteArray} (lo : ∀ (j : Nat) p, j < k → L[j]? = some p → kB p < n.data.toList) (hi : ∀ p, L[k]? = some p → ¬ kB p < n.data.toList ∧ p.1 ≠ n) : MMid L (L.take k) (L.drop k) n 0 := by
  obtain ⟨h1, h2⟩ := rise_split h lo (fun p hp => (hi p hp).1)
  have h3 : ∀ p ∈ L.drop k, n.data.toList < kB p := by
    intro p hp
    rcases List.le_iff_lt_or_eq.1 (List.not_lt.1 (h2 p hp)) with hlt | he
    · exact hlt
    · obtain ⟨j, hj⟩ := List.getElem?_of_mem hp
      rw [List.getElem?_drop] at hj
      by_cases hj0 : j = 0
      · subst hj0
        exact absurd (ba_eq he.symm) (hi p hj).2
      · have h1 := (List.getElem?_eq_some_iff.1 hj).1
        have hk : L[k]? = some (L[k]'(by omega)) := List.getElem?_eq_getElem _
        have := (List.pairwise_iff_getElem.1 h) k (k + j) (by omega) h1 (by omega)
        rw [(List.getElem?_eq_some_iff.1 hj).2, ← he] at this
        exact absurd this (hi _ hk).1
  have hne : ∀ p ∈ L, p.1 ≠ n := by
    intro p hp e
    rw [← List.take_append_drop k L] at hp
    rcases List.mem_append.1 hp with hp | hp
    · have := h1 p hp
      unfold kB at this
      rw [e] at this
      exact List.lt_irrefl _ this
    · have := h3 p hp
      unfold kB at this
      rw [e] at this
      exact List.lt_irrefl _ this
  refine ⟨h1, h3, List.Pairwise.sublist (List.take_sublist _ _) h, List.Pairwise.sublist (List.drop_sublist _ _) h, numOf_not hne, fun m v _ => ?_, by omega⟩
  conv => lhs; rw [← List.take_append_drop k L]
  exact List.mem_append

theorem mid_old {L : List (ByteArray × Int)} (h : Rise L) (hv : ∀ p ∈ L, 0 ≤ p.2 ∧ p.2 ≤ 4611686018427387904) {k : Nat} {n : ByteArray} {x : Int} (lo : ∀ (j : Nat) p, j < k → L[j]? = some p → kB p < n.data.toList) (hk : L[k]? = some (n, x)) : MMid L (L.take k) (L.drop (k + 1)) n x := by
  have hlt := (List.getElem?_eq_some_iff.1 hk).1
  have hgk := (List.getElem?_eq_some_iff.1 hk).2
  refine ⟨fun p hp => ?_, fun p hp => ?_, List.Pairwise.sublist (List.take_sublist _ _) h, List.Pairwise.sublist (List.drop_sublist _ _) h, numOf_mem h.nd (List.mem_of_getElem? hk), fun m v hm => ?_, hv _ (List.mem_of_getElem? hk)⟩
  · obtain ⟨j, hj⟩ := List.getElem?_of_mem hp
    have hjk : j < k := by
      have := (List.getElem?_eq_some_iff.1 hj).1
      rw [List.length_take] at this
      omega
    rw [List.getElem?_take_of_lt hjk] at hj
    exact lo j p hjk hj
  · obtain ⟨j, hj⟩ := List.getElem?_of_mem hp
    rw [List.getElem?_drop] at hj
    have h1 := (List.getElem?_eq_some_iff.1 hj).1
    have := (List.pairwise_iff_getElem.1 h) k (k + 1 + j) hlt h1 (by omega)
    rw [(List.getElem?_eq_some_iff.1 hj).2, hgk] at this
    exact this
  · conv => lhs; rw [← List.take_append_drop k L, ← List.getElem_cons_drop hlt, hgk]
    simp only [List.mem_append, List.mem_cons, Prod.mk.injEq]
    constructor
    · rintro (h | ⟨e, _⟩ | h)
      · exact .inl h
      · exact absurd e hm
      · exact .inr h
    · rintro (h | h)
      · exact .inl h
      · exact .inr (.inr h)

/-- the sum behind an addition -/
def nvOf (x c : Int) : Int := x + min (max c 0) (4611686018427387904 - x)

theorem mid_rise {L P R : List (ByteArray × Int)} {n : ByteArray} {x : Int} (h : MMid L P R n x) (v : Int) : Rise (P ++ (n, v) :: R) := by
  refine List.pairwise_append.2 ⟨h.riseP, List.pairwise_cons.2 ⟨h.hi, h.riseR⟩, fun p hp q hq => ?_⟩
  rcases List.mem_cons.1 hq with rfl | hq
  · exact h.lo p hp
  · exact List.lt_trans (h.lo p hp) (h.hi q hq)

theorem putI_num {M : List (ByteArray × Int)} (hnd : (M.map (·.1)).Nodup) (n m : ByteArray) (v : Int) : numOf (putI M n v) m = if m = n then v else numOf M m := by
  have hnd' := putI_keys (n := n) (v := v) hnd
  by_cases e : m = n
  · subst e
    rw [if_pos rfl]
    refine numOf_mem hnd' ?_
    unfold putI
    split
    · rename_i hany
      rw [List.any_eq_true] at hany
      obtain ⟨p, hp, hpe⟩ := hany
      exact List.mem_map.2 ⟨p, hp, by rw [if_pos (by simpa using hpe)]⟩
    · exact List.mem_append.2 (.inr (by simp))
  · rw [if_neg e]
    refine numOf_same hnd' hnd fun u => ?_
    unfold putI
    split
    · rw [List.mem_map]
      constructor
      · rintro ⟨p, hp, hpe⟩
        by_cases hpn : p.1 = n
        · rw [if_pos hpn] at hpe
          simp only [Prod.mk.injEq] at hpe
          exact absurd hpe.1.symm e
        · rw [if_neg hpn] at hpe
          subst hpe
          exact hp
      · intro hp
        exact ⟨_, hp, by rw [if_neg e]⟩
    · rw [List.mem_append]
      constructor
      · rintro (h | h)
        · exact h
        · simp only [List.mem_singleton, Prod.mk.injEq] at h
          exact absurd h.1 e
      · exact .inl

theorem mid_done {L P R M M' : List (ByteArray × Int)} {n : ByteArray} {x c : Int} (h : MMid L P R n x) (hI : MInv L M) (hnd : (M.map (·.1)).Nodup) (hM : (c ≤ 0 ∧ M' = M) ∨ (0 < c ∧ M' = putI M n (sumOf M n c))) : MInv (P ++ (n, nvOf x c) :: R) M' := by
  have hx := h.x0
  have hr := mid_rise h (nvOf x c)
  have hnv : 0 ≤ nvOf x c ∧ nvOf x c ≤ 4611686018427387904 := by unfold nvOf; omega
  have hsx : numOf M n = x := (hI.same n).trans h.val
  have hmem : ∀ m v, m ≠ n → ((m, v) ∈ P ++ (n, nvOf x c) :: R ↔ (m, v) ∈ L) := fun m v hm => by
    rw [h.oth m v hm]
    simp only [List.mem_append, List.mem_cons, Prod.mk.injEq]
    constructor
    · rintro (h | ⟨e, _⟩ | h)
      · exact .inl h
      · exact absurd e hm
      · exact .inr h
    · rintro (h | h)
      · exact .inl h
      · exact .inr (.inr h)
  have hother : ∀ m, m ≠ n → numOf (P ++ (n, nvOf x c) :: R) m = numOf L m := fun m hm => numOf_same hr.nd hI.rise.nd fun v => hmem m v hm
  have hself : numOf (P ++ (n, nvOf x c) :: R) n = nvOf x c := numOf_mem hr.nd (by simp)
  refine ⟨hr, fun p hp => ?_, fun m => ?_, ?_⟩
  · by_cases e : p.1 = n
    · have : numOf (P ++ (n, nvOf x c) :: R) n = p.2 := numOf_mem hr.nd (by obtain ⟨a, b⟩ := p; simp only at e; subst e; exact hp)
      rw [hself] at this
      omega
    · exact hI.vals p ((hmem p.1 p.2 e).1 hp)
  · rcases hM with ⟨hc, rfl⟩ | ⟨hc, rfl⟩
    · by_cases e : m = n
      · subst e
        rw [hself, hsx]
        unfold nvOf
        omega
      · rw [hother m e]
        exact hI.same m
    · rw [putI_num hnd]
      by_cases e : m = n
      · rw [if_pos e, e, hself]
        unfold sumOf nvOf
        rw [hsx]
        omega
      · rw [if_neg e, hother m e]
        exact hI.same m
  · intro p hp
    rcases hM with ⟨hc, rfl⟩ | ⟨hc, rfl⟩
    · exact hI.pos p hp
    · rcases putI_mem hp with hp | rfl
      · exact hI.pos p hp
      · show 0 < sumOf M n c
        unfold sumOf
        omega

/-- those that counted -/
def wantL (L : List (ByteArray × Int)) : List ByteArray := (L.filter fun p => decide (0 < p.2)).map (·.1)

theorem keys_want {L M : List (ByteArray × Int)} (hI : MInv L M) (hnd : (M.map (·.1)).Nodup) : keysB M = (wantL L).map fun s => s.data.toList := by
  unfold keysB sortedB
  have hk : ∀ (X : List (ByteArray × Int)), (X.map (·.1)).Nodup → (X.map kB).Nodup := by
    intro X hX
    unfold List.Nodup at hX ⊢
    rw [List.pairwise_map] at hX ⊢
    exact hX.imp fun {p q} hpq e => hpq (ba_eq e)
  have hrf : Rise (L.filter fun p => decide (0 < p.2)) := List.Pairwise.sublist List.filter_sublist hI.rise
  have hw : (wantL L).map (fun s => s.data.toList) = (L.filter fun p => decide (0 < p.2)).map kB := by
    unfold wantL
    rw [List.map_map]
    rfl
  rw [hw]
  have hperm : (M.map kB).Perm ((L.filter fun p => decide (0 < p.2)).map kB) := by
    refine (List.perm_ext_iff_of_nodup (hk M hnd) (hk _ hrf.nd)).2 fun z => ?_
    rw [List.mem_map, List.mem_map]
    constructor
    · rintro ⟨p, hp, rfl⟩
      have h1 := hI.pos p hp
      have h2 : numOf M p.1 = p.2 := numOf_mem hnd hp
      rw [hI.same] at h2
      rcases numOf_cases L p.1 with h3 | ⟨h3, _⟩
      · exact ⟨_, List.mem_filter.2 ⟨h3, by simp only [decide_eq_true_eq]; omega⟩, rfl⟩
      · omega
    · rintro ⟨p, hp, rfl⟩
      obtain ⟨hp1, hp2⟩ := List.mem_filter.1 hp
      simp only [decide_eq_true_eq] at hp2
      have h2 : numOf L p.1 = p.2 := numOf_mem hI.rise.nd hp1
      rw [← hI.same] at h2
      rcases numOf_cases M p.1 with h3 | ⟨h3, _⟩
      · exact ⟨_, h3, rfl⟩
      · omega
  have h1 : (M.map kB).mergeSort (fun x y => decide (x ≤ y)) = ((L.filter fun p => decide (0 < p.2)).map kB).mergeSort (fun x y => decide (x ≤ y)) := mergeSort_of_perm hperm
  show (M.map kB).mergeSort (fun x y => decide (x ≤ y)) = _
  rw [h1]
  refine List.mergeSort_of_pairwise ?_
  rw [List.pairwise_map]
  exact hrf.imp fun {p q} hpq => by simpa using List.le_of_lt hpq

def zeroed (L : List (ByteArray × Int)) : List (ByteArray × Int) := L.map fun p => (p.1, 0)

theorem minv_zero {L M : List (ByteArray × Int)} (hI : MInv L M) : MInv (zeroed L) [] := by
  refine ⟨?_, ?_, fun n => ?_, by simp⟩
  · unfold Rise zeroed
    rw [List.pairwise_map]
    exact hI.rise
  · intro p hp
    obtain ⟨q, _, rfl⟩ := List.mem_map.1 hp
    simp
  · rw [numOf_not (by simp)]
    rcases numOf_cases (zeroed L) n with h | ⟨h, _⟩
    · obtain ⟨q, _, e⟩ := List.mem_map.1 h
      simp only [Prod.mk.injEq] at e
      exact e.2
    · exact h.symm
end Go.Proofs.Ytcfadekcdcphnaa
