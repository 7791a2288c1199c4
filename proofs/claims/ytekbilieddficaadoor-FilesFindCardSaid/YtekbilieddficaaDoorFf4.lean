/- Files: the document's table: Create. -/
import Derived.Test.YtekbilieddficaaDoorFf3
namespace Go.Proofs.YtekbilieddficaaDoor
open Go.RowKit
set_option linter.unusedVariables false

theorem lt_asymmB {a b : List UInt8} (h : a < b) : ¬ b < a := fun h' => absurd (List.lt_trans h h') (List.lt_irrefl a)

theorem ba_eqR {a b : ByteArray} (h : a.data.toList = b.data.toList) : a = b := by
  cases a; cases b; simpa [Array.toList_inj] using h

def hasB (P : List ByteArray) (s : ByteArray) : Bool := P.any fun x => decide (x = s)
theorem hasB_true {P : List ByteArray} {s : ByteArray} : hasB P s = true ↔ s ∈ P := by
  unfold hasB
  rw [List.any_eq_true]
  exact ⟨fun ⟨x, hx, e⟩ => by rw [← of_decide_eq_true e]; exact hx, fun h => ⟨s, h, by simp⟩⟩
theorem hasB_false {P : List ByteArray} {s : ByteArray} (h : s ∉ P) : hasB P s = false := by
  cases e : hasB P s with
  | false => rfl
  | true => exact absurd (hasB_true.1 e) h

theorem rise_at {P : List ByteArray} (hr : RiseB P) {k : Nat} {s : ByteArray} (hlow : ∀ (j : Nat) p, j < k → P[j]? = some p → p.data.toList < s.data.toList) (hup : ∀ p, P[k]? = some p → ¬ p.data.toList < s.data.toList) : P[k]? = some s ↔ s ∈ P := by
  refine ⟨List.mem_of_getElem?, fun h => ?_⟩
  obtain ⟨j, hj, e⟩ := List.mem_iff_getElem.1 h
  have hjs : P[j]? = some s := by rw [List.getElem?_eq_getElem hj, e]
  rcases Nat.lt_trichotomy j k with hlt | rfl | hgt
  · exact absurd (hlow j s hlt hjs) (List.lt_irrefl _)
  · exact hjs
  · have hk : k < P.length := by omega
    have := List.pairwise_iff_getElem.1 hr k j hk hj hgt
    rw [e] at this
    exact absurd this (hup _ (List.getElem?_eq_getElem hk))

theorem rise_ins {P : List ByteArray} (hr : RiseB P) {k : Nat} {s : ByteArray} (hs : s ∉ P) (hlow : ∀ (j : Nat) p, j < k → P[j]? = some p → p.data.toList < s.data.toList) (hup : ∀ p, P[k]? = some p → ¬ p.data.toList < s.data.toList) : RiseB (P.take k ++ s :: P.drop k) := by
  have hgt : ∀ p ∈ P.drop k, s.data.toList < p.data.toList := by
    intro p hp
    obtain ⟨j, hj, e⟩ := List.mem_iff_getElem.1 hp
    rw [List.length_drop] at hj
    rw [List.getElem_drop] at e
    have hpk : ¬ P[k].data.toList < s.data.toList := hup _ (List.getElem?_eq_getElem (by omega))
    have hne : p ≠ s := fun e2 => hs (e2 ▸ List.mem_of_mem_drop hp)
    have hle : ¬ p.data.toList < s.data.toList := by
      intro h
      by_cases h0 : j = 0
      · subst h0; exact hpk (by have e' : P[k] = p := by simpa using e
                                rw [e']; exact h)
      · have := List.pairwise_iff_getElem.1 hr k (k + j) (by omega) (by omega) (by omega)
        rw [e] at this
        exact hpk (List.lt_trans this h)
    by_cases h : s.data.toList < p.data.toList
    · exact h
    · exact absurd (ba_eqR (List.le_antisymm (List.not_lt.1 h) (List.not_lt.1 hle))) hne
  have hlt : ∀ p ∈ P.take k, p.data.toList < s.data.toList := by
    intro p hp
    obtain ⟨j, hj, e⟩ := List.mem_iff_getElem.1 hp
    rw [List.length_take] at hj
    rw [List.getElem_take] at e
    exact hlow j p (by omega) (by rw [← e]; exact List.getElem?_eq_getElem (by omega))
  unfold RiseB at *
  rw [List.pairwise_append]
  refine ⟨hr.sublist (List.take_sublist _ _), ?_, ?_⟩
  · rw [List.pairwise_cons]
    exact ⟨hgt, hr.sublist (List.drop_sublist _ _)⟩
  · intro a ha b hb
    rcases List.mem_cons.1 hb with rfl | hb
    · exact hlt a ha
    · exact List.lt_trans (hlt a ha) (hgt b hb)

theorem ins_mem {P : List ByteArray} {k : Nat} {s x : ByteArray} : x ∈ P.take k ++ s :: P.drop k ↔ x = s ∨ x ∈ P := by
  rw [List.mem_append, List.mem_cons]
  conv => rhs; rw [← List.take_append_drop k P, List.mem_append]
  constructor
  · rintro (h | h | h)
    · exact .inr (.inl h)
    · exact .inl h
    · exact .inr (.inr h)
  · rintro (h | h | h)
    · exact .inr (.inl h)
    · exact .inl h
    · exact .inr (.inr h)

theorem ins_len {P : List ByteArray} {k : Nat} {s : ByteArray} (hk : k ≤ P.length) : (P.take k ++ s :: P.drop k).length = P.length + 1 := by
  rw [List.length_append, List.length_cons, List.length_take, List.length_drop]; omega

/-- what a refused creation tells -/
def badC (P : List ByteArray) (s : ByteArray) : Option Int :=
  if ¬ ValidP s.data.toList then some 1 else if hasB P s = true then some 3 else if 50 ≤ P.length then some 4 else none

set_option maxRecDepth 100000 in
set_option maxHeartbeats 2000000 in
theorem rcreate_any {B g : Nat} {dv : Value} {P N : List ByteArray} (w : World) (h : RTab w B g dv P N) (hB : B ≤ w.heap.size) (hr : RiseB P) (hl : N.length ≤ 1000) (hP : P.length ≤ 1000) (s : ByteArray) (hs4 : s.size ≤ 1000) (hs : s ∉ P → ∀ x ∈ N, x ≠ s) :
    Calls Tryd.prog 12 #[.pointer (some ⟨g, 0, none⟩), .string s, .string ⟨#[]⟩] w fun e w' =>
      (∃ c, badC P s = some c ∧ e = .returned (.int .i64 c) ∧ Below w.heap.size w w') ∨ (badC P s = none ∧ e = .returned (.int .i64 0) ∧ RMade B g dv P N s w w') := by
  have hA := Lib.hid (rat_any w h hP s)
  have hh := Lib.hid h
  clear h
  have hb1 : ∀ (k : Nat) (b : Bool), (∀ (j : Nat) p, j < k → P[j]? = some p → p.data.toList < s.data.toList) → (∀ p, P[k]? = some p → ¬ p.data.toList < s.data.toList) → (b = true ↔ P[k]? = some s) → b = hasB P s := by
    intro k b h1 h2 h3
    rw [rise_at hr h1 h2] at h3
    cases b with
    | false => exact (hasB_false fun h => by simpa using h3.2 h).symm
    | true => exact (hasB_true.2 (h3.1 rfl)).symm
  replace hb1 := Lib.hid hb1
  by_cases hv : ValidP s.data.toList
  case neg =>
    have hc : badC P s = some 1 := by unfold badC; rw [if_pos hv]
    have HV : Hid (∀ W, Calls Tryd.prog 24 #[.string s] W fun e w' => e = .returned (.bool false) ∧ Below W.heap.size W w') := Lib.hid fun W => by
      have := rvalid_any s (by omega) W; rwa [decide_eq_false hv] at this
    clear hv hs
    go_enter Tryd.func12, Tryd.ntmps12
    go_wp2_with fail
    refine hA.out.mono ?_
    rintro e w1 ⟨⟨k, b, rfl, _, _, _, _⟩, b1⟩
    replace b1 := Lib.hid b1
    go_wp2_with fail
    refine (HV.out w1).mono ?_
    rintro e w2 ⟨rfl, b2⟩
    replace b2 := Lib.hid b2
    go_wp2
    go_ret
    exact .inl ⟨1, hc, rfl, b1.out.trans (b2.out.mono b1.out.size)⟩
  case pos =>
    have HV : Hid (∀ W, Calls Tryd.prog 24 #[.string s] W fun e w' => e = .returned (.bool true) ∧ Below W.heap.size W w') := Lib.hid fun W => by
      have := rvalid_any s (by omega) W; rwa [decide_eq_true hv] at this
    have hs8 := hv.1
    by_cases hm : s ∈ P
    case pos =>
      have hc : badC P s = some 3 := by unfold badC; rw [if_neg (by simpa using hv), if_pos (hasB_true.2 hm)]
      clear hv hs
      go_enter Tryd.func12, Tryd.ntmps12
      go_wp2_with fail
      refine hA.out.mono ?_
      rintro e w1 ⟨⟨k, b, rfl, _, h1, h2, h3⟩, b1⟩
      obtain rfl : b = true := (hb1.out _ _ h1 h2 h3).trans (hasB_true.2 hm)
      clear h1 h2 h3
      replace b1 := Lib.hid b1
      go_wp2_with fail
      refine (HV.out w1).mono ?_
      rintro e w2 ⟨rfl, b2⟩
      replace b2 := Lib.hid b2
      go_wp2
      go_ret
      exact .inl ⟨3, hc, rfl, b1.out.trans (b2.out.mono b1.out.size)⟩
    case neg =>
      obtain ⟨n, hn⟩ : ∃ n, n = P.length := ⟨_, rfl⟩
      have HC := Lib.hid (fun (W : World) (hW : Below w.heap.size w W) => show ∃ lo lc, W.cell? ⟨g, 1, none⟩ = some (.slice lo n lc) from by
        obtain ⟨lv, nv, tv, hg, hL, _, _⟩ := (hh.out.moved hW).tab
        obtain ⟨lo, lc, rfl, _⟩ := hL.rown (n := n) (by rw [List.length_map, hn])
        exact ⟨lo, lc, Lib.cell_of_heap hg 1⟩)
      have hn1 : n ≤ 1000 := by omega
      by_cases h50 : 50 ≤ n
      · have hc : badC P s = some 4 := by unfold badC; rw [if_neg (by simpa using hv), if_neg (by rw [hasB_false hm]; decide), if_pos (by omega)]
        have h50' : (50 : Int) ≤ n := by omega
        clear hv hs
        replace hn := Lib.hid hn
        go_enter Tryd.func12, Tryd.ntmps12
        go_wp2_with fail
        refine hA.out.mono ?_
        rintro e w1 ⟨⟨k, b, rfl, _, h1, h2, h3⟩, b1⟩
        obtain rfl : b = false := (hb1.out _ _ h1 h2 h3).trans (hasB_false hm)
        clear h1 h2 h3
        replace b1 := Lib.hid b1
        go_wp2_with fail
        refine (HV.out w1).mono ?_
        rintro e w2 ⟨rfl, b2⟩
        have b3 := b1.out.trans (b2.mono b1.out.size)
        obtain ⟨lo, lc, c1⟩ := HC.out w2 b3
        replace b3 := Lib.hid b3
        clear b2
        go_wp2
        go_ret
        exact .inl ⟨4, hc, rfl, b3.out⟩
      · have hc : badC P s = none := by unfold badC; rw [if_neg (by simpa using hv), if_neg (by rw [hasB_false hm]; decide), if_neg (by omega)]
        have h50' : ¬ (50 : Int) ≤ n := by omega
        have hs' := Lib.hid (hs hm)
        clear hv hs
        replace hn := Lib.hid hn
        go_enter Tryd.func12, Tryd.ntmps12
        go_wp2_with fail
        refine hA.out.mono ?_
        rintro e w1 ⟨⟨k, b, rfl, _, h1, h2, h3⟩, b1⟩
        obtain rfl : b = false := (hb1.out _ _ h1 h2 h3).trans (hasB_false hm)
        clear h1 h2 h3
        replace b1 := Lib.hid b1
        go_wp2_with fail
        refine (HV.out w1).mono ?_
        rintro e w2 ⟨rfl, b2⟩
        have b3 := b1.out.trans (b2.mono b1.out.size)
        obtain ⟨lo, lc, c1⟩ := HC.out w2 b3
        have HPt := Lib.hid (rput_new w2 (hh.out.moved b3) (Nat.le_trans hB b3.size) hl hP s hs8 hs'.out hm)
        replace b3 := Lib.hid b3
        clear b2
        go_wp2_with fail
        refine HPt.out.mono ?_
        rintro e w3 ⟨rfl, hm3⟩
        replace hm3 := Lib.hid hm3
        go_wp2
        go_ret
        obtain ⟨k3, m1, m2, m3, m4, m5⟩ := hm3.out
        exact .inr ⟨hc, rfl, k3, m1, m2, m3, m4, grown_trans ⟨b3.out.os, b3.out.tape, b3.out.output, b3.out.size, fun j hj _ => b3.out.block j hj⟩ m5⟩
end Go.Proofs.YtekbilieddficaaDoor
