/- Files: which directories may be (files.New's look; the document's). -/
import Derived.Test.YtekbilieddficaaDoorPa11
import Derived.Test.YtekbilieddficaaDoorAlike
import Derived.Test.YtekbilieddficaaDoorRowMore
namespace Go.Proofs.YtekbilieddficaaDoor
open Go.RowKit
set_option linter.unusedVariables false

def OkDir (s : ByteArray) : Prop := s.data.toList = [] ∨ ValidP s.data.toList
def badB (s : ByteArray) : Bool := !(decide (s.data.toList = []) || decide (ValidP s.data.toList))
theorem badB_false {s : ByteArray} (h : OkDir s) : badB s = false := by
  unfold badB
  rcases h with h | h
  · rw [decide_eq_true h]; rfl
  · rw [decide_eq_true h, Bool.or_true]; rfl
theorem badB_true {s : ByteArray} (h : ¬ OkDir s) : badB s = true := by
  unfold badB
  rw [decide_eq_false (fun e => h (.inl e)), decide_eq_false (fun e => h (.inr e))]; rfl
theorem badB_ok {s : ByteArray} (h : badB s = false) : OkDir s := Classical.byContradiction fun hn => by rw [badB_true hn] at h; cases h

set_option maxRecDepth 100000 in
theorem bad_any (s : ByteArray) (hs : s.size ≤ 100000) (w : World) : Calls Tryd.prog 25 #[.string s] w fun e w' => e = .returned (.bool (badB s)) ∧ Below w.heap.size w w' := by
  by_cases h0 : s.data.toList = []
  · obtain rfl := str_lit h0
    rw [badB_false (.inl rfl)]
    go_enter Tryd.func25, Tryd.ntmps25
    go_wp2
    go_ret
    exact ⟨rfl, Below.refl _ _⟩
  · have HV := pvalid_any s hs w
    have hd : badB s = !decide (ValidP s.data.toList) := by
      unfold badB
      rw [decide_eq_false h0, Bool.false_or]
    rw [hd]
    rw [← Lib.toList_data] at h0
    have e1 : s.toList.isEmpty = false := by simpa using h0
    generalize decide (ValidP s.data.toList) = b at HV ⊢
    replace HV := Lib.hid HV
    clear h0 hd
    go_enter Tryd.func25, Tryd.ntmps25
    go_wp2_with fail
    refine HV.out.mono ?_
    rintro e w' ⟨rfl, hb⟩
    replace hb := Lib.hid hb
    cases b
    all_goals
      go_wp2
      go_ret
      exact ⟨rfl, hb.out⟩

/-- the first bad one, or none -/
def badAt (D : List ByteArray) (z : Int) : Prop := (z = -1 ∧ ∀ d ∈ D, OkDir d) ∨ (0 ≤ z ∧ ∃ d ∈ D, ¬ OkDir d)

set_option maxRecDepth 100000 in
set_option maxHeartbeats 2000000 in
theorem index_any (D : List ByteArray) (hD : ∀ d ∈ D, d.size ≤ 100000) (ao : Option Addr) (c : Nat) (hc : D.length ≤ c) (hl : D.length ≤ 1000000) (w : World) (hrow : Row w 1 ao (D.map fun p => [.string p])) :
    Calls Tryd.prog 52 #[.slice ao D.length c, .func (.func 25) #[] #[]] w fun e w' => (∃ z : Int, e = .returned (.int .i64 z) ∧ badAt D z) ∧ Below w.heap.size w w' := by
  obtain ⟨n, hn⟩ : ∃ n, n = D.length := ⟨_, rfl⟩
  have HN : Hid (D.length = n) := Lib.hid hn.symm
  rw [← hn] at hc hl ⊢
  clear hn
  replace hD := Lib.hid hD
  replace hrow := Lib.hid hrow
  go_enter Tryd.func52, Tryd.ntmps52
  go_wp2_with fail
  go_loopg [5, 8] n (fun q v5 v8 wx => ∃ k : Nat, q = n - k ∧ k ≤ n ∧ v8 = .int .i64 k ∧ Hid (∀ j d, j < k → D[j]? = some d → OkDir d) ∧ Hid (Below w.heap.size w wx))
  case atStart => exact ⟨0, rfl, Nat.zero_le _, rfl, Lib.hid (fun j d hj => absurd hj (by omega)), Lib.hid (Below.refl _ _)⟩
  case round =>
    obtain ⟨k, hq, hk, rfl, hok, hb⟩ := hrel
    replace hq := hq.symm
    subst hq
    by_cases hkn : k < n
    · have hkn' : (k : Int) < n := by omega
      have f4 : Hid (n - (k + 1) < n - k) := Lib.hid (by omega)
      have g1 : IntKind.i64.wrap ((k : Int) + 1) = (k : Int) + 1 := IntWalk.i64_in _ (by omega)
      obtain ⟨d, hd⟩ : ∃ d, D[k]? = some d := ⟨_, List.getElem?_eq_getElem (by rw [HN.out]; exact hkn)⟩
      obtain ⟨rb, o, rfl, hat⟩ := (hrow.out.below hb.out) (by intro h; simp at h; subst h; simp at hd)
      have x0 := strRow_cell hat hd
      have HB := bad_any d (hD.out d (List.mem_of_getElem? hd)) wr
      replace hd := Lib.hid hd
      clear hat
      by_cases hg : OkDir d
      · rw [badB_false hg] at HB
        replace HB := Lib.hid HB
        replace hg := Lib.hid hg
        go_wp2_with fail
        refine HB.out.mono ?_
        rintro e w1 ⟨rfl, b1⟩
        have hb1 := Lib.hid (hb.out.trans (b1.mono hb.out.size))
        clear b1
        go_wp2_with fail
        go_roundg (n - (k + 1))
        case measure => exact f4.out
        case rel => exact ⟨k + 1, rfl, by omega, rfl, Lib.hid (fun j d' hj hd' => by
          by_cases e : j = k
          · subst e
            rw [hd.out] at hd'
            cases hd'
            exact hg.out
          · exact hok.out j d' (by omega) hd'), hb1⟩
      · rw [badB_true hg] at HB
        replace HB := Lib.hid HB
        replace hg := Lib.hid hg
        go_wp2_with fail
        refine HB.out.mono ?_
        rintro e w1 ⟨rfl, b1⟩
        have hb1 := Lib.hid (hb.out.trans (b1.mono hb.out.size))
        clear b1
        go_wp2
        go_ret
        exact ⟨⟨_, rfl, .inr ⟨by omega, d, List.mem_of_getElem? hd.out, hg.out⟩⟩, hb1.out⟩
    · obtain rfl : k = n := by omega
      have hkn' : ¬ (k : Int) < (k : Int) := by omega
      go_wp2
      go_ret
      exact ⟨⟨_, rfl, .inl ⟨rfl, fun d hd => by
        obtain ⟨j, hj⟩ := List.getElem?_of_mem hd
        exact hok.out j d (by have := (List.getElem?_eq_some_iff.1 hj).1; rw [HN.out] at this; exact this) hj⟩⟩, hb.out⟩

theorem contains_any (D : List ByteArray) (hD : ∀ d ∈ D, d.size ≤ 100000) (ao : Option Addr) (c : Nat) (hc : D.length ≤ c) (hl : D.length ≤ 1000000) (w : World) (hrow : Row w 1 ao (D.map fun p => [.string p])) :
    Calls Tryd.prog 27 #[.slice ao D.length c, .func (.func 25) #[] #[]] w fun e w' => e = .returned (.bool (D.any badB)) ∧ Below w.heap.size w w' := by
  have HI := Lib.hid (index_any D hD ao c hc hl w hrow)
  obtain ⟨R, hR⟩ : ∃ R, R = D.any badB := ⟨_, rfl⟩
  rw [← hR]
  replace hR := Lib.hid hR
  clear hD hrow
  go_enter Tryd.func27, Tryd.ntmps27
  go_wp2_with fail
  refine HI.out.mono ?_
  rintro e w' ⟨⟨z, rfl, hz⟩, hb⟩
  replace hb := Lib.hid hb
  rcases hz with ⟨rfl, hz⟩ | ⟨h0, hz⟩
  · have hR2 : R = false := by
      rw [hR.out, List.any_eq_false]
      intro d hd
      rw [badB_false (hz d hd)]
      decide
    subst hR2
    clear hz
    go_wp2
    go_ret
    exact ⟨rfl, hb.out⟩
  · have hR2 : R = true := by
      rw [hR.out, List.any_eq_true]
      obtain ⟨d, h1, h2⟩ := hz
      exact ⟨d, h1, badB_true h2⟩
    subst hR2
    clear hz
    go_wp2
    go_ret
    exact ⟨rfl, hb.out⟩

def mayD (D : List ByteArray) : Bool := decide (D.length ≤ 10) && !D.any badB
theorem mayD_true {D : List ByteArray} (h1 : D.length ≤ 10) (h2 : ∀ d ∈ D, OkDir d) : mayD D = true := by
  unfold mayD
  have h3 : D.any badB = false := by
    rw [List.any_eq_false]
    intro d hd
    rw [badB_false (h2 d hd)]
    decide
  rw [decide_eq_true h1, h3]
  rfl
theorem mayD_long {D : List ByteArray} (h : ¬ D.length ≤ 10) : mayD D = false := by unfold mayD; rw [decide_eq_false h]; rfl
theorem mayD_bad {D : List ByteArray} {d : ByteArray} (hd : d ∈ D) (h : ¬ OkDir d) : mayD D = false := by
  unfold mayD
  have h3 : D.any badB = true := List.any_eq_true.2 ⟨d, hd, badB_true h⟩
  rw [h3, Bool.and_eq_false_iff]
  exact .inr rfl
theorem mayD_get {D : List ByteArray} (h : mayD D = true) : D.length ≤ 10 ∧ ∀ d ∈ D, OkDir d := by
  unfold mayD at h
  rw [Bool.and_eq_true] at h
  refine ⟨of_decide_eq_true h.1, fun d hd => badB_ok ?_⟩
  have h2 : D.any badB = false := by simpa using h.2
  have := (List.any_eq_false.1 h2) d hd
  simpa using this

set_option maxRecDepth 100000 in
set_option maxHeartbeats 2000000 in
theorem mayDirs_any (D : List ByteArray) (hD : ∀ d ∈ D, d.size ≤ 100000) (ao : Option Addr) (c : Nat) (hc : D.length ≤ c) (hl : D.length ≤ 1000000) (w : World) (hrow : Row w 1 ao (D.map fun p => [.string p])) :
    Calls Tryd.prog 8 #[.slice ao D.length c] w fun e w' => e = .returned (.bool (mayD D)) ∧ Below w.heap.size w w' := by
  obtain ⟨n, hn⟩ : ∃ n, n = D.length := ⟨_, rfl⟩
  have HN : Hid (D.length = n) := Lib.hid hn.symm
  obtain ⟨R, hR⟩ : ∃ R, R = mayD D := ⟨_, rfl⟩
  rw [← hn] at hc hl
  rw [← hR, ← hn]
  clear hn
  replace hR := Lib.hid hR
  replace hD := Lib.hid hD
  replace hrow := Lib.hid hrow
  by_cases h10 : n ≤ 10
  · have h10' : ¬ (10 : Int) < (n : Int) := by omega
    go_enter Tryd.func8, Tryd.ntmps8
    go_wp2_with fail
    go_loopg [3] n (fun q v3 wx => ∃ k : Nat, q = n - k ∧ k ≤ n ∧ v3 = .int .i64 k ∧ Hid (∀ j d, j < k → D[j]? = some d → OkDir d) ∧ Hid (Below w.heap.size w wx))
    case atStart => exact ⟨0, rfl, Nat.zero_le _, rfl, Lib.hid (fun j d hj => absurd hj (by omega)), Lib.hid (Below.refl _ _)⟩
    case round =>
      obtain ⟨k, hq, hk, rfl, hok, hb⟩ := hrel
      replace hq := hq.symm
      subst hq
      by_cases hkn : k < n
      · have hkn' : (k : Int) < n := by omega
        have f4 : Hid (n - (k + 1) < n - k) := Lib.hid (by omega)
        have g1 : IntKind.i64.wrap ((k : Int) + 1) = (k : Int) + 1 := IntWalk.i64_in _ (by omega)
        obtain ⟨d, hd⟩ : ∃ d, D[k]? = some d := ⟨_, List.getElem?_eq_getElem (by rw [HN.out]; exact hkn)⟩
        obtain ⟨rb, o, rfl, hat⟩ := (hrow.out.below hb.out) (by intro h; simp at h; subst h; simp at hd)
        have x0 := strRow_cell hat hd
        have HB := rvalid_any d (hD.out d (List.mem_of_getElem? hd)) wr
        have hd' := Lib.hid hd
        clear hat hd
        have hnext : OkDir d → Hid (∀ j d', j < k + 1 → D[j]? = some d' → OkDir d') := fun hg => Lib.hid (fun j d' hj h2 => by
          by_cases e : j = k
          · subst e
            rw [hd'.out] at h2
            cases h2
            exact hg
          · exact hok.out j d' (by omega) h2)
        by_cases h0 : d.data.toList = []
        · have hn2 := hnext (.inl h0)
          obtain rfl := str_lit h0
          clear HB hnext h0
          go_wp2_with fail
          go_roundg (n - (k + 1))
          case measure => exact f4.out
          case rel => exact ⟨k + 1, rfl, by omega, rfl, hn2, hb⟩
        · have h0' := Lib.hid h0
          rw [← Lib.toList_data] at h0
          have e1 : d.toList.isEmpty = false := by simpa using h0
          by_cases hv : ValidP d.data.toList
          · have hn2 := hnext (.inr hv)
            rw [decide_eq_true hv] at HB
            replace HB := Lib.hid HB
            clear hnext hv h0
            go_wp2_with fail
            refine HB.out.mono ?_
            rintro e w1 ⟨rfl, b1⟩
            have hb1 := Lib.hid (hb.out.trans (b1.mono hb.out.size))
            clear b1
            go_wp2_with fail
            go_roundg (n - (k + 1))
            case measure => exact f4.out
            case rel => exact ⟨k + 1, rfl, by omega, rfl, hn2, hb1⟩
          · have hR2 : R = false := by rw [hR.out]; exact mayD_bad (List.mem_of_getElem? hd'.out) (fun h => h.elim h0'.out hv)
            subst hR2
            rw [decide_eq_false hv] at HB
            replace HB := Lib.hid HB
            clear hnext hv h0
            go_wp2_with fail
            refine HB.out.mono ?_
            rintro e w1 ⟨rfl, b1⟩
            have hb1 := Lib.hid (hb.out.trans (b1.mono hb.out.size))
            clear b1
            go_wp2
            go_ret
            exact ⟨rfl, hb1.out⟩
      · obtain rfl : k = n := by omega
        have hkn' : ¬ (k : Int) < (k : Int) := by omega
        have hR2 : R = true := by
          rw [hR.out]
          refine mayD_true (by rw [HN.out]; exact h10) fun d hd => ?_
          obtain ⟨j, hj⟩ := List.getElem?_of_mem hd
          exact hok.out j d (by have := (List.getElem?_eq_some_iff.1 hj).1; rw [HN.out] at this; exact this) hj
        subst hR2
        go_wp2
        go_ret
        exact ⟨rfl, hb.out⟩
  · have h10' : (10 : Int) < (n : Int) := by omega
    have hR2 : R = false := by rw [hR.out]; exact mayD_long (by rw [HN.out]; exact h10)
    subst hR2
    go_enter Tryd.func8, Tryd.ntmps8
    go_wp2
    go_ret
    exact ⟨rfl, Below.refl _ _⟩
end Go.Proofs.YtekbilieddficaaDoor
