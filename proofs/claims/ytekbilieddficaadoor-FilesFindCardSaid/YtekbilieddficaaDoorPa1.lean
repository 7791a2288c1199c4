/- Paths: named, part (the program's and the document's). -/
import Derived.Test.YtekbilieddficaaDoorBase2
import Derived.Test.YtekbilieddficaaDoorBuilder
import Derived.Test.YtekbilieddficaaDoorPaSpec
namespace Go.Proofs.YtekbilieddficaaDoor
open Go.RowKit
set_option linter.unusedVariables false

theorem get_byte {s : ByteArray} {k : Nat} (h : k < s.size) : s.data.toList[k]? = some (s[k]'h) := by
  have hl : k < s.data.toList.length := by rw [← Lib.size_eq]; exact h
  rw [List.getElem?_eq_getElem hl]
  rfl

theorem ext_toList {a b : ByteArray} (h : a.data.toList = b.data.toList) : a = b := by
  cases a; cases b
  simp only [Array.toList_inj] at h
  rw [h]

/-- a text's list is known -/
theorem text_is {s : ByteArray} {l : List UInt8} : (s.toList == l) = decide (s.data.toList = l) := by
  rw [Lib.toList_data]
  by_cases h : s.data.toList = l
  · simp [h]
  · simp [h]

theorem named_int (c : UInt8) : decide (NamedB c) = decide (((97 : Int) ≤ c.toNat ∧ (c.toNat : Int) ≤ 122) ∨ ((65 : Int) ≤ c.toNat ∧ (c.toNat : Int) ≤ 90) ∨ ((48 : Int) ≤ c.toNat ∧ (c.toNat : Int) ≤ 57) ∨ (c.toNat : Int) = 46 ∨ (c.toNat : Int) = 45 ∨ (c.toNat : Int) = 95) := by
  unfold NamedB
  exact decide_eq_decide.2 (by omega)

set_option maxRecDepth 100000 in
theorem named_any (c : UInt8) (w : World) : Calls Tryd.prog 73 #[.int .u8 c.toNat] w fun e w' => e = .returned (.bool (decide (NamedB c))) ∧ w' = w := by
  go_enter Tryd.func73, Tryd.ntmps73
  go_wp2
  all_goals
    go_ret
    refine ⟨?_, rfl⟩
    refine congrArg (fun b => Ending.returned (Value.bool b)) ?_
    rw [named_int, Bool.eq_iff_iff]
    simp only [decide_eq_true_eq, beq_iff_eq]
    first | omega | (simp; omega)

/-- the head of 'part' -/
def HeadOk (s : ByteArray) : Prop := s.toList.isEmpty = false ∧ (s.size : Int) ≤ 20 ∧ ¬ s.toList = [46] ∧ ¬ s.toList = [46, 46]

instance (s : ByteArray) : Decidable (HeadOk s) := by unfold HeadOk; infer_instance

theorem partOk_head {s : ByteArray} : PartOk s.data.toList ↔ HeadOk s ∧ ∀ c ∈ s.data.toList, NamedB c := by
  unfold PartOk HeadOk
  rw [Lib.toList_data, ← Lib.size_eq]
  have h1 : s.data.toList.isEmpty = false ↔ s.data.toList ≠ [] := by simp
  rw [h1]
  constructor
  · rintro ⟨a, b, c, d, e⟩
    exact ⟨⟨a, by omega, c, d⟩, e⟩
  · rintro ⟨⟨a, b, c, d⟩, e⟩
    exact ⟨a, by omega, c, d, e⟩

set_option maxRecDepth 100000 in
set_option maxHeartbeats 4000000 in
theorem part_any (s : ByteArray) (hs : s.size ≤ 1000000) (w : World) : Calls Tryd.prog 51 #[.string s] w fun e w' => e = .returned (.bool (decide (PartOk s.data.toList))) ∧ w' = w := by
  obtain ⟨R, hR⟩ : ∃ R, R = decide (PartOk s.data.toList) := ⟨_, rfl⟩
  have HR : Hid (R = decide (PartOk s.data.toList)) := Lib.hid hR
  rw [← hR]
  clear hR
  go_enter Tryd.func51, Tryd.ntmps51
  go_wp2_with fail
  all_goals
    have HX : Hid (HeadOk s) ∨ Hid (¬ HeadOk s) := by
      by_cases h : HeadOk s
      · exact .inl (Lib.hid h)
      · exact .inr (Lib.hid h)
    go_loopg [3, 4] s.size (fun u v3 v4 wr => ∃ (k : Nat) (x : Bool), u = s.size - k ∧ k ≤ s.size ∧ v4 = .int .i64 k ∧ v3 = .bool x ∧ wr = w ∧ Hid (x = true → HeadOk s ∧ ∀ j c, j < k → s.data.toList[j]? = some c → NamedB c) ∧ Hid (x = false → R = false))
    case atStart =>
      refine ⟨0, _, rfl, Nat.zero_le _, rfl, rfl, rfl, Lib.hid ?_, Lib.hid ?_⟩
      · intro hx
        refine ⟨?_, by intro j c h; omega⟩
        clear HX HR
        unfold HeadOk
        first | (cases hx; done) | simp_all
      · intro hx
        rw [HR.out, decide_eq_false_iff_not, partOk_head]
        rintro ⟨h, _⟩
        clear HX HR
        unfold HeadOk at h
        first | (cases hx; done) | (simp_all; done) | (simp_all; omega)
    case round =>
      obtain ⟨k, x, rfl, hk, rfl, rfl, hwr, hx1, hx2⟩ := hrel
      replace hwr := hwr.symm
      subst hwr
      cases x with
      | false =>
        have hR0 := hx2.out rfl
        clear hx1 hx2
        by_cases hks : k < s.size
        · have f2 : (k : Int) < (s.size : Int) := by omega
          go_wp2
          go_ret
          first | exact ⟨rfl, rfl⟩ | exact ⟨by rw [hR0]; rfl, rfl⟩
        · have f2 : ¬ (k : Int) < (s.size : Int) := by omega
          go_wp2
          go_ret
          first | exact ⟨rfl, rfl⟩ | exact ⟨by rw [hR0]; rfl, rfl⟩
      | true =>
        by_cases hks : k < s.size
        · have f2 : (k : Int) < (s.size : Int) := by omega
          have hb := get_byte hks
          have hn1 : Hid (HeadOk s ∧ ∀ j c, j < k → s.data.toList[j]? = some c → NamedB c) := Lib.hid (hx1.out rfl)
          obtain ⟨x', hx'⟩ : ∃ x', x' = decide (NamedB (s[k]'hks)) := ⟨_, rfl⟩
          have hnn : Hid (x' = true → HeadOk s ∧ ∀ j c, j < k + 1 → s.data.toList[j]? = some c → NamedB c) := Lib.hid (by
            intro hx
            refine ⟨hn1.out.1, ?_⟩
            intro j c hj hc
            by_cases h : j = k
            · subst h
              rw [hb] at hc
              cases hc
              rw [hx'] at hx
              exact of_decide_eq_true hx
            · exact hn1.out.2 j c (by omega) hc)
          have hno : Hid (x' = false → R = false) := Lib.hid (by
            intro hx
            rw [HR.out, decide_eq_false_iff_not, partOk_head]
            rintro ⟨_, h⟩
            rw [hx'] at hx
            exact of_decide_eq_false hx (h _ (List.mem_of_getElem? hb)))
          have HN := named_any (s[k]'hks) w
          rw [← hx'] at HN
          replace HN := Lib.hid HN
          clear hx1 hx2 hb hx'
          go_wp2_with fail
          refine HN.out.mono ?_
          rintro e w' ⟨rfl, hw'⟩
          replace hw' := hw'.symm
          subst hw'
          go_wp2_with fail
          go_roundg (s.size - (k + 1))
          case measure => omega
          case rel => exact ⟨k + 1, x', rfl, by omega, by go_num, rfl, rfl, hnn, hno⟩
        · have f2 : ¬ (k : Int) < (s.size : Int) := by omega
          have hR1 : R = true := by
            rw [HR.out, decide_eq_true_eq, partOk_head]
            refine ⟨(hx1.out rfl).1, ?_⟩
            intro c hc
            obtain ⟨j, hj, rfl⟩ := List.mem_iff_getElem.1 hc
            exact (hx1.out rfl).2 j _ (by rw [← Lib.size_eq] at hj; omega) (List.getElem?_eq_getElem hj)
          clear hx1 hx2
          go_wp2
          go_ret
          first | exact ⟨rfl, rfl⟩ | exact ⟨by rw [hR1]; rfl, rfl⟩

set_option maxRecDepth 100000 in
set_option maxHeartbeats 4000000 in
theorem rpart_any (s : ByteArray) (hs : s.size ≤ 1000000) (w : World) : Calls Tryd.prog 49 #[.string s] w fun e w' => e = .returned (.bool (decide (PartOk s.data.toList))) ∧ w' = w := by
  obtain ⟨R, hR⟩ : ∃ R, R = decide (PartOk s.data.toList) := ⟨_, rfl⟩
  have HR : Hid (R = decide (PartOk s.data.toList)) := Lib.hid hR
  rw [← hR]
  clear hR
  go_enter Tryd.func49, Tryd.ntmps49
  go_wp2_with fail
  go_loopg [3] s.size (fun u v wr => ∃ k : Nat, u = s.size - k ∧ k ≤ s.size ∧ v = .int .i64 k ∧ wr = w ∧ Hid (∀ j c, j < k → s.data.toList[j]? = some c → NamedB c))
  case atStart => exact ⟨0, rfl, Nat.zero_le _, rfl, rfl, Lib.hid (by intro j c h; omega)⟩
  case round =>
    obtain ⟨k, rfl, hk, rfl, hwr, hok⟩ := hrel
    replace hwr := hwr.symm
    subst hwr
    by_cases hks : k < s.size
    · have f2 : (k : Int) < (s.size : Int) := by omega
      have hb := get_byte hks
      have hgo : Hid (NamedB (s[k]'hks) → ∀ j c, j < k + 1 → s.data.toList[j]? = some c → NamedB c) := Lib.hid (by
        intro hx j c hj hc
        by_cases h : j = k
        · subst h
          rw [hb] at hc
          cases hc
          exact hx
        · exact hok.out j c (by omega) hc)
      have hno : Hid (¬ NamedB (s[k]'hks) → R = false) := Lib.hid (by
        intro hx
        rw [HR.out, decide_eq_false_iff_not, partOk_head]
        rintro ⟨_, h⟩
        exact hx (h _ (List.mem_of_getElem? hb)))
      obtain ⟨c, hc⟩ : ∃ c, c = s[k]'hks := ⟨_, rfl⟩
      rw [← hc] at hgo hno
      clear hb hok
      go_wp2_with fail
      all_goals simp only [← hc] at *
      all_goals try simp only [bne_iff_ne, ne_eq, bne_eq_false_iff_eq] at *
      all_goals
        first
        | (go_roundg (s.size - (k + 1))
           case measure => omega
           case rel => exact ⟨k + 1, rfl, by omega, by go_num, rfl, Lib.hid (hgo.out (by unfold NamedB; omega))⟩)
        | (have hR0 := hno.out (by unfold NamedB; omega)
           go_ret
           first | exact ⟨rfl, rfl⟩ | exact ⟨by rw [hR0]; rfl, rfl⟩)
    · have f2 : ¬ (k : Int) < (s.size : Int) := by omega
      have hall : ∀ c ∈ s.data.toList, NamedB c := by
        intro c hc
        obtain ⟨j, hj, rfl⟩ := List.mem_iff_getElem.1 hc
        exact hok.out j _ (by rw [← Lib.size_eq] at hj; omega) (List.getElem?_eq_getElem hj)
      have HR2 : Hid (R = decide (HeadOk s)) := Lib.hid (by
        rw [HR.out]
        exact decide_eq_decide.2 ⟨fun h => (partOk_head.1 h).1, fun h => partOk_head.2 ⟨h, hall⟩⟩)
      have hne : (s.toList.isEmpty = false) ↔ (1 : Int) ≤ s.size := by
        rw [Lib.toList_data, Lib.size_eq]
        cases s.data.toList with
        | nil => simp
        | cons a l => simp; omega
      replace hne := Lib.hid hne
      clear hall hok
      go_wp2
      all_goals
        go_ret
        refine ⟨?_, rfl⟩
        rw [HR2.out]
        refine congrArg (fun b => Ending.returned (Value.bool b)) ?_
        have hh : HeadOk s ↔ ((1 : Int) ≤ s.size ∧ (s.size : Int) ≤ 20 ∧ ¬ s.toList = [46] ∧ ¬ s.toList = [46, 46]) := by unfold HeadOk; rw [hne.out]
        have hd : decide (HeadOk s) = decide ((1 : Int) ≤ s.size ∧ (s.size : Int) ≤ 20 ∧ ¬ s.toList = [46] ∧ ¬ s.toList = [46, 46]) := decide_eq_decide.2 hh
        rw [hd]
        clear HR HR2 hd hh hne
        first
        | (simp_all; done)
        | (rw [Bool.eq_iff_iff]; simp_all; done)
        | (simp_all; intros; omega)
end Go.Proofs.YtekbilieddficaaDoor
