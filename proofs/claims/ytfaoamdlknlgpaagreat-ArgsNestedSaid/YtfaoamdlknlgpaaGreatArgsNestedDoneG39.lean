/- Texts of this seat's proofs, laid into one file. -/
import Derived.Test.YtfaoamdlknlgpaaGreatArgsNestedDoneG26
import Derived.Test.YtfaoamdlknlgpaaGreatArgsNestedDoneG38
import Derived.Test.YtfaoamdlknlgpaaGreatArgsNestedDoneG2
/- ArgsNested: the walk. -/
namespace Go.Proofs.YtfaoamdlknlgpaaGreat
open Go.RowKit
set_option linter.unusedVariables false

/-- how deep each is -/
def dpsL (zs : List Int) : List Nat := zs.map fun z => (rndX z 6).toNat

/-- the text so far, as a string -/
structure NsAt (P : List Pc) (S : ByteArray) (m : Nat) : Prop where
  text : S.data.toList = flatP P
  size : S.size ≤ m

theorem NsAt.app {P Q : List Pc} {S : ByteArray} {m : Nat} (h : NsAt P S m) (B : ByteArray) (hB : B.data.toList = flatP Q) : NsAt (P ++ Q) (S ++ B) (m + B.size) :=
  ⟨by rw [data_appY, h.text, hB, flat_app], by rw [ByteArray.size_append]; have := h.size; omega⟩

def sepP (i : Nat) : List Pc := if i = 0 then [] else [pC]

theorem ns_next {zs : List Int} {i d : Nat} {z : Int} (hz : zs[i]? = some z) (hd : (rndX z 6).toNat = d) : (pO :: bodyF true ((dpsL zs).take i)) ++ sepP i ++ opensP d ++ [pX] ++ shutsP d = pO :: bodyF true ((dpsL zs).take (i + 1)) := by
  have h1 : (dpsL zs)[i]? = some d := by unfold dpsL; rw [List.getElem?_map, hz, ← hd]; rfl
  rw [List.take_add_one, h1]
  show _ = pO :: bodyF true (List.take i (dpsL zs) ++ [d])
  rw [body_snoc]
  have h2 : sepP i = if (true && (List.take i (dpsL zs)).isEmpty) = true then [] else [pC] := by
    unfold sepP
    have hl : i < (dpsL zs).length := (List.getElem?_eq_some_iff.1 h1).1
    by_cases h0 : i = 0
    · subst h0; rfl
    · rw [if_neg h0, if_neg]
      intro h
      have : List.take i (dpsL zs) = [] := by simpa using h
      have := congrArg List.length this
      rw [List.length_take, Nat.min_eq_left (Nat.le_of_lt hl)] at this
      exact h0 this
  rw [h2]
  simp [blockP]

/-- what Collect gives, in words of the walk -/
theorem coll_full {l : List Tm} {B : Nat} {e : Ending} {w' : World} (h : CollPost (colP (l.map nilTf)) B e w') {ds : List Nat} {n mm : Nat} (hn : ds.length = n) (h0 : 0 < n)
    (h1 : (colP (l.map nilTf)).1.map List.length = ds.map (fun d => 4 * d + 1)) (h2 : (colP (l.map nilTf)).2.1.length = n - 1) (h3 : (colP (l.map nilTf)).2.2 = mm) (h4 : 0 < mm) :
    ∃ lb lo lc ca cc, e = .returned (.tuple #[.slice (some ⟨lb, lo, none⟩) n lc, .slice ca (n - 1) cc, .int .i64 mm, .bool true]) ∧ ∀ (k d : Nat), ds[k]? = some d → ∃ la lcc, w'.cell? ⟨lb, lo + k, none⟩ = some (.slice la (4 * d + 1) lcc) := by
  obtain ⟨v2, v3, rfl, ho2, ho3⟩ := h
  have hl : (colP (l.map nilTf)).1.length = n := by
    have := congrArg List.length h1
    simpa [hn] using this
  obtain ⟨ao, cap, rfl⟩ := ho2.slice hl
  obtain ⟨ca, cc, rfl⟩ := ho3.slice h2
  have hcell : ∀ (k d : Nat), ds[k]? = some d → ∃ b o la lcc, ao = some ⟨b, o, none⟩ ∧ w'.cell? ⟨b, o + k, none⟩ = some (.slice la (4 * d + 1) lcc) := by
    intro k d hd
    have hm : ((colP (l.map nilTf)).1.map List.length)[k]? = some (4 * d + 1) := by rw [h1, List.getElem?_map, hd]; rfl
    rw [List.getElem?_map] at hm
    cases hX : (colP (l.map nilTf)).1[k]? with
    | none => rw [hX] at hm; cases hm
    | some X =>
      rw [hX] at hm
      simp only [Option.map_some, Option.some.injEq] at hm
      obtain ⟨b, o, la, lcc, rfl, hc, _⟩ := ho2.cell hX
      rw [hm] at hc
      exact ⟨b, o, la, lcc, rfl, hc⟩
  obtain ⟨d0, hd0⟩ : ∃ d, ds[0]? = some d := ⟨_, List.getElem?_eq_getElem (by omega)⟩
  obtain ⟨b, o, la, lcc, rfl, _⟩ := hcell 0 d0 hd0
  refine ⟨b, o, cap, ca, cc, ?_, fun k d hd => ?_⟩
  · rw [h3]
    simp [h4]
  · obtain ⟨b', o', la, lcc, he, hc⟩ := hcell k d hd
    simp only [Option.some.injEq, Addr.mk.injEq, and_true] at he
    obtain ⟨rfl, rfl⟩ := he
    exact ⟨la, lcc, hc⟩

theorem coll_null {l : List Tm} {B : Nat} {e : Ending} {w' : World} (h : CollPost (colP (l.map nilTf)) B e w') (h1 : colP (l.map nilTf) = ([], [], 0)) :
    ∃ la lc ca cc, e = .returned (.tuple #[.slice la 0 lc, .slice ca 0 cc, .int .i64 0, .bool false]) := by
  rw [h1] at h
  obtain ⟨v2, v3, rfl, ho2, ho3⟩ := h
  obtain ⟨ao, cap, rfl⟩ := ho2.slice (n := 0) rfl
  obtain ⟨ca, cc, rfl⟩ := ho3.slice (n := 0) rfl
  exact ⟨ao, cap, ca, cc, rfl⟩

set_option maxHeartbeats 4000000 in
set_option maxRecDepth 100000 in
theorem argsNested_walk (zs : List Int) (ao : Option Addr) (c0 : Nat) (hc0 : zs.length ≤ c0) (hr0 : ∀ z ∈ zs, -9223372036854775808 ≤ z ∧ z ≤ 9223372036854775807) (b : Bool) (w : World) (hrw : Row w 1 ao (zs.map fun z => [.int .i64 z])) :
    Calls Tryz.prog 5 #[.slice ao zs.length c0, .bool b] w fun e w' => e = .returned (.bool true) ∧ Below w.heap.size w w' := by
  obtain ⟨n, hn⟩ : ∃ n, n = zs.length := ⟨_, rfl⟩
  have HN : Hid (zs.length = n) := Lib.hid hn.symm
  rw [← hn] at hc0 ⊢
  clear hn
  replace hr0 := Lib.hid hr0
  replace hrw := Lib.hid hrw
  have HA := Lib.hid (fun W => awake10_any W)
  by_cases hn0 : n = 0
  · subst hn0
    go_enter Tryz.func5, Tryz.ntmps5
    go_wp2_with fail
    refine (HA.out _).mono ?_
    rintro e w' ⟨rfl, hb⟩
    go_wp2
    go_ret
    exact ⟨rfl, hb⟩
  have hn1 : ((n : Int) == 0) = false := beq_false_of_ne (by omega)
  by_cases hn12 : 12 < n
  · have hn2 : (12 : Int) < n := by omega
    go_enter Tryz.func5, Tryz.ntmps5
    go_wp2_with fail
    refine (HA.out _).mono ?_
    rintro e w' ⟨rfl, hb⟩
    go_wp2
    go_ret
    exact ⟨rfl, hb⟩
  have hn2 : ¬ (12 : Int) < n := by omega
  have hs0 : Hid (NsAt (pO :: bodyF true ((dpsL zs).take 0)) (⟨#[40]⟩ : ByteArray) (30 * 0 + 1)) := Lib.hid ⟨rfl, by decide⟩
  go_enter Tryz.func5, Tryz.ntmps5
  go_wp2_with fail
  go_loopg [5, 6, 7, 8, 9] n (fun q s5 s6 s7 s8 s9 wx => ∃ (i : Nat) (S : ByteArray), q = n - i ∧ i ≤ n ∧ s5 = .string S ∧ s6 = .int .i64 i ∧ Hid (NsAt (pO :: bodyF true ((dpsL zs).take i)) S (30 * i + 1)) ∧ wx = w)
  case atStart => exact ⟨0, _, rfl, Nat.zero_le _, rfl, rfl, hs0, rfl⟩
  case round =>
    obtain ⟨i, S, hq, hi, rfl, rfl, hS, hw⟩ := hrel
    replace hw := hw.symm
    subst hw
    replace hq := hq.symm
    subst hq
    have hz1 : S.size + 1 ≤ 9223372036854775807 := by have := hS.out.size; omega
    by_cases hin : i < n
    · have hin' : (i : Int) < n := by omega
      have f4 : Hid (n - (i + 1) < n - i) := Lib.hid (by omega)
      have g1 : IntKind.i64.wrap ((i : Int) + 1) = (i : Int) + 1 := IntWalk.i64_in _ (by omega)
      obtain ⟨z, hp⟩ : ∃ z, zs[i]? = some z := ⟨_, List.getElem?_eq_getElem (by rw [HN.out]; exact hin)⟩
      obtain ⟨rb, o, rfl, hat⟩ := hrw.out (by intro h; simp at h; subst h; simp at hp)
      have x1 := int_cell hat hp
      have hrr := rndX_range z 6 (by decide)
      obtain ⟨d, hdd⟩ : ∃ d : Nat, rndX z 6 = (d : Int) := ⟨(rndX z 6).toNat, by omega⟩
      have hRd := roundX_any z 6 (by decide) (by decide) (hr0.out z (List.mem_of_getElem? hp)) w
      have hdz : Hid ((rndX z 6).toNat = d) := Lib.hid (by omega)
      have hd6 : Hid (d ≤ 5) := Lib.hid (by omega)
      have hd7 : d ≤ 5 := by omega
      rw [hdd] at hRd
      replace hRd := Lib.hid hRd
      replace hp := Lib.hid hp
      clear hat hrr hdd
      by_cases hi0 : i = 0
      · have hi1 : ¬ (0 : Int) < i := by omega
        have hS1 : Hid (NsAt (pO :: bodyF true ((dpsL zs).take i) ++ sepP i ++ opensP 0) S (30 * i + 2 + 2 * 0)) := Lib.hid (by
          have h := hS.out
          rw [show sepP i = [] from if_pos hi0]
          exact ⟨by simpa [opensP] using h.text, by have := h.size; omega⟩)
        replace hi0 := Lib.hid hi0
        go_wp2_with fail
        refine hRd.out.mono ?_
        rintro e w2 ⟨rfl, hw⟩
        replace hw := hw.symm
        subst hw
        go_wp2_with fail
        go_loopg [5, 8] d (fun q s5 s8 wx => ∃ (k : Nat) (S2 : ByteArray), q = d - k ∧ k ≤ d ∧ s5 = .string S2 ∧ s8 = .int .i64 k ∧ Hid (NsAt (pO :: bodyF true ((dpsL zs).take i) ++ sepP i ++ opensP k) S2 (30 * i + 2 + 2 * k)) ∧ wx = w)
        case atStart => exact ⟨0, _, rfl, Nat.zero_le _, rfl, rfl, hS1, rfl⟩
        case round =>
          obtain ⟨k, S2, hq2, hk, rfl, rfl, hS2, hw⟩ := hrel
          replace hw := hw.symm
          subst hw
          replace hq2 := hq2.symm
          subst hq2
          have hz2 : S2.size + 2 ≤ 9223372036854775807 := by have := hS2.out.size; omega
          by_cases hkd : k < d
          · have hkd' : (k : Int) < d := by omega
            have g2 : IntKind.i64.wrap ((k : Int) + 1) = (k : Int) + 1 := IntWalk.i64_in _ (by omega)
            have f5 : Hid (d - (k + 1) < d - k) := Lib.hid (by omega)
            have hn2 : Hid (NsAt (pO :: bodyF true ((dpsL zs).take i) ++ sepP i ++ opensP (k + 1)) (S2 ++ (⟨#[40, 44]⟩ : ByteArray)) (30 * i + 2 + 2 * (k + 1))) := Lib.hid (by
              have h := hS2.out.app (Q := [pO, pC]) ⟨#[40, 44]⟩ rfl
              rw [opens_snoc, ← List.append_assoc]
              exact h)
            go_wp2_with fail
            go_roundg (d - (k + 1))
            case measure => exact f5.out
            case rel => exact ⟨k + 1, _, rfl, by omega, rfl, by simp, hn2, rfl⟩
          · have hkd' : ¬ (k : Int) < d := by omega
            obtain rfl : k = d := by omega
            have hn3 : Hid (NsAt (pO :: bodyF true ((dpsL zs).take i) ++ sepP i ++ opensP k ++ [pX] ++ shutsP 0) (S2 ++ (⟨#[120]⟩ : ByteArray)) (30 * i + 3 + 2 * k + 2 * 0)) := Lib.hid (by
              have h := hS2.out.app (Q := [pX]) ⟨#[120]⟩ rfl
              exact ⟨by have h2 := h.text; simpa [shutsP] using h2, by have h2 := h.size; have e : (⟨#[120]⟩ : ByteArray).size = 1 := rfl; omega⟩)
            have hkk : Hid (k ≤ 5) := hd6
            go_wp2_with fail
            go_loopg [5, 9] k (fun q s5 s9 wx => ∃ (j : Nat) (S3 : ByteArray), q = k - j ∧ j ≤ k ∧ s5 = .string S3 ∧ s9 = .int .i64 j ∧ Hid (NsAt (pO :: bodyF true ((dpsL zs).take i) ++ sepP i ++ opensP k ++ [pX] ++ shutsP j) S3 (30 * i + 3 + 2 * k + 2 * j)) ∧ wx = w)
            case atStart => exact ⟨0, _, rfl, Nat.zero_le _, rfl, rfl, hn3, rfl⟩
            case round =>
              obtain ⟨j, S3, hq3, hj, rfl, rfl, hS3, hw⟩ := hrel
              replace hw := hw.symm
              subst hw
              replace hq3 := hq3.symm
              subst hq3
              have hz3 : S3.size + 2 ≤ 9223372036854775807 := by have := hS3.out.size; omega
              by_cases hjk : j < k
              · have hjk' : (j : Int) < k := by omega
                have g3 : IntKind.i64.wrap ((j : Int) + 1) = (j : Int) + 1 := IntWalk.i64_in _ (by omega)
                have f6 : Hid (k - (j + 1) < k - j) := Lib.hid (by omega)
                have hn4 : Hid (NsAt (pO :: bodyF true ((dpsL zs).take i) ++ sepP i ++ opensP k ++ [pX] ++ shutsP (j + 1)) (S3 ++ (⟨#[44, 41]⟩ : ByteArray)) (30 * i + 3 + 2 * k + 2 * (j + 1))) := Lib.hid (by
                  have h := hS3.out.app (Q := [pC, pS]) ⟨#[44, 41]⟩ rfl
                  rw [shuts_snoc, ← List.append_assoc]
                  exact h)
                go_wp2_with fail
                go_roundg (k - (j + 1))
                case measure => exact f6.out
                case rel => exact ⟨j + 1, _, rfl, by omega, rfl, by simp, hn4, rfl⟩
              · have hjk' : ¬ (j : Int) < k := by omega
                obtain rfl : j = k := by omega
                have hn5 : Hid (NsAt (pO :: bodyF true ((dpsL zs).take (i + 1))) S3 (30 * (i + 1) + 1)) := Lib.hid (by
                  have h := hS3.out
                  rw [ns_next hp.out hdz.out] at h
                  exact ⟨h.text, by have := h.size; have := hkk.out; omega⟩)
                go_wp2_with fail
                go_roundg (n - (i + 1))
                case measure => exact f4.out
                case rel => exact ⟨i + 1, _, rfl, by omega, rfl, by simp, hn5, rfl⟩
      · have hi1 : (0 : Int) < i := by omega
        have hS1 : Hid (NsAt (pO :: bodyF true ((dpsL zs).take i) ++ sepP i ++ opensP 0) (S ++ (⟨#[44]⟩ : ByteArray)) (30 * i + 2 + 2 * 0)) := Lib.hid (by
          have h := hS.out.app (Q := [pC]) ⟨#[44]⟩ rfl
          rw [show sepP i = [pC] from if_neg hi0]
          exact ⟨by simpa [opensP] using h.text, h.size⟩)
        replace hi0 := Lib.hid hi0
        go_wp2_with fail
        refine hRd.out.mono ?_
        rintro e w2 ⟨rfl, hw⟩
        replace hw := hw.symm
        subst hw
        go_wp2_with fail
        go_loopg [5, 8] d (fun q s5 s8 wx => ∃ (k : Nat) (S2 : ByteArray), q = d - k ∧ k ≤ d ∧ s5 = .string S2 ∧ s8 = .int .i64 k ∧ Hid (NsAt (pO :: bodyF true ((dpsL zs).take i) ++ sepP i ++ opensP k) S2 (30 * i + 2 + 2 * k)) ∧ wx = w)
        case atStart => exact ⟨0, _, rfl, Nat.zero_le _, rfl, rfl, hS1, rfl⟩
        case round =>
          obtain ⟨k, S2, hq2, hk, rfl, rfl, hS2, hw⟩ := hrel
          replace hw := hw.symm
          subst hw
          replace hq2 := hq2.symm
          subst hq2
          have hz2 : S2.size + 2 ≤ 9223372036854775807 := by have := hS2.out.size; omega
          by_cases hkd : k < d
          · have hkd' : (k : Int) < d := by omega
            have g2 : IntKind.i64.wrap ((k : Int) + 1) = (k : Int) + 1 := IntWalk.i64_in _ (by omega)
            have f5 : Hid (d - (k + 1) < d - k) := Lib.hid (by omega)
            have hn2 : Hid (NsAt (pO :: bodyF true ((dpsL zs).take i) ++ sepP i ++ opensP (k + 1)) (S2 ++ (⟨#[40, 44]⟩ : ByteArray)) (30 * i + 2 + 2 * (k + 1))) := Lib.hid (by
              have h := hS2.out.app (Q := [pO, pC]) ⟨#[40, 44]⟩ rfl
              rw [opens_snoc, ← List.append_assoc]
              exact h)
            go_wp2_with fail
            go_roundg (d - (k + 1))
            case measure => exact f5.out
            case rel => exact ⟨k + 1, _, rfl, by omega, rfl, by simp, hn2, rfl⟩
          · have hkd' : ¬ (k : Int) < d := by omega
            obtain rfl : k = d := by omega
            have hn3 : Hid (NsAt (pO :: bodyF true ((dpsL zs).take i) ++ sepP i ++ opensP k ++ [pX] ++ shutsP 0) (S2 ++ (⟨#[120]⟩ : ByteArray)) (30 * i + 3 + 2 * k + 2 * 0)) := Lib.hid (by
              have h := hS2.out.app (Q := [pX]) ⟨#[120]⟩ rfl
              exact ⟨by have h2 := h.text; simpa [shutsP] using h2, by have h2 := h.size; have e : (⟨#[120]⟩ : ByteArray).size = 1 := rfl; omega⟩)
            have hkk : Hid (k ≤ 5) := hd6
            go_wp2_with fail
            go_loopg [5, 9] k (fun q s5 s9 wx => ∃ (j : Nat) (S3 : ByteArray), q = k - j ∧ j ≤ k ∧ s5 = .string S3 ∧ s9 = .int .i64 j ∧ Hid (NsAt (pO :: bodyF true ((dpsL zs).take i) ++ sepP i ++ opensP k ++ [pX] ++ shutsP j) S3 (30 * i + 3 + 2 * k + 2 * j)) ∧ wx = w)
            case atStart => exact ⟨0, _, rfl, Nat.zero_le _, rfl, rfl, hn3, rfl⟩
            case round =>
              obtain ⟨j, S3, hq3, hj, rfl, rfl, hS3, hw⟩ := hrel
              replace hw := hw.symm
              subst hw
              replace hq3 := hq3.symm
              subst hq3
              have hz3 : S3.size + 2 ≤ 9223372036854775807 := by have := hS3.out.size; omega
              by_cases hjk : j < k
              · have hjk' : (j : Int) < k := by omega
                have g3 : IntKind.i64.wrap ((j : Int) + 1) = (j : Int) + 1 := IntWalk.i64_in _ (by omega)
                have f6 : Hid (k - (j + 1) < k - j) := Lib.hid (by omega)
                have hn4 : Hid (NsAt (pO :: bodyF true ((dpsL zs).take i) ++ sepP i ++ opensP k ++ [pX] ++ shutsP (j + 1)) (S3 ++ (⟨#[44, 41]⟩ : ByteArray)) (30 * i + 3 + 2 * k + 2 * (j + 1))) := Lib.hid (by
                  have h := hS3.out.app (Q := [pC, pS]) ⟨#[44, 41]⟩ rfl
                  rw [shuts_snoc, ← List.append_assoc]
                  exact h)
                go_wp2_with fail
                go_roundg (k - (j + 1))
                case measure => exact f6.out
                case rel => exact ⟨j + 1, _, rfl, by omega, rfl, by simp, hn4, rfl⟩
              · have hjk' : ¬ (j : Int) < k := by omega
                obtain rfl : j = k := by omega
                have hn5 : Hid (NsAt (pO :: bodyF true ((dpsL zs).take (i + 1))) S3 (30 * (i + 1) + 1)) := Lib.hid (by
                  have h := hS3.out
                  rw [ns_next hp.out hdz.out] at h
                  exact ⟨h.text, by have := h.size; have := hkk.out; omega⟩)
                go_wp2_with fail
                go_roundg (n - (i + 1))
                case measure => exact f4.out
                case rel => exact ⟨i + 1, _, rfl, by omega, rfl, by simp, hn5, rfl⟩
    · have hin' : ¬ (i : Int) < n := by omega
      have hie : i = n := by omega
      have htk : (dpsL zs).take i = dpsL zs := List.take_of_length_le (by unfold dpsL; rw [List.length_map, HN.out, hie]; exact Nat.le_refl _)
      rw [htk] at hS
      have hdl : (dpsL zs).length = n := by unfold dpsL; rw [List.length_map, HN.out]
      obtain ⟨d0, ds, hds⟩ : ∃ d0 ds, dpsL zs = d0 :: ds := by
        cases h : dpsL zs with
        | nil => rw [h] at hdl; simp at hdl; omega
        | cons d ds => exact ⟨d, ds, rfl⟩
      have hdsl : ds.length = n - 1 := by have := hdl; rw [hds] at this; simp only [List.length_cons] at this; omega
      have hSt : Hid (S.data.toList = nestT (d0 :: ds)) := Lib.hid (by rw [hS.out.text, hds]; rfl)
      have hSz : S.size ≤ 30 * n + 1 := by have := hS.out.size; omega
      replace hdl := Lib.hid hdl
      replace hds := Lib.hid hds
      replace hdsl := Lib.hid hdsl
      clear hS htk
      cases b with
      | false =>
        have hz2 : S.size + 2 ≤ 9223372036854775807 := by omega
        have HT := toks10_row (S ++ (⟨#[32, 121]⟩ : ByteArray)) (by rw [ByteArray.size_append]; have e : (⟨#[32, 121]⟩ : ByteArray).size = 2 := rfl; omega) w
        replace HT := Lib.hid HT
        go_wp2_with fail
        refine HT.out.mono ?_
        rintro e w1 ⟨l1, n1, ao1, cap1, rfl, hb1, hl1, hr1⟩
        have hcn : Hid (colP (l1.map nilTf) = ([], [], 0)) := Lib.hid (nest_no d0 ds (by rw [hl1.out, data_appY, hSt.out]))
        have HC1 : Hid (Calls Tryz.prog 22 #[.slice ao1 n1 cap1] w1 fun e w' => CollPost (colP (l1.map nilTf)) w1.heap.size e w' ∧ Below w1.heap.size w1 w') := Lib.hid (by
          obtain ⟨h1, h2, h3, h4⟩ := hr1.out
          subst h1
          rw [ByteArray.size_append] at h2
          have e : (⟨#[32, 121]⟩ : ByteArray).size = 2 := rfl
          exact collectN_any l1 ao1 cap1 (by omega) h3 w1 h4)
        clear hl1 hr1
        go_wp2_with fail
        refine HC1.out.mono ?_
        rintro e w2 ⟨hp2, hb2⟩
        obtain ⟨la, lc, ca, cc, rfl⟩ := coll_null hp2 hcn.out
        have hB2 := hb1.trans (hb2.mono hb1.size)
        clear hp2 hb1 hb2 HC1
        go_wp2_with fail
        refine (HA.out _).mono ?_
        rintro e w3 ⟨rfl, hb3⟩
        go_wp2
        go_ret
        exact ⟨rfl, hB2.trans (hb3.mono hB2.size)⟩
      | true =>
        have hz1' : S.size + 1 ≤ 9223372036854775807 := by omega
        obtain ⟨S1, hS1⟩ : ∃ S1, S1 = S ++ (⟨#[41]⟩ : ByteArray) := ⟨_, rfl⟩
        have hs1 : S1.size = S.size + 1 := by rw [hS1, ByteArray.size_append]; rfl
        have hS1t : Hid (S1.data.toList = nestT (d0 :: ds) ++ [41]) := Lib.hid (by rw [hS1, data_appY, hSt.out])
        have hz2 : S1.size + 2 ≤ 9223372036854775807 := by omega
        have hz2' : (S ++ (⟨#[41]⟩ : ByteArray)).size + 2 ≤ 9223372036854775807 := by rw [← hS1]; exact hz2
        have HT := toks10_row (S1 ++ (⟨#[32, 121]⟩ : ByteArray)) (by rw [ByteArray.size_append]; have e : (⟨#[32, 121]⟩ : ByteArray).size = 2 := rfl; omega) w
        have HT1 := fun W => toks10_row S1 (by omega) W
        replace HT := Lib.hid HT
        replace HT1 := Lib.hid HT1
        obtain ⟨mm, hmm⟩ : ∃ mm, mm = (toksL S1.data.toList).length := ⟨_, rfl⟩
        go_wp2_with fail
        rw [← hS1]
        refine HT.out.mono ?_
        rintro e w1 ⟨l1, n1, ao1, cap1, rfl, hb1, hl1, hr1⟩
        obtain ⟨y1, y2, y3, y4⟩ := nest_yes d0 ds (l := l1) (m := toksL S1.data.toList) (by rw [hl1.out, data_appY, hS1t.out]) (by rw [hS1t.out])
        rw [← hmm] at y3 y4
        rw [← hds.out] at y1
        rw [hdsl.out] at y2
        replace y1 := Lib.hid y1
        replace y2 := Lib.hid y2
        replace y3 := Lib.hid y3
        replace y4 := Lib.hid y4
        have HC1 : Hid (Calls Tryz.prog 22 #[.slice ao1 n1 cap1] w1 fun e w' => CollPost (colP (l1.map nilTf)) w1.heap.size e w' ∧ Below w1.heap.size w1 w') := Lib.hid (by
          obtain ⟨h1, h2, h3, h4⟩ := hr1.out
          subst h1
          rw [ByteArray.size_append] at h2
          have e : (⟨#[32, 121]⟩ : ByteArray).size = 2 := rfl
          exact collectN_any l1 ao1 cap1 (by omega) h3 w1 h4)
        have g5 : IntKind.i64.wrap ((n : Int) - 1) = ((n - 1 : Nat) : Int) := by rw [IntWalk.i64_in _ (by omega)]; omega
        replace hmm := Lib.hid hmm
        replace hS1 := Lib.hid hS1
        clear hl1 hr1
        go_wp2_with fail
        refine HC1.out.mono ?_
        rintro e w2 ⟨hp2, hb2⟩
        obtain ⟨lb, lo, lc, ca, cc, rfl, hcl⟩ := coll_full hp2 hdl.out (by omega) y1.out y2.out y3.out y4.out
        have hB2 := hb1.trans (hb2.mono hb1.size)
        replace hcl := Lib.hid hcl
        clear hp2 hb1 hb2 HC1
        go_wp2_with fail
        refine (HT1.out w2).mono ?_
        rintro e w3 ⟨l3, n3, ao3, cap3, rfl, hb3, hl3, hr3⟩
        obtain rfl : n3 = mm := by rw [hmm.out, ← hl3.out]; exact hr3.out.1.symm
        have hB3 := Lib.hid (hB2.trans (hb3.mono hB2.size))
        have hcl3 : Hid (∀ (k d : Nat), (dpsL zs)[k]? = some d → ∃ la lcc, w3.cell? ⟨lb, lo + k, none⟩ = some (.slice la (4 * d + 1) lcc)) := Lib.hid fun k d hd => by
          obtain ⟨la, lcc, hc⟩ := hcl.out k d hd
          exact ⟨la, lcc, kept_cell hb3 hc⟩
        clear hcl hl3 hr3 hb3 hB2
        go_wp2_with fail
        go_loopg [14] n (fun q v14 wx => ∃ i : Nat, q = n - i ∧ i ≤ n ∧ v14 = .int .i64 i ∧ Hid (Below w3.heap.size w3 wx))
        case atStart => exact ⟨0, rfl, Nat.zero_le _, rfl, Lib.hid (Below.refl _ _)⟩
        case round =>
          obtain ⟨j, hq, hj, rfl, hbj⟩ := hrel
          replace hq := hq.symm
          subst hq
          by_cases hjn : j < n
          · have hjn' : (j : Int) < n := by omega
            have f4 : Hid (n - (j + 1) < n - j) := Lib.hid (by omega)
            have g1 : IntKind.i64.wrap ((j : Int) + 1) = (j : Int) + 1 := IntWalk.i64_in _ (by omega)
            obtain ⟨z, hp⟩ : ∃ z, zs[j]? = some z := ⟨_, List.getElem?_eq_getElem (by rw [HN.out]; exact hjn)⟩
            obtain ⟨rb, o, rfl, hat⟩ := hrw.out (by intro h; simp at h; subst h; simp at hp)
            have x1 := kept_cell hbj.out (kept_cell hB3.out (int_cell hat hp))
            have hrr := rndX_range z 6 (by decide)
            obtain ⟨d, hdd⟩ : ∃ d : Nat, rndX z 6 = (d : Int) := ⟨(rndX z 6).toNat, by omega⟩
            have hRd := fun W => roundX_any z 6 (by decide) (by decide) (hr0.out z (List.mem_of_getElem? hp)) W
            obtain ⟨la, lcc, x2'⟩ := hcl3.out j d (by unfold dpsL; rw [List.getElem?_map, hp]; simp [hdd])
            have x2 := kept_cell hbj.out x2'
            have hd7 : d ≤ 5 := by omega
            rw [hdd] at hRd
            replace hRd := Lib.hid hRd
            have g6 : IntKind.i64.wrap (4 * (d : Int)) = 4 * (d : Int) := IntWalk.i64_in _ (by omega)
            obtain ⟨m, hm⟩ : ∃ m, m = 4 * d + 1 := ⟨_, rfl⟩
            have g7 : IntKind.i64.wrap (1 + 4 * (d : Int)) = (m : Int) := by rw [IntWalk.i64_in _ (by omega), hm]; omega
            rw [← hm] at x2
            clear hat hrr hdd hp x2' hm
            go_wp2_with fail
            go_region_law (go_simp; go_at_call 21; refine (hRd.out _).mono ?_; rintro e w9 ⟨rfl, hw9⟩; subst hw9)
            all_goals
              go_wp2_with fail
              go_roundg (n - (j + 1))
              case measure => exact f4.out
              case rel => exact ⟨j + 1, rfl, hjn, by simp, Lib.hid hbj.out.drew⟩
          · have hjn' : ¬ (j : Int) < n := by omega
            go_wp2_with fail
            refine (HA.out _).mono ?_
            rintro e w4 ⟨rfl, hb4⟩
            have hB4 := hB3.out.trans (hbj.out.mono hB3.out.size)
            go_wp2
            go_ret
            exact ⟨rfl, hB4.trans (hb4.mono hB4.size)⟩
end Go.Proofs.YtfaoamdlknlgpaaGreat
