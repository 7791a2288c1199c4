/- PathsParts: the walk. -/
import Derived.Test.YtemgjcicikoadaaDoorPathsKeepWalk
namespace Go.Proofs.YtemgjcicikoadaaDoor
open Go.RowKit
set_option linter.unusedVariables false

theorem rvalid_big (s : ByteArray) (h80 : 80 < s.size) (hs : s.size ≤ 9223372036854775807) (w : World) : Calls Tryd.prog 12 #[.string s] w fun e w' => e = .returned (.bool false) ∧ Below w.heap.size w w' := by
  have e80 : (80 : Int) < (s.size : Int) := by omega
  go_enter Tryd.func12, Tryd.ntmps12
  go_wp2
  go_ret
  exact ⟨rfl, Below.refl _ _⟩

theorem rvalid_all (s : ByteArray) (hs : s.size ≤ 9223372036854775807) (w : World) : Calls Tryd.prog 12 #[.string s] w fun e w' => e = .returned (.bool (decide (ValidP s.data.toList))) ∧ Below w.heap.size w w' := by
  by_cases h : 80 < s.size
  · have : decide (ValidP s.data.toList) = false := decide_eq_false (fun hv => by have := hv.size; omega)
    rw [this]
    exact rvalid_big s h hs w
  · exact rvalid_any s (by omega) w

/-- the parts that were looked at -/
structure PartsOk (ps : List ByteArray) (k : Nat) (b : ByteArray) : Prop where
  text : b.data.toList = joinP (txs (ps.take k))
  ok : ∀ p ∈ ps.take k, PartOk p.data.toList ∧ p.size ≤ 10
  size : b.size ≤ 11 * k

theorem PartsOk.next {ps : List ByteArray} {k : Nat} {b p : ByteArray} (h : PartsOk ps k b) (hp : ps[k]? = some p) (ho : PartOk p.data.toList) (hz : p.size ≤ 10) (b' : ByteArray) (hb : b' = if k = 0 then b ++ p else b ++ (⟨#[47]⟩ : ByteArray) ++ p) : PartsOk ps (k + 1) b' := by
  have hlt := (List.getElem?_eq_some_iff.1 hp).1
  have htk : ps.take (k + 1) = ps.take k ++ [p] := by rw [List.take_add_one, hp]; rfl
  have h47 : (⟨#[47]⟩ : ByteArray).size = 1 := rfl
  refine ⟨?_, ?_, ?_⟩
  · rw [htk, txs_app, show txs [p] = [p.data.toList] from rfl, joinP_one_more, hb]
    by_cases h0 : k = 0
    · subst h0
      rw [if_pos rfl, if_pos (by simp [txs]), data_app, h.text]
      simp [txs, joinP]
    · rw [if_neg h0, if_neg (by
        intro e
        have h5 : ((ps.take k).map fun p => p.data.toList) = [] := e
        have h6 := congrArg List.length h5
        rw [List.length_map, List.length_take, List.length_nil] at h6
        omega), data_app, data_app, h.text]
      simp
  · intro q hq
    rw [htk] at hq
    rcases List.mem_append.1 hq with hq | hq
    · exact h.ok q hq
    · simp only [List.mem_singleton] at hq; subst hq; exact ⟨ho, hz⟩
  · have := h.size
    by_cases h0 : k = 0
    · rw [hb, if_pos h0, ByteArray.size_append]; omega
    · rw [hb, if_neg h0, ByteArray.size_append, ByteArray.size_append]; omega

theorem txs_ok {ps : List ByteArray} (h : ∀ p ∈ ps, PartOk p.data.toList ∧ p.size ≤ 10) : (∀ s ∈ txs ps, PartOk s) ∧ ∀ s ∈ txs ps, s.length ≤ 10 := by
  constructor
  all_goals
    intro s hs
    unfold txs at hs
    obtain ⟨p, hp, rfl⟩ := List.mem_map.1 hs
  · exact (h p hp).1
  · rw [← Lib.size_eq]; exact (h p hp).2

theorem downP_len (k : Nat) : (downP k).length = 3 * k := by
  induction k with
  | zero => rfl
  | succ k ih => simp only [downP, List.length_append, ih]; simp; omega

set_option maxRecDepth 100000 in
set_option maxHeartbeats 4000000 in
theorem pathsParts_walk (ps : List ByteArray) (hws : ∀ s ∈ ps, s.size ≤ maxLen) (ao : Option Addr) (c1 : Nat) (hc1 : ps.length ≤ c1) (u : Int) (hu0 : -9223372036854775808 ≤ u) (hu1 : u ≤ 9223372036854775807) (w : World) (hrow : Row w 1 ao (ps.map fun p => [.string p])) :
    Calls Tryd.prog 5 #[.slice ao ps.length c1, .int .i64 u] w fun e w' => e = .returned (.bool true) ∧ Below w.heap.size w w' := by
  have HA := Lib.hid pawake_any
  obtain ⟨n, hn⟩ : ∃ n, n = ps.length := ⟨_, rfl⟩
  have HN : Hid (ps.length = n) := Lib.hid hn.symm
  rw [← hn] at hc1 ⊢
  clear hn
  unfold maxLen at hws
  replace hws := Lib.hid hws
  have fin : Hid (∀ w7 : World, w7 = w → Calls Tryd.prog 6 #[] w7 fun e w' => e = .returned (.bool true) ∧ Below w.heap.size w w') := Lib.hid (by rintro w7 rfl; exact HA.out _)
  by_cases h0 : n = 0
  · have e0 : ((n : Int) == 0) = true := by simp [h0]
    go_enter Tryd.func5, Tryd.ntmps5
    go_wp2_with fail
    refine (HA.out _).mono ?_
    rintro e w7 ⟨rfl, b7⟩
    go_wp2
    go_ret
    exact ⟨rfl, b7⟩
  · have e0 : ((n : Int) == 0) = false := by simp; omega
    by_cases h6 : n ≤ 6
    · have e1 : ¬ (6 : Int) < (n : Int) := by omega
      by_cases hup : 0 ≤ u
      · have e2 : ¬ u < 0 := by omega
        by_cases hu8 : u ≤ 8
        · have e3 : ¬ (8 : Int) < u := by omega
          obtain ⟨m, rfl⟩ : ∃ m : Nat, u = m := ⟨u.toNat, by omega⟩
          have hm8 : m ≤ 8 := by omega
          go_enter Tryd.func5, Tryd.ntmps5
          go_wp2_with fail
          go_loopg [5, 6] n (fun x v5 v6 wr => ∃ (k : Nat) (b : ByteArray), x = n - k ∧ k ≤ n ∧ v6 = .int .i64 k ∧ v5 = .string b ∧ b.size ≤ 11 * k ∧ Hid (PartsOk ps k b) ∧ Below w.heap.size w wr)
          case atStart => exact ⟨0, ⟨#[]⟩, rfl, Nat.zero_le _, rfl, rfl, Nat.zero_le _, Lib.hid ⟨rfl, by simp, Nat.zero_le _⟩, Below.refl _ _⟩
          case round =>
            obtain ⟨k, b, rfl, hk, rfl, rfl, hbz, hok, hB⟩ := hrel
            by_cases hkn : k < n
            · have f1 : (k : Int) < (n : Int) := by omega
              obtain ⟨p, hp⟩ : ∃ p, ps[k]? = some p := ⟨ps[k]'(by rw [HN.out]; exact hkn), by simp⟩
              obtain ⟨rb, o, rfl, hat⟩ := (hrow.below hB) (by intro h; simp at h; subst h; simp at hp)
              have x0 := str_cell hat hp
              have hpz := hws.out p (List.mem_of_getElem? hp)
              simp only [Nat.reducePow, Nat.reduceSub] at hpz
              have C1 := rvalid_all p hpz wr
              obtain ⟨vb, hvb⟩ : ∃ vb, vb = decide (ValidP p.data.toList) := ⟨_, rfl⟩
              rw [← hvb] at C1
              replace C1 := Lib.hid C1
              cases vb with
              | false =>
                replace hvb := Lib.hid hvb
                clear hat
                go_wp2_with fail
                refine C1.out.mono ?_
                rintro e w1 ⟨rfl, b1⟩
                have B1 := bstep hB b1 hB.size
                go_wp2_with fail
                refine (HA.out _).mono ?_
                rintro e w2 ⟨rfl, b2⟩
                have B2 := bstep B1 b2 B1.size
                go_wp2
                go_ret
                exact ⟨rfl, B2⟩
              | true =>
                have hv : ValidP p.data.toList := of_decide_eq_true hvb.symm
                have hp80 := hv.size
                have C2 := Lib.hid (fun w => parts_any p (by omega) w)
                replace hv := Lib.hid hv
                clear hat hvb
                go_wp2_with fail
                refine C1.out.mono ?_
                rintro e w1 ⟨rfl, b1⟩
                have B1 := bstep hB b1 hB.size
                have x1 := kept_cell b1 x0
                go_wp2_with fail
                refine (C2.out _).mono ?_
                rintro e w2 ⟨⟨v, qs, rfl, hown, hqs⟩, b2⟩
                have B2 := bstep B1 b2 B1.size
                have x2 := kept_cell b2 x1
                by_cases hq : qs.length = 1
                · obtain ⟨bo, bc, rfl, _, _, _, _⟩ := hown.rown (n := 1) (by rw [strs_len, hq])
                  have hpart : PartOk p.data.toList := by
                    have h1 : (partsL p.data.toList).length = 1 := by rw [← txs_len hqs, hq]
                    match hL : partsL p.data.toList, h1 with
                    | [x], _ =>
                      have h2 := join_parts p.data.toList
                      rw [hL] at h2
                      have h3 : x = p.data.toList := by rw [← h2]; simp [joinP]
                      have := hv.out.2 x (by rw [hL]; simp)
                      rwa [h3] at this
                  replace hpart := Lib.hid hpart
                  clear hown hqs hq
                  by_cases h10 : p.size ≤ 10
                  · have f3 : ¬ (10 : Int) < (p.size : Int) := by omega
                    have hnx := fun b' hb' => hok.out.next (Lib.hid hp).out hpart.out h10 b' hb'
                    have hz1 : b.size + 1 ≤ 9223372036854775807 := by omega
                    have hz2 : b.size + p.size ≤ 9223372036854775807 := by omega
                    have hz3 : (b ++ (⟨#[47]⟩ : ByteArray)).size + p.size ≤ 9223372036854775807 := by rw [ByteArray.size_append]; have : (⟨#[47]⟩ : ByteArray).size = 1 := rfl; omega
                    by_cases hk0 : k = 0
                    · have f4 : ¬ (0 : Int) < (k : Int) := by omega
                      have hn2 := Lib.hid (hnx (b ++ p) (by rw [if_pos hk0]))
                      have hsz := Lib.hid hn2.out.size
                      subst hk0
                      simp only [Nat.add_zero] at x2
                      replace hp := Lib.hid hp
                      clear hnx x0 x1
                      go_wp2_with fail
                      go_roundg (n - (0 + 1))
                      case measure => omega
                      case rel => exact ⟨0 + 1, _, rfl, by omega, by go_num, rfl, hsz.out, hn2, B2⟩
                    · have f4 : (0 : Int) < (k : Int) := by omega
                      have hn2 := Lib.hid (hnx (b ++ (⟨#[47]⟩ : ByteArray) ++ p) (by rw [if_neg hk0]))
                      have hsz := Lib.hid hn2.out.size
                      replace hp := Lib.hid hp
                      clear hnx x0 x1
                      go_wp2_with fail
                      go_roundg (n - (k + 1))
                      case measure => omega
                      case rel => exact ⟨k + 1, _, rfl, by omega, by go_num, rfl, hsz.out, hn2, B2⟩
                  · have f3 : (10 : Int) < (p.size : Int) := by omega
                    replace hp := Lib.hid hp
                    clear x0 x1
                    go_wp2_with fail
                    refine (HA.out _).mono ?_
                    rintro e w3 ⟨rfl, b3⟩
                    have B3 := bstep B2 b3 B2.size
                    go_wp2
                    go_ret
                    exact ⟨rfl, B3⟩
                · obtain ⟨q, hq'⟩ : ∃ q, q = qs.length := ⟨_, rfl⟩
                  obtain ⟨bo, bc, rfl, _, _, _, _⟩ := hown.rown (n := q) (by rw [strs_len, hq'])
                  have f5 : ((q : Int) == 1) = false := by simp; omega
                  have f6 : ¬ (q : Int) = 1 := by omega
                  replace hp := Lib.hid hp
                  clear hown hqs hq hq' x0 x1
                  go_wp2_with fail
                  refine (HA.out _).mono ?_
                  rintro e w3 ⟨rfl, b3⟩
                  have B3 := bstep B2 b3 B2.size
                  go_wp2
                  go_ret
                  exact ⟨rfl, B3⟩
            · have f1 : ¬ (k : Int) < (n : Int) := by omega
              have htake : ps.take k = ps := List.take_of_length_le (by rw [HN.out]; omega)
              have htext : b.data.toList = joinP (txs ps) := by rw [hok.out.text, htake]
              have hall := txs_ok (by have := hok.out.ok; rw [htake] at this; exact this)
              have hLn : (txs ps).length = n := by simp [txs, HN.out]
              have hne : txs ps ≠ [] := by intro e; rw [e] at hLn; simp at hLn; omega
              have hps10 : ∀ (j : Nat) (p : ByteArray), ps[j]? = some p → p.size ≤ 10 := fun j p hp => by have := hok.out.ok p (by rw [htake]; exact List.mem_of_getElem? hp); exact this.2
              have hbz2 : b.size ≤ 66 := by omega
              have hcd := clean_down hne hall.1 hall.2 (by omega)
              have hcs := clean_slashed hne hall.1 hall.2 (by omega)
              have hjv := join_valid hne hall.1 hall.2 (by omega)
              rw [hLn] at hcd
              rw [← htext] at hcd hcs hjv
              replace htext := Lib.hid htext
              replace hall := Lib.hid hall
              replace hLn := Lib.hid hLn
              replace hne := Lib.hid hne
              replace hps10 := Lib.hid hps10
              replace hcd := Lib.hid hcd
              replace hcs := Lib.hid hcs
              replace hjv := Lib.hid hjv
              replace htake := Lib.hid htake
              obtain ⟨wo, hwo⟩ : ∃ wo, wo = wr := ⟨_, rfl⟩
              rw [← hwo] at hB ⊢
              clear hwo
              go_wp2_with fail
              go_loopg [7, 8] m (fun x v7 v8 wr => ∃ (j : Nat) (s : ByteArray), x = m - j ∧ j ≤ m ∧ v8 = .int .i64 j ∧ v7 = .string s ∧ s.size ≤ 66 + 3 * j ∧ Hid (s.data.toList = b.data.toList ++ downP j) ∧ wr = wo)
              case atStart => exact ⟨0, b, rfl, Nat.zero_le _, rfl, rfl, by omega, Lib.hid (by simp [downP]), rfl⟩
              case round =>
                obtain ⟨j, s, rfl, hj, rfl, rfl, hsz, hst, hwr⟩ := hrel
                replace hwr := hwr.symm
                subst hwr
                by_cases hjm : j < m
                · have g1 : (j : Int) < (m : Int) := by omega
                  have hz1 : s.size + 3 ≤ 9223372036854775807 := by omega
                  have hnx : Hid ((s ++ (⟨#[47, 46, 46]⟩ : ByteArray)).data.toList = b.data.toList ++ downP (j + 1)) := Lib.hid (by rw [data_app, hst.out, List.append_assoc]; rfl)
                  have hnz : (s ++ (⟨#[47, 46, 46]⟩ : ByteArray)).size ≤ 66 + 3 * (j + 1) := by rw [ByteArray.size_append]; have : (⟨#[47, 46, 46]⟩ : ByteArray).size = 3 := rfl; omega
                  replace hnz := Lib.hid hnz
                  go_wp2_with fail
                  go_roundg (m - (j + 1))
                  case measure => omega
                  case rel => exact ⟨j + 1, _, rfl, by omega, by go_num, rfl, hnz.out, hnx, rfl⟩
                · have g1 : ¬ (j : Int) < (m : Int) := by omega
                  have hcl : cleanP s.data.toList = if m < n then some (joinP ((txs ps).take (n - m))) else none := by
                    rw [hst.out, show j = m by omega]
                    exact hcd.out m
                  by_cases hmn : m < n
                  · have g2 : ¬ (n : Int) ≤ (m : Int) := by omega
                    rw [if_pos hmn] at hcl
                    obtain ⟨a, ha⟩ : ∃ a : ByteArray, a.data.toList = joinP ((txs ps).take (n - m)) := ⟨⟨_⟩, rfl⟩
                    obtain ⟨p0, hp0⟩ : ∃ p, ps[0]? = some p := ⟨ps[0]'(by rw [HN.out]; omega), by simp⟩
                    obtain ⟨pl, hpl⟩ : ∃ p, ps[n - 1]? = some p := ⟨ps[n - 1]'(by rw [HN.out]; omega), by simp⟩
                    obtain ⟨rb, o, rfl, hat0⟩ := hrow (by intro h; simp at h; subst h; simp at hp0)
                    have hcel : Hid (∀ (j : Nat) (p : ByteArray), ps[j]? = some p → w.cell? ⟨rb, o + j, none⟩ = some (.string p)) := Lib.hid (fun j p hp => str_cell hat0 hp)
                    clear hat0
                    rw [← ha] at hcl
                    have C1 := Lib.hid (pclean_some s (by omega) a hcl)
                    replace hcl := Lib.hid hcl
                    replace ha := Lib.hid ha
                    go_wp2_with fail
                    refine (C1.out _).mono ?_
                    rintro e w1 ⟨rfl, b1⟩
                    have B1 := bstep hB b1 hB.size
                    have x0 := kept_cell B1 (hcel.out 0 p0 hp0)
                    have xl := kept_cell B1 (hcel.out (n - 1) pl hpl)
                    simp only [Nat.add_zero] at x0
                    have hp0z := hps10.out 0 p0 hp0
                    replace hp0 := Lib.hid hp0
                    replace hpl := Lib.hid hpl
                    replace xl := Lib.hid xl
                    go_wp2_with fail
                    go_loopg [11, 12] (n - m - 1) (fun x v11 v12 wr => ∃ (j : Nat) (t : ByteArray), x = n - m - j ∧ 1 ≤ j ∧ j ≤ n - m ∧ v12 = .int .i64 j ∧ v11 = .string t ∧ t.size ≤ 11 * j ∧ Hid (t.data.toList = joinP (txs (ps.take j))) ∧ wr = w1)
                    case atStart =>
                      refine ⟨1, p0, rfl, Nat.le_refl _, by omega, rfl, rfl, by omega, Lib.hid ?_, rfl⟩
                      rw [show (1 : Nat) = 0 + 1 from rfl, List.take_add_one, hp0.out]
                      simp [txs, joinP]
                    case round =>
                      clear x0
                      obtain ⟨j, t, rfl, hj1, hj, rfl, rfl, htz, htt, hwr⟩ := hrel
                      replace hwr := hwr.symm
                      subst hwr
                      by_cases hjn : j < n - m
                      · have q1 : (j : Int) < (n : Int) - (m : Int) := by omega
                        have q2 : (j : Int) < (n : Int) := by omega
                        obtain ⟨p, hp⟩ : ∃ p, ps[j]? = some p := ⟨ps[j]'(by rw [HN.out]; omega), by simp⟩
                        have y0 := kept_cell B1 (hcel.out j p hp)
                        have hpz := hps10.out j p hp
                        have z1 : t.size + 1 ≤ 9223372036854775807 := by omega
                        have z2 : (t ++ (⟨#[47]⟩ : ByteArray)).size + p.size ≤ 9223372036854775807 := by rw [ByteArray.size_append]; have : (⟨#[47]⟩ : ByteArray).size = 1 := rfl; omega
                        have hnz : (t ++ (⟨#[47]⟩ : ByteArray) ++ p).size ≤ 11 * (j + 1) := by rw [ByteArray.size_append, ByteArray.size_append]; have : (⟨#[47]⟩ : ByteArray).size = 1 := rfl; omega
                        have hnx : Hid ((t ++ (⟨#[47]⟩ : ByteArray) ++ p).data.toList = joinP (txs (ps.take (j + 1)))) := Lib.hid (by
                          rw [List.take_add_one, hp, txs_app, show txs (some p).toList = [p.data.toList] from rfl, joinP_one_more, if_neg (by
                            intro e
                            have h5 : ((ps.take j).map fun p => p.data.toList) = [] := e
                            have h6 := congrArg List.length h5
                            rw [List.length_map, List.length_take, HN.out, List.length_nil] at h6
                            omega), data_app, data_app, htt.out]
                          simp)
                        replace hnz := Lib.hid hnz
                        replace hp := Lib.hid hp
                        go_wp2_with fail
                        go_roundg (n - m - (j + 1))
                        case measure => omega
                        case rel => exact ⟨j + 1, _, rfl, by omega, by omega, by go_num, rfl, hnz.out, hnx, rfl⟩
                      · have q1 : ¬ (j : Int) < (n : Int) - (m : Int) := by omega
                        obtain rfl : t = a := ext_toList (by rw [htt.out, ha.out, show j = n - m by omega, txs_take])
                        have z1 : 2 + b.size ≤ 9223372036854775807 := by omega
                        have z2 : ((⟨#[47, 47]⟩ : ByteArray) ++ b).size + 3 ≤ 9223372036854775807 := by rw [ByteArray.size_append]; have : (⟨#[47, 47]⟩ : ByteArray).size = 2 := rfl; omega
                        have C2 := Lib.hid (pclean_some ((⟨#[47, 47]⟩ : ByteArray) ++ b ++ (⟨#[47, 47, 46]⟩ : ByteArray)) (by rw [ByteArray.size_append, ByteArray.size_append]; have : (⟨#[47, 47]⟩ : ByteArray).size = 2 := rfl; have : (⟨#[47, 47, 46]⟩ : ByteArray).size = 3 := rfl; omega) b (by rw [data_app, data_app]; exact hcs.out))
                        have C3 := fun w => pvalid_any b (by omega) w
                        rw [decide_eq_true hjv.out] at C3
                        replace C3 := Lib.hid C3
                        go_wp2_with fail
                        refine (C2.out _).mono ?_
                        rintro e w3 ⟨rfl, b3⟩
                        have B3 := bstep B1 b3 B1.size
                        have xl3 := kept_cell b3 xl.out
                        go_wp2_with fail
                        refine (C3.out _).mono ?_
                        rintro e w4 ⟨rfl, b4⟩
                        have B4 := bstep B3 b4 B3.size
                        clear xl3
                        by_cases hn1 : n = 1
                        · have q3 : ((n : Int) == 1) = true := by simp [hn1]
                          have hdir : DirOf b.data.toList [] := by
                            have h1 : txs ps = [p0.data.toList] := by
                              match hL : ps, HN.out, hp0.out with
                              | [x], _, h =>
                                simp only [List.getElem?_cons_zero, Option.some.injEq] at h
                                subst h
                                rfl
                              | [], h, _ => simp at h; omega
                              | x :: y :: r, h, _ => simp at h; omega
                            have h2 := hall.out.1 p0.data.toList (by rw [h1]; simp)
                            rw [htext.out, h1]
                            simp only [joinP, List.map_nil, List.flatten_nil, List.append_nil]
                            exact dir_one h2.nice.2.2.2
                          have C4 := Lib.hid (dir_lit b (by omega) [] hdir)
                          replace hdir := Lib.hid hdir
                          replace hn1 := Lib.hid hn1
                          go_wp2_with fail
                          refine (C4.out _).mono ?_
                          rintro e w' ⟨rfl, hw'⟩
                          replace hw' := hw'.symm
                          subst hw'
                          go_wp2_with fail
                          refine (HA.out _).mono ?_
                          rintro e w5 ⟨rfl, b5⟩
                          have B5 := bstep B4 b5 B4.size
                          go_wp2
                          go_ret
                          exact ⟨by simp, B5⟩
                        · have q3 : ((n : Int) == 1) = false := by simp; omega
                          have q4 : (1 : Int) < (n : Int) := by omega
                          obtain ⟨D, hD⟩ : ∃ D : ByteArray, D.data.toList = joinP (txs (ps.take (n - 1))) := ⟨⟨_⟩, rfl⟩
                          have hbe : b = D ++ (⟨#[47]⟩ : ByteArray) ++ pl := by
                            apply ext_toList
                            rw [data_app, data_app, hD, htext.out]
                            conv => lhs; rw [show ps = ps.take (n - 1 + 1) by rw [List.take_of_length_le (by rw [HN.out]; omega)]]
                            rw [List.take_add_one, hpl.out, txs_app, show txs (some pl).toList = [pl.data.toList] from rfl, joinP_one_more, if_neg (by
                              intro e
                              have h5 : ((ps.take (n - 1)).map fun p => p.data.toList) = [] := e
                              have h6 := congrArg List.length h5
                              rw [List.length_map, List.length_take, HN.out, List.length_nil] at h6
                              omega)]
                            simp
                          have hdir : DirOf b.data.toList D.data.toList := by
                            have h2 := hall.out.1 pl.data.toList (by unfold txs; exact List.mem_map.2 ⟨pl, List.mem_of_getElem? hpl.out, rfl⟩)
                            rw [hbe, data_app, data_app]
                            have : D.data.toList ++ (⟨#[47]⟩ : ByteArray).data.toList ++ pl.data.toList = D.data.toList ++ 47 :: pl.data.toList := by simp
                            rw [this]
                            exact dir_app h2.nice.2.2.2
                          have C4 := dir_lit b (by omega) _ hdir
                          have hDl : (⟨D.data.toList.toArray⟩ : ByteArray) = D := (str_lit rfl).symm
                          rw [hDl] at C4
                          replace C4 := Lib.hid C4
                          have hbz9 : D.size + 1 + pl.size ≤ 66 := by
                            have h1 := congrArg ByteArray.size hbe
                            rw [ByteArray.size_append, ByteArray.size_append] at h1
                            have : (⟨#[47]⟩ : ByteArray).size = 1 := rfl
                            omega
                          have z3 : D.size + 1 ≤ 9223372036854775807 := by omega
                          have z4 : (D ++ (⟨#[47]⟩ : ByteArray)).size + pl.size ≤ 9223372036854775807 := by rw [ByteArray.size_append]; have : (⟨#[47]⟩ : ByteArray).size = 1 := rfl; omega
                          have hbe2 := hbe.symm
                          replace hbe := Lib.hid hbe
                          replace hdir := Lib.hid hdir
                          replace hD := Lib.hid hD
                          replace hDl := Lib.hid hDl
                          replace hbe2 := Lib.hid hbe2
                          go_wp2_with fail
                          refine (C4.out _).mono ?_
                          rintro e w' ⟨rfl, hw'⟩
                          replace hw' := hw'.symm
                          subst hw'
                          have hbe3 := hbe2.out
                          go_wp2_with fail
                          refine (HA.out _).mono ?_
                          rintro e w5 ⟨rfl, b5⟩
                          have B5 := bstep B4 b5 B4.size
                          go_wp2
                          go_ret
                          exact ⟨by simp, B5⟩
                  · have g2 : (n : Int) ≤ (m : Int) := by omega
                    rw [if_neg hmn] at hcl
                    have C1 := Lib.hid (pclean_res s (by omega) none hcl)
                    unfold resV at C1
                    replace hcl := Lib.hid hcl
                    go_wp2_with fail
                    refine (C1.out _).mono ?_
                    rintro e w1 ⟨rfl, b1⟩
                    have B1 := bstep hB b1 hB.size
                    go_wp2_with fail
                    refine (HA.out _).mono ?_
                    rintro e w2 ⟨rfl, b2⟩
                    have B2 := bstep B1 b2 B1.size
                    go_wp2
                    go_ret
                    exact ⟨rfl, B2⟩
        · have e3 : (8 : Int) < u := by omega
          go_enter Tryd.func5, Tryd.ntmps5
          go_wp2_with fail
          refine (HA.out _).mono ?_
          rintro e w7 ⟨rfl, b7⟩
          go_wp2
          go_ret
          exact ⟨rfl, b7⟩
      · have e2 : u < 0 := by omega
        go_enter Tryd.func5, Tryd.ntmps5
        go_wp2_with fail
        refine (HA.out _).mono ?_
        rintro e w7 ⟨rfl, b7⟩
        go_wp2
        go_ret
        exact ⟨rfl, b7⟩
    · have e1 : (6 : Int) < (n : Int) := by omega
      go_enter Tryd.func5, Tryd.ntmps5
      go_wp2_with fail
      refine (HA.out _).mono ?_
      rintro e w7 ⟨rfl, b7⟩
      go_wp2
      go_ret
      exact ⟨rfl, b7⟩
end Go.Proofs.YtemgjcicikoadaaDoor
