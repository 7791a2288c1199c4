/- Paths: strings.Join at a slash. -/
import Derived.Test.YtekbilieddficaaDoorPa6
namespace Go.Proofs.YtekbilieddficaaDoor
open Go.RowKit
set_option linter.unusedVariables false

theorem costP_take (l : List (List UInt8)) (k : Nat) : costP (l.take k) ≤ costP l := by
  conv => rhs; rw [← List.take_append_drop k l, costP_app]
  omega

theorem quo_big (n : Nat) (h2 : 2 ≤ n) (hn : n ≤ 100000) : decide ((9223372036854775807 : Int) / ((n : Int) - 1) ≤ 1) = false := by
  rw [decide_eq_false_iff_not]
  intro h
  have h1 : (2 : Int) ≤ 9223372036854775807 / ((n : Int) - 1) := Int.le_ediv_of_mul_le (by omega) (by omega)
  omega

set_option maxRecDepth 100000 in
set_option maxHeartbeats 4000000 in
theorem sjoin_any (ps : List ByteArray) (hc : costP (txs ps) ≤ 100000) (ao : Option Addr) (n cap : Nat) (hn : ps.length = n) (hcap : n ≤ cap) (hcm : cap ≤ maxLen) (w : World) (hrow : Row w 1 ao (strs ps)) :
    Calls Tryd.prog 79 #[.slice ao n cap, .string ⟨#[47]⟩] w fun e w' => (∃ r : ByteArray, e = .returned (.string r) ∧ r.data.toList = joinP (txs ps)) ∧ Below w.heap.size w w' := by
  have HN : Hid (ps.length = n) := Lib.hid hn
  have hn8 : n ≤ 100000 := by have := costP_len (txs ps); rw [show (txs ps).length = ps.length by simp [txs], hn] at this; omega
  unfold maxLen at hcm
  replace hc := Lib.hid hc
  have hcell : Hid (∀ (k : Nat) (p : ByteArray), ps[k]? = some p → ∃ rb o, ao = some ⟨rb, o, none⟩ ∧ ∀ (j : Nat) (q : ByteArray), ps[j]? = some q → w.cell? ⟨rb, o + j, none⟩ = some (.string q)) := Lib.hid (by
    intro k p hp
    obtain ⟨rb, o, e, hat⟩ := hrow (by intro h; unfold strs at h; simp at h; subst h; simp at hp)
    exact ⟨rb, o, e, fun j q hq => str_cell hat hq⟩)
  by_cases h0 : n = 0
  · subst h0
    obtain rfl : ps = [] := List.eq_nil_of_length_eq_zero hn
    go_enter Tryd.func79, Tryd.ntmps79
    go_wp2
    go_ret
    exact ⟨⟨_, rfl, rfl⟩, Below.refl _ _⟩
  · by_cases h1 : n = 1
    · subst h1
      match ps, hn with
      | [p], _ =>
        obtain ⟨rb, o, rfl, hcl⟩ := hcell.out 0 p rfl
        have x0 := hcl 0 p rfl
        simp only [Nat.add_zero] at x0
        clear hcl hn hrow
        go_enter Tryd.func79, Tryd.ntmps79
        go_wp2
        go_ret
        exact ⟨⟨p, rfl, by simp [txs, joinP]⟩, Below.refl _ _⟩
    · have e0 : ((n : Int) == 0) = false := by simp; omega
      have e1 : ((n : Int) == 1) = false := by simp; omega
      have hq := quo_big n (by omega) hn8
      obtain ⟨p0, hp0⟩ : ∃ p, ps[0]? = some p := ⟨ps[0]'(by omega), by simp⟩
      obtain ⟨rb, o, rfl, hcl⟩ := hcell.out 0 p0 hp0
      have x0 := hcl 0 p0 hp0
      simp only [Nat.add_zero] at x0
      replace hcl := Lib.hid hcl
      replace hp0 := Lib.hid hp0
      clear hn
      go_enter Tryd.func79, Tryd.ntmps79
      go_wp2_with fail
      go_loopg [5, 7, 41] n (fun u v5 v7 v41 wr => ∃ (k : Nat) (a : Int), u = n - k ∧ k ≤ n ∧ v41 = .int .i64 k ∧ v5 = .int .i64 a ∧ 0 ≤ a ∧ a ≤ 100000 + costP (txs (ps.take k)) ∧ wr = w)
      case atStart =>
        refine ⟨0, _, rfl, Nat.zero_le _, rfl, rfl, ?_, ?_, rfl⟩
        · omega
        · have : costP (txs (ps.take 0)) = 0 := rfl
          omega
      case round =>
        obtain ⟨k, a, rfl, hk, rfl, rfl, ha0, ha1, hwr⟩ := hrel
        replace hwr := hwr.symm
        subst hwr
        have hck : costP (txs (ps.take k)) ≤ 100000 := by
          have := costP_take (txs ps) k
          rw [← txs_take] at this
          have := hc.out
          omega
        by_cases hkn : k < n
        · have f1 : (k : Int) < (n : Int) := by omega
          obtain ⟨p, hp⟩ : ∃ p, ps[k]? = some p := ⟨ps[k]'(by rw [HN.out]; exact hkn), by simp⟩
          have y0 := hcl.out k p hp
          have hsum : costP (txs (ps.take (k + 1))) = costP (txs (ps.take k)) + (p.size + 1) := by
            rw [List.take_add_one, hp, txs_app, costP_app, Lib.size_eq]
            simp [txs, costP]
          have hcs : costP (txs (ps.take (k + 1))) ≤ 100000 := by
            have := costP_take (txs ps) (k + 1)
            rw [← txs_take] at this
            have := hc.out
            omega
          have hps : (p.size : Int) ≤ 100000 := by omega
          have hnew : Hid (0 ≤ a + p.size ∧ a + p.size ≤ 100000 + costP (txs (ps.take (k + 1)))) := Lib.hid (by omega)
          have g1 : a + (p.size : Int) ≤ 300000 := by omega
          have g2 : a ≤ 200000 := by omega
          have g3 : ¬ (9223372036854775807 - a < (p.size : Int)) := by omega
          clear hsum hcs hp ha1 hck
          go_wp2_with fail
          go_roundg (n - (k + 1))
          case measure => omega
          case rel => exact ⟨k + 1, _, rfl, by omega, by go_num, rfl, hnew.out.1, hnew.out.2, rfl⟩
        · have f1 : ¬ (k : Int) < (n : Int) := by omega
          obtain ⟨m, rfl⟩ : ∃ m : Nat, a = m := ⟨a.toNat, by omega⟩
          have hm2 : m ≤ 200000 := by omega
          have HG := Tryd.Builder_Grow_fresh w.heap.size w.heap.size m (w.alloc (.cells #[.pointer none, .slice none 0 0] 79)) (Nat.le_refl _) (heap_alloc_new w _) (by simp) (by omega)
          replace HG := Lib.hid HG
          clear ha0 ha1 hck
          go_wp2_with fail
          refine HG.out.mono ?_
          rintro e w1 ⟨rfl, hb1, hB1⟩
          have hbl1 : Bld w1 w.heap.size w.heap.size [] := .inr (Lib.BuilderAtF.of hb1)
          have hBw1 : Below w.heap.size w w1 := ((Below.refl _ w).alloc (Nat.le_refl _) _).trans hB1
          have hsz1 := hBw1.size
          have hlt1 : rb < w.heap.size := cell_lt x0
          have x1 := kept_cell hBw1 x0
          replace hb1 := Lib.hid hb1
          replace hB1 := Lib.hid hB1
          have hps0 : p0.size ≤ 100000 := by
            have h1 : costP (txs (ps.take 1)) ≤ 100000 := by
              have := costP_take (txs ps) 1
              rw [← txs_take] at this
              have := hc.out
              omega
            rw [show (1 : Nat) = 0 + 1 from rfl, List.take_add_one, hp0.out] at h1
            simp only [List.take_zero, List.nil_append, Option.toList_some] at h1
            have h2 : costP (txs [p0]) = p0.data.toList.length + 1 := by simp [txs, costP]
            rw [h2, ← Lib.size_eq] at h1
            omega
          have HS1 := Lib.hid (bld_str hbl1 (by simp) p0 (by omega) hsz1)
          replace hbl1 := Lib.hid hbl1
          go_wp2_with fail
          refine HS1.out.mono ?_
          rintro e w2 ⟨rfl, hbl2, hk2⟩
          have hBw2 : Below w.heap.size w w2 := hBw1.trans hk2.below
          have ht1 : [] ++ p0.data.toList = joinP (txs (ps.take 1)) := by
            rw [show (1 : Nat) = 0 + 1 from rfl, List.take_add_one, hp0.out]
            simp [txs, joinP]
          rw [ht1] at hbl2
          replace hk2 := Lib.hid hk2
          have f2 : ¬ cap = 1 := by omega
          have f3 : (1 : Int) ≤ (n : Int) := by omega
          clear hBw1 x1 ht1 hsz1
          go_wp2_with fail
          go_loopg [65] (n - 1) (fun u v wr => ∃ j : Nat, u = n - 1 - j ∧ j + 1 ≤ n ∧ v = .int .i64 j ∧ Bld wr w.heap.size w.heap.size (joinP (txs (ps.take (j + 1)))) ∧ Below w.heap.size w wr)
          case atStart => exact ⟨0, rfl, by omega, rfl, hbl2, hBw2⟩
          case round =>
            clear hbl2 hBw2
            obtain ⟨j, rfl, hj, rfl, hbl, hBw⟩ := hrel
            have hsz := hBw.size
            by_cases hjn : j + 1 < n
            · have g1 : (j : Int) < (n : Int) - 1 := by omega
              obtain ⟨p, hp⟩ : ∃ p, ps[j + 1]? = some p := ⟨ps[j + 1]'(by rw [HN.out]; exact hjn), by simp⟩
              have y0 := kept_cell hBw (hcl.out (j + 1) p hp)
              rw [show o + (j + 1) = o + 1 + j by omega] at y0
              have hcs : costP (txs (ps.take (j + 1 + 1))) ≤ 100000 := by
                have := costP_take (txs ps) (j + 1 + 1)
                rw [← txs_take] at this
                have := hc.out
                omega
              have htk : txs (ps.take (j + 1 + 1)) = txs (ps.take (j + 1)) ++ [p.data.toList] := by rw [List.take_add_one, hp, txs_app]; simp [txs]
              have hnx : joinP (txs (ps.take (j + 1))) ++ (⟨#[47]⟩ : ByteArray).data.toList ++ p.data.toList = joinP (txs (ps.take (j + 1 + 1))) := by
                rw [htk, joinP_one_more, if_neg (by
                  intro e
                  have h5 : ((ps.take (j + 1)).map fun p => p.data.toList) = [] := e
                  have h6 := congrArg List.length h5
                  rw [List.length_map, List.length_take, HN.out, List.length_nil] at h6
                  omega)]
                simp
              have hjl : (joinP (txs (ps.take (j + 1 + 1)))).length ≤ 100000 := Nat.le_trans (joinP_cost _) hcs
              have hll := congrArg List.length hnx
              rw [List.length_append, List.length_append, ← Lib.size_eq p] at hll
              have h47 : (⟨#[47]⟩ : ByteArray).data.toList.length = 1 := rfl
              have HW1 := Lib.hid (bld_str hbl (by omega) ⟨#[47]⟩ (by simp [ByteArray.size]) hsz)
              have hps : p.size ≤ 100000 := by omega
              have hl3 : (joinP (txs (ps.take (j + 1))) ++ (⟨#[47]⟩ : ByteArray).data.toList).length ≤ 100000 := by rw [List.length_append]; omega
              replace hnx := Lib.hid hnx
              replace htk := Lib.hid htk
              replace hll := Lib.hid hll
              replace h47 := Lib.hid h47
              replace hl3 := Lib.hid hl3
              replace hjl := Lib.hid hjl
              replace hcs := Lib.hid hcs
              replace hp := Lib.hid hp
              replace hbl := Lib.hid hbl
              go_wp2_with fail
              refine HW1.out.mono ?_
              rintro e w3 ⟨rfl, hbl3, hk3⟩
              have hBw3 := hBw.trans hk3.below
              have HW2 := Lib.hid (bld_str hbl3 (by have := hl3.out; omega) p (by omega) hBw3.size)
              clear y0
              go_wp2_with fail
              refine HW2.out.mono ?_
              rintro e w4 ⟨rfl, hbl4, hk4⟩
              have hBw4 := hBw3.trans hk4.below
              rw [hnx.out] at hbl4
              clear hk3 hk4 hbl3 hBw3
              go_wp2_with fail
              go_roundg (n - 1 - (j + 1))
              case measure => omega
              case rel => exact ⟨j + 1, rfl, by omega, by go_num, hbl4, hBw4⟩
            · have g1 : ¬ (j : Int) < (n : Int) - 1 := by omega
              have hall : ps.take (j + 1) = ps := List.take_of_length_le (by rw [HN.out]; omega)
              rw [hall] at hbl
              replace hall := Lib.hid hall
              have HD := Lib.hid (bld_done hbl hsz)
              go_wp2_with fail
              refine HD.out.mono ?_
              rintro e w3 ⟨rfl, hbl3, hk3⟩
              have hBw3 := hBw.trans hk3.below
              go_wp2
              go_ret
              exact ⟨⟨_, rfl, by simp⟩, hBw3⟩
end Go.Proofs.YtekbilieddficaaDoor
