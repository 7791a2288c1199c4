/- Paths: the document's Clean, walked. -/
import Derived.Test.YtekbilieddficaaDoorPa5
import Derived.Deep.RegionHeld3
namespace Go.Proofs.YtekbilieddficaaDoor
open Go.RowKit
set_option linter.unusedVariables false

theorem str_lit {p : ByteArray} {l : List UInt8} (h : p.data.toList = l) : p = ⟨l.toArray⟩ := ext_toList (by simpa using h)

theorem joinP_one_more (l : List (List UInt8)) (x : List UInt8) : joinP (l ++ [x]) = if l = [] then x else joinP l ++ 47 :: x := by
  by_cases h : l = []
  · subst h; simp [joinP]
  · rw [if_neg h, joinP_app h (by simp)]
    simp [joinP]

theorem data_app (a b : ByteArray) : (a ++ b).data.toList = a.data.toList ++ b.data.toList := by
  simp [ByteArray.data_append]

theorem txs_take (ps : List ByteArray) (k : Nat) : txs (ps.take k) = (txs ps).take k := by simp [txs, List.map_take]

theorem own_new1 (w : World) (o : Obj) (e sz : Nat) : Own ((w.alloc o).alloc (.cells #[] e)) w.heap.size e sz (.slice (some ⟨w.heap.size + 1, 0, none⟩) 0 0) [] := by
  have := (own_new0 (w.alloc o) e sz).mono (B' := w.heap.size) (by simp)
  rw [World.size_alloc] at this
  exact this

theorem new_two (w : World) (x y : Array Value) (e e' : TypeId) : ((w.alloc (.cells x e)).alloc (.cells y e')).drew.heap[w.heap.size + 1]? = some (.cells y e' (0, 0)) := by
  have := heap_alloc_new (w.alloc (.cells x e)) (.cells y e')
  rw [World.size_alloc] at this
  exact this

theorem new_one (w : World) (x y : Array Value) (e e' : TypeId) : ((w.alloc (.cells x e)).alloc (.cells y e')).drew.heap[w.heap.size]? = some (.cells x e (0, 0)) :=
  (Lib.alloc_old _ _ _ (by simp)).trans (heap_alloc_new w _)

set_option maxRecDepth 100000 in
set_option maxHeartbeats 4000000 in
theorem rclean_any (s : ByteArray) (hs : s.size ≤ 90000) (w : World) : Calls Tryd.prog 61 #[.string s] w fun e w' => CleanOf s.data.toList e ∧ Below w.heap.size w w' := by
  have HS : Hid (s.data.toList.length = s.size) := Lib.hid (Lib.size_eq s).symm
  have HPa := Lib.hid (parts_any s (by omega) w)
  go_enter Tryd.func61, Tryd.ntmps61
  go_wp2_with fail
  refine HPa.out.mono ?_
  rintro e w1 ⟨⟨v, ps, rfl, hown, hps⟩, hb⟩
  obtain ⟨n, hn⟩ : ∃ n, n = ps.length := ⟨_, rfl⟩
  have HN : Hid (ps.length = n) := Lib.hid hn.symm
  have hn8 : n ≤ 90001 := by
    have h1 := partsL_count s.data.toList
    rw [← txs_len hps, HS.out] at h1
    omega
  obtain ⟨ao, cap, rfl, hcap, _, _, _⟩ := hown.rown (n := n) (by unfold strs; rw [List.length_map, hn])
  have hrow := hown.here
  have HPS : Hid (txs ps = partsL s.data.toList) := Lib.hid hps
  clear hown hn hps
  go_wp2_with fail
  go_loopg [5, 6] n (fun u v5 v6 wr => ∃ (k : Nat) (outs : List ByteArray), u = n - k ∧ k ≤ n ∧ v6 = .int .i64 k ∧ Own wr w1.heap.size 9 1 v5 (strs outs) ∧ Below w1.heap.size w1 wr ∧ Hid (CleanAt s.data.toList k (txs outs)))
  case atStart => exact ⟨0, [], rfl, Nat.zero_le _, rfl, Own.nil _ _ _ _, Below.refl _ _, Lib.hid (CleanAt.zero _)⟩
  case round =>
    obtain ⟨k, outs, rfl, hk, rfl, hown, hbr, hcl⟩ := hrel
    have hlen : outs.length ≤ 100000 := by
      have h1 := hcl.out.cost
      have h2 := costP_len (txs outs)
      rw [HS.out] at h1
      have h3 : (txs outs).length = outs.length := by simp [txs]
      omega
    by_cases hkn : k < n
    · have f1 : (k : Int) < (n : Int) := by omega
      obtain ⟨p, hp⟩ : ∃ p, ps[k]? = some p := ⟨ps[k]'(by rw [HN.out]; exact hkn), by simp⟩
      have hpk := txs_at HPS.out hp
      obtain ⟨rb, o, rfl, hat⟩ := (hrow.below hbr) (by intro h; unfold strs at h; simp at h; subst h; simp at hp)
      have x0 := str_cell hat hp
      by_cases h1 : p.data.toList = []
      · obtain rfl := str_lit h1
        have hn1 := Lib.hid (hcl.out.skip hpk (.inl rfl))
        clear hpk hp hat h1 hcl
        go_wp2_with fail
        go_roundg (n - (k + 1))
        case measure => omega
        case rel => exact ⟨k + 1, outs, rfl, by omega, by go_num, hown, hbr, hn1⟩
      · by_cases h2 : p.data.toList = [46]
        · obtain rfl := str_lit h2
          have hn1 := Lib.hid (hcl.out.skip hpk (.inr rfl))
          clear hpk hp hat h1 h2 hcl
          go_wp2_with fail
          go_roundg (n - (k + 1))
          case measure => omega
          case rel => exact ⟨k + 1, outs, rfl, by omega, by go_num, hown, hbr, hn1⟩
        · by_cases h3 : p.data.toList = [46, 46]
          · obtain rfl := str_lit h3
            by_cases h0 : outs = []
            · subst h0
              have hf := Lib.hid (hcl.out.fail hpk rfl)
              obtain ⟨bo, bc, rfl, hbc, _, _, _⟩ := hown.rown (n := 0) (by simp [strs])
              have hbw := hb.trans (hbr.mono hb.size)
              clear hpk hp hat h1 h2 h3 hcl
              go_wp2
              go_ret2
              exact ⟨⟨⟨#[]⟩, 1, rfl, .inr ⟨hf.out, rfl, rfl⟩⟩, hbw⟩
            · have hn1 := Lib.hid (hcl.out.up hpk rfl (by intro h; apply h0; simpa [txs] using h))
              obtain ⟨m, hm⟩ : ∃ m, outs.length = m + 1 := ⟨outs.length - 1, by have := List.length_pos_iff.2 h0; omega⟩
              obtain ⟨g, bc, rfl, hgb⟩ : ∃ g bc, u5 = .slice (some ⟨g, 0, none⟩) (m + 1) bc ∧ m + 1 ≤ bc ∧ bc ≤ maxLen := by
                rcases hown.1.2 with ⟨_, h⟩ | ⟨g, bc, cur, hv, _, _, h4, h5, _⟩
                · rw [strs_len, hm] at h; omega
                · rw [strs_len, hm] at hv h4; exact ⟨g, bc, hv, h4, h5⟩
              obtain ⟨hgb1, hgb2⟩ := hgb
              have hop := own_pop hown
              rw [← strs_drop] at hop
              rw [← txs_drop] at hn1
              clear hpk hp hat h1 h2 h3 hcl hm h0 hown
              unfold maxLen at hgb2
              go_wp2_with fail
              go_roundg (n - (k + 1))
              case measure => omega
              case rel => exact ⟨k + 1, outs.dropLast, rfl, by omega, by go_num, hop, hbr, hn1⟩
          · have hn1 := Lib.hid (hcl.out.more hpk h1 h2 h3)
            obtain ⟨m, hm⟩ : ∃ m, m = outs.length := ⟨_, rfl⟩
            have HM : Hid (outs.length = m) := Lib.hid hm.symm
            obtain ⟨bo, bc, rfl, hbc, hbm, _, hb0⟩ := hown.rown (n := m) (by rw [strs_len, hm])
            rw [← Lib.toList_data] at h1 h2 h3
            have e1 : p.toList.isEmpty = false := by simpa using h1
            have e2 : (p.toList == [46]) = false := by simpa using h2
            have e3 : (p.toList == [46, 46]) = false := by simpa using h3
            clear hpk hp hat hm hcl
            go_wp2_with fail
            have hR0 := hown.here
            have hsz1 := hbr.size
            have hrb : rb < wr.heap.size := cell_lt x0
            have HF : Hid (∀ x, Below wr.heap.size wr x → x.cell? ⟨rb, o + k, none⟩ = some (.string p) ∧ Row x 1 bo (strs outs)) := Lib.hid (fun x hx => ⟨kept_cell hx x0, hR0.below hx⟩)
            have hl0 : (strs outs).length = m := by rw [strs_len, HM.out]
            replace hl0 := Lib.hid hl0
            have hz0 : bo = none → bc = 0 := fun e => (hb0 e).2
            have hm1 : m ≤ 100000 := by rw [← HM.out]; exact hlen
            replace hz0 := Lib.hid hz0
            have hlenO : ([] ++ strs outs).length + 1 ≤ 1000000000 := by rw [List.nil_append, hl0.out]; omega
            clear hR0 hb0 hown
            have hd0 : wr.drew.cell? ⟨rb, o + k, none⟩ = some (.string p) := x0
            have hd1 := fun ob => (HF.out ((wr.alloc ob).drew) ((Below.refl _ wr).alloc (Nat.le_refl _) ob).drew).1
            have hd2 := fun ob ob' => (HF.out (((wr.alloc ob).alloc ob').drew) (((Below.refl _ wr).alloc (Nat.le_refl _) ob).alloc (by simp) ob').drew).1
            go_region_held3 (fun x : World => x.cell? ⟨rb, o + k, none⟩ = some (.string p)) (first | with_reducible exact hd0 | with_reducible exact x0 | with_reducible exact hd1 _ | with_reducible exact hd2 _ _ | with_reducible exact hx8 | with_reducible exact hx9 | with_reducible exact kept_cell ((Below.refl _ _).alloc (Nat.le_refl _) _) hx8 | with_reducible assumption) (first
              | (refine step_append1 E9 rfl rfl hown8 rfl rfl hc8 rfl (by simp [Value.oneCell']) hlenO (by decide) hb8.size ?_; intro v9 w9 hown9 hg9; have hb9 : Below wr.heap.size wr w9 := bapp hb8 hown8 hg9 hb8.size; have hx9 := (HF.out w9 hb9).1)
              | (refine step_append1 E9 rfl rfl (hown8.alloc _) rfl rfl (heap_alloc_new w8 _) rfl (by simp [Value.oneCell']) hlenO (by decide) (by have := hb8.size; simp; omega) ?_; intro v9 w9 hown9 hg9; have hb9 : Below wr.heap.size wr w9 := bapp (hb8.alloc hb8.size _) (hown8.alloc _) hg9 (by have := hb8.size; simp; omega); have hx9 := (HF.out w9 hb9).1)
              | (refine step_appendN E9 rfl rfl (Own.drew (own_new0 wr _ _)) rfl rfl hl0.out hz0.out (HF.out _ ((Below.refl _ wr).alloc (Nat.le_refl _) _).drew).2 strs_one strs_cell (by simp; omega) (by decide) (by simp) ?_; intro v8 w8 hown8 hg8; have hb8 : Below wr.heap.size wr w8 := ((Below.refl _ wr).alloc (Nat.le_refl _) _).drew.grown hg8 (by simp) (by intro q hq; simp [Value.ownBlock] at hq; omega); have hx8 := (HF.out w8 hb8).1)
              | (refine step_appendN E9 rfl rfl (Own.drew ((own_new0 wr _ _).alloc _)) rfl rfl hl0.out hz0.out (HF.out _ (((Below.refl _ wr).alloc (Nat.le_refl _) _).alloc (by simp) _).drew).2 strs_one strs_cell (by simp; omega) (by decide) (by simp; omega) ?_; intro v8 w8 hown8 hg8; have hb8 : Below wr.heap.size wr w8 := (((Below.refl _ wr).alloc (Nat.le_refl _) _).alloc (by simp) _).drew.grown hg8 (by simp; omega) (by intro q hq; simp [Value.ownBlock] at hq; omega); have hx8 := (HF.out w8 hb8).1; have hc8 : w8.heap[wr.heap.size + 1]? = some (.cells [Value.string p].toArray 9 (0, 0)) := (hg8.block (wr.heap.size + 1) (by simp) (by simp [Value.ownBlock])).trans (new_two _ _ _ _ _))
              | (refine step_appendN E9 rfl rfl (Own.drew (own_new1 wr _ _ _)) rfl rfl hl0.out hz0.out (HF.out _ (((Below.refl _ wr).alloc (Nat.le_refl _) _).alloc (by simp) _).drew).2 strs_one strs_cell (by simp; omega) (by decide) (by simp; omega) ?_; intro v8 w8 hown8 hg8; have hb8 : Below wr.heap.size wr w8 := (((Below.refl _ wr).alloc (Nat.le_refl _) _).alloc (by simp) _).drew.grown hg8 (by simp; omega) (by intro q hq; simp [Value.ownBlock] at hq; omega); have hx8 := (HF.out w8 hb8).1; have hc8 : w8.heap[wr.heap.size]? = some (.cells [Value.string p].toArray 9 (0, 0)) := (hg8.block wr.heap.size (by simp; omega) (by simp [Value.ownBlock])).trans (new_one _ _ _ _ _)))
            all_goals
              have hown10 : Own w9 w1.heap.size 9 1 v9 (strs (outs ++ [p])) := by rw [strs_app]; exact (by simpa [strs] using hown9 : Own w9 wr.heap.size 9 1 v9 (strs outs ++ strs [p])).mono hsz1
              have hb10 := hbr.trans (hb9.mono hsz1)
              have hn2 : Hid (CleanAt s.data.toList (k + 1) (txs (outs ++ [p]))) := Lib.hid (by rw [txs_app]; exact hn1.out)
              clear hown9 hown8 hn1 hb9 hb8
              go_wp2_with fail
              go_roundg (n - (k + 1))
              case measure => omega
              case rel => exact ⟨k + 1, outs ++ [p], rfl, by omega, by go_num, hown10, hb10, hn2⟩
    · have f1 : ¬ (k : Int) < (n : Int) := by omega
      have hfin := Lib.hid (hcl.out.done (by rw [← txs_len HPS.out, HN.out]; omega))
      have hcost := hcl.out.cost
      have hjc := joinP_cost (txs outs)
      rw [HS.out] at hcost
      replace hcost := Lib.hid hcost
      replace hjc := Lib.hid hjc
      clear hcl
      go_wp2_with fail
      obtain ⟨m, hm⟩ : ∃ m, m = outs.length := ⟨_, rfl⟩
      have HM : Hid (outs.length = m) := Lib.hid hm.symm
      have hm1 : m ≤ 100000 := by rw [hm]; exact hlen
      obtain ⟨bo, bc, rfl, hbc, hbm, _, _⟩ := hown.rown (n := m) (by rw [strs_len, hm])
      have hrw := hown.here
      have hbw := hb.trans (hbr.mono hb.size)
      obtain ⟨wo, hwo⟩ : ∃ wo, wo = wr := ⟨_, rfl⟩
      rw [← hwo] at hrw hbw ⊢
      clear hm hown hbr hwo hrow HPa
      go_loopg [7, 8] m (fun u v7 v8 wr => ∃ (j : Nat) (r : ByteArray), u = m - j ∧ j ≤ m ∧ v8 = .int .i64 j ∧ v7 = .string r ∧ wr = wo ∧ Hid (r.data.toList = joinP (txs (outs.take j))) ∧ r.size ≤ 200000)
      case atStart => exact ⟨0, ⟨#[]⟩, rfl, Nat.zero_le _, rfl, rfl, rfl, Lib.hid rfl, by simp [ByteArray.size]⟩
      case round =>
        obtain ⟨j, r, rfl, hj, rfl, rfl, hwr, hr, hrz⟩ := hrel
        replace hwr := hwr.symm
        subst hwr
        by_cases hjm : j < m
        · have g1 : (j : Int) < (m : Int) := by omega
          obtain ⟨p, hp⟩ : ∃ p, outs[j]? = some p := ⟨outs[j]'(by rw [HM.out]; exact hjm), by simp⟩
          obtain ⟨rb, o, rfl, hat⟩ := hrw (by intro h; unfold strs at h; simp at h; subst h; simp at hp)
          have x0 := str_cell hat hp
          have htk : txs (outs.take (j + 1)) = txs (outs.take j) ++ [p.data.toList] := by rw [List.take_add_one, hp, txs_app]; simp [txs]
          have hle : (joinP (txs (outs.take (j + 1)))).length ≤ 90001 := by
            have h1 := joinP_cost (txs (outs.take (j + 1)))
            have h2 : costP (txs (outs.take (j + 1))) ≤ costP (txs outs) := by
              conv => rhs; rw [← List.take_append_drop (j + 1) outs, txs_app, costP_app]
              omega
            have h3 := hcost.out
            omega
          by_cases h0 : j = 0
          · subst h0
            have g2 : ¬ (0 : Int) < ((0 : Nat) : Int) := by omega
            have hnx : Hid ((r ++ p).data.toList = joinP (txs (outs.take (0 + 1)))) := Lib.hid (by rw [data_app, hr.out, htk, joinP_one_more]; simp [txs, joinP])
            have hpz : p.size ≤ 200000 := by
              have h1 := congrArg List.length hnx.out
              rw [data_app, List.length_append, ← Lib.size_eq p] at h1
              omega
            have hsz : r.size + p.size ≤ 9223372036854775807 := by omega
            have hrz2 : (r ++ p).size ≤ 200000 := by rw [Lib.size_eq, hnx.out]; omega
            replace hrz2 := Lib.hid hrz2
            simp only [Nat.add_zero] at x0
            clear hp hat htk hle
            go_wp2_with fail
            go_roundg (m - (0 + 1))
            case measure => omega
            case rel => exact ⟨0 + 1, _, rfl, by omega, by go_num, rfl, rfl, hnx, hrz2.out⟩
          · have g2 : (0 : Int) < (j : Int) := by omega
            have hnx : Hid ((r ++ (⟨#[47]⟩ : ByteArray) ++ p).data.toList = joinP (txs (outs.take (j + 1)))) := Lib.hid (by
              rw [data_app, data_app, hr.out, htk, joinP_one_more, if_neg (by
                intro e
                have h5 : ((outs.take j).map fun p => p.data.toList) = [] := e
                have h6 := congrArg List.length h5
                rw [List.length_map, List.length_take, HM.out, List.length_nil] at h6
                omega)]
              simp)
            have hpz : r.size + 1 + p.size ≤ 200000 := by
              have h1 := congrArg List.length hnx.out
              rw [data_app, data_app, List.length_append, List.length_append, ← Lib.size_eq p, ← Lib.size_eq r] at h1
              have : (⟨#[47]⟩ : ByteArray).data.toList.length = 1 := rfl
              omega
            have hsz : r.size + 1 ≤ 9223372036854775807 := by omega
            have hsz3 : r.size + 1 + p.size ≤ 9223372036854775807 := by omega
            have hsz2 : (r ++ (⟨#[47]⟩ : ByteArray)).size + p.size ≤ 9223372036854775807 := by rw [ByteArray.size_append]; exact hsz3
            have hrz2 : (r ++ (⟨#[47]⟩ : ByteArray) ++ p).size ≤ 200000 := by rw [Lib.size_eq, hnx.out]; omega
            replace hrz2 := Lib.hid hrz2
            clear hp hat htk hle
            go_wp2_with fail
            go_roundg (m - (j + 1))
            case measure => omega
            case rel => exact ⟨j + 1, _, rfl, by omega, by go_num, rfl, rfl, hnx, hrz2.out⟩
        · have g1 : ¬ (j : Int) < (m : Int) := by omega
          have hr2 : r.data.toList = joinP (txs outs) := by rw [hr.out, List.take_of_length_le (by rw [HM.out]; omega)]
          have hrz2 : r.size ≤ 100000 := by rw [Lib.size_eq, hr2]; have := hjc.out; have := hcost.out; omega
          have HV := rvalid_any r hrz2 wo
          obtain ⟨b, hbb⟩ : ∃ b, b = decide (ValidP r.data.toList) := ⟨_, rfl⟩
          rw [← hbb] at HV
          replace HV := Lib.hid HV
          have hres : Hid (cleanP s.data.toList = if b = true then some r.data.toList else none) := Lib.hid (by rw [hfin.out, ← hr2, hbb]; simp)
          replace hbb := Lib.hid hbb
          replace hr2 := Lib.hid hr2
          go_wp2_with fail
          refine HV.out.mono ?_
          rintro e w9 ⟨rfl, hb9⟩
          have hbz := hbw.trans (hb9.mono hbw.size)
          cases b with
          | true =>
            go_wp2
            go_ret2
            exact ⟨⟨r, 0, rfl, .inl ⟨hres.out, rfl⟩⟩, hbz⟩
          | false =>
            go_wp2
            go_ret2
            exact ⟨⟨⟨#[]⟩, 1, rfl, .inr ⟨hres.out, rfl, rfl⟩⟩, hbz⟩
end Go.Proofs.YtekbilieddficaaDoor
