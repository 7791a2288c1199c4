/- TreeFinds: the walk. -/
import Derived.Test.YtcafiaoinonpgaaTreeFindsSpec
namespace Go.Proofs.Ytcafiaoinonpgaa
open Go.RowKit
set_option linter.unusedVariables false

theorem finds_step {w : World} {H j : Nat} {cx : List Value} (hH : H < w.heap.size) (hh : w.heap[H]? = some (.cells cx.toArray 40 (0, 0))) (hr : Rep w (· ≠ H) (findsT j) cx) (cy : List Value) (hcy : cy = [.string ⟨#[108, 101, 97, 102]⟩, .string ⟨#[120]⟩, .int .i64 ((j : Int) + 1), .int .i64 ((j : Int) + 1 + 1), .slice none 0 0]) (cn : List Value) (hcn : cn = [.string ⟨#[112, 97, 105, 114]⟩, .string ⟨#[]⟩, .int .i64 0, .int .i64 ((j : Int) + 1 + 1), .slice (some ⟨w.heap.size + 1, 0, none⟩) 2 2]) :
    Rep (((w.alloc (.cells cy.toArray 40)).alloc (.cells (cx ++ cy).toArray 40)).setRow H cn.toArray) (· ≠ H) (findsT (j + 1)) cn ∧
    (((w.alloc (.cells cy.toArray 40)).alloc (.cells (cx ++ cy).toArray 40)).setRow H cn.toArray).heap[H]? = some (.cells cn.toArray 40 (0, 0)) := by
  have hk : KeptOn (· ≠ H) w (((w.alloc (.cells cy.toArray 40)).alloc (.cells (cx ++ cy).toArray 40)).setRow H cn.toArray) :=
    (KeptOn.of_below (two_new w _ _)).trans (KeptOn.row _ _ _ (by simp)) (two_new w _ _).size
  refine ⟨?_, setRow_heap _ _ _ _ _ _ (((two_new w _ _).block H hH).trans hh)⟩
  subst hcn
  refine Rep.mk (kids := [findsT j, leafX ((j : Int) + 1)]) (css := [cx, cy]) (.cons (hr.later hk) (.cons ?_ .nil)) (fun _ => ⟨_, 0, rfl, by omega, ?_⟩) ⟨Nat.le_refl _, by simp⟩
  · subst hcy
    exact Rep.leaf _ _ _ _
  · intro i c hi k u hku
    have hl : ∀ c ∈ [cx, cy], c.length = 5 := by
      intro c hc
      simp at hc
      rcases hc with rfl | rfl
      · exact hr.len
      · subst hcy; rfl
    have h1 := flatten_at (css := [cx, cy]) hl hi hku
    refine (cell_setRow_other _ _ _ _ (by simp; omega)).trans ?_
    have h2 := cell_new (w.alloc (.cells cy.toArray 40)) (cx ++ cy) 40 (by simpa using h1)
    simpa using h2

set_option maxHeartbeats 2000000 in
set_option maxRecDepth 100000 in
theorem treeFinds_walk (a0 : Int) (w0 : (Lit.int .i64 a0).wf = true) (a1 : Int) (w1 : (Lit.int .i64 a1).wf = true) (w : World) :
    Calls Try.prog 8 #[.int .i64 a0, .int .i64 a1] w fun e w' => e = .returned (.bool true) ∧ Below w.heap.size w w' := by
  have hi0 := i64_arg w0
  have hi1 := i64_arg w1
  clear w0 w1
  by_cases hs : 1 ≤ a0 ∧ a0 ≤ 60
  · obtain ⟨h1, h2⟩ := hs
    obtain ⟨N, rfl⟩ : ∃ N : Nat, a0 = (N : Int) + 1 := ⟨(a0 - 1).toNat, by omega⟩
    have hN : N ≤ 59 := by omega
    clear h1 h2 hi0
    go_enter Try.func8, Try.ntmps8
    go_wp2_with fail
    go_loopg [6] N (fun k i wr => ∃ (j : Nat) (cx : List Value), j ≤ N ∧ k = N - j ∧ i = .int .i64 ((j : Int) + 1) ∧ wr.heap[w.heap.size]? = some (.cells cx.toArray 40 (0, 0)) ∧ Rep wr (· ≠ w.heap.size) (findsT j) cx ∧ Below w.heap.size w wr)
    case atStart =>
      refine ⟨0, [.string ⟨#[108, 101, 97, 102]⟩, .string ⟨#[48]⟩, .int .i64 0, .int .i64 1, .slice none 0 0], Nat.zero_le _, rfl, rfl, heap_alloc_new w _, Rep.leaf _ _ _ _, (Below.refl _ _).alloc (Nat.le_refl _) _⟩
    case round =>
      obtain ⟨j, cx, hj, rfl, rfl, hh, hr, hb⟩ := hrel
      have hH := lt_of_block hh
      have HST := Lib.hid (finds_step hH hh hr _ rfl _ rfl)
      obtain ⟨k, x, f, o, ao, n, cap, rfl⟩ := hr.form
      · by_cases hlt : j < N
        · clear hr
          obtain ⟨c0, c1, c2, c3, c4⟩ := node_cells hh
          have hh2 := fun a b => ((two_new wr a b).block _ hH).trans hh
          have d := fun o => node_cells ((((Below.refl _ wr).alloc (Nat.le_refl _) o).block _ hH).trans hh)
          have d0 := fun o => (d o).1
          have d1 := fun o => (d o).2.1
          have d2 := fun o => (d o).2.2.1
          have d3 := fun o => (d o).2.2.2.1
          have d4 := fun o => (d o).2.2.2.2
          clear d
          go_wp2_with (refine wpList_store_row rfl 40 (.tmp 5) (.tmp 36) rfl w.heap.size _ rfl rfl 40 _ (hh2 _ _) info_node rfl (by simp [Value.oneCell']) ?_)
          go_roundg (N - (j + 1))
          case measure => omega
          case rel =>
            exact ⟨j + 1, _, by omega, rfl, by go_num, HST.out.2, HST.out.1, Below.row ((hb.alloc (Nat.le_of_lt hH) _).alloc (by simp; omega) _) (Nat.le_refl _) _⟩
        · obtain rfl : j = N := by omega
          clear HST hlt
          have HC := Lib.hid (fun w' (h : Below wr.heap.size wr w') => node_cells ((h.block _ hH).trans hh))
          have HR := Lib.hid (fun w' (h : Below wr.heap.size wr w') => hr.later (KeptOn.of_below h))
          obtain ⟨c0, c1, c2, c3, c4⟩ := node_cells hh
          clear hh hr
          have HS := Lib.hid (T.size_pre (findsT j))
          have HZ := Lib.hid (finds_size j)
          have HL := Lib.hid (finds_leaves j)
          go_wp2_with fail
          refine (tAt_any (findsT j) _ _ wr a1 (HR.out wr (Below.refl _ _)) (by rw [HZ.out]; omega)).mono ?_
          rintro e w2 ⟨v2, l2, rfl, ho2, hway, hnil, hb2⟩
          obtain ⟨ln, hln⟩ : ∃ n, l2.length = n := ⟨_, rfl⟩
          obtain ⟨ao2, cap2, rfl, _, _, hr2, _⟩ := ho2.rown (n := ln) (by simpa using hln)
          have HLN := Lib.hid hln
          clear hln hr2 c0 c1 c2 c3 c4
          go_wp2_with fail
          go_loopg [9, 10] (j + 1) (fun q v9 i w3 => ∃ m : Nat, m ≤ j + 1 ∧ q = j + 1 - m ∧ i = .int .i64 m ∧ Own w3 wr.heap.size 3 1 v9 ((List.range m).map fun i : Nat => [.int .i64 i]) ∧ Own w3 wr.heap.size 9 1 (.slice ao2 ln cap2) (l2.map fun k => [.string k]) ∧ Below wr.heap.size wr w3)
          case atStart => exact ⟨0, Nat.zero_le _, rfl, rfl, Own.nil _ _ _ _, ho2, hb2⟩
          case round =>
            rename_i wr0 _ _ _ _
            obtain ⟨m, hm, rfl, rfl, ho9, hr9, hb9⟩ := hrel
            by_cases hmj : m < j + 1
            · go_wp2_with (at_builtin; go_must (refine wpList_append1 E3 rfl rfl ho9 rfl rfl (news := [.int .i64 m]) rfl rfl (by simp [Value.oneCell']) (by rw [List.length_map, List.length_range]; omega) (by decide) hb9.size ?_); intro v5 w5 ho5 hg5)
              go_roundg (j + 1 - (m + 1))
              case measure => omega
              case rel =>
                refine ⟨m + 1, by omega, rfl, by go_num, ?_, ?_, bapp hb9 ho9 hg5 hb9.size⟩
                · rw [List.range_succ, List.map_append]
                  exact ho5
                · exact own_kt0 hr9 (by decide) (others_app ho9 hg5)
            · obtain rfl : m = j + 1 := by omega
              clear hmj hm
              obtain ⟨ao9, cap9, rfl, _, _, hr10, _⟩ := ho9.rown (n := j + 1) (by simp)
              obtain ⟨c0, c1, c2, c3, c4⟩ := HC.out _ hb9
              clear ho9
              go_wp2_with fail
              refine (tLeaves_any (findsT j) _ _ _ (HR.out _ hb9) (by rw [← HS.out, HZ.out]; omega)).mono ?_
              rintro e w5 ⟨v5, rfl, ho5, hb5⟩
              rw [HL.out] at ho5
              obtain ⟨ao5, cap5, rfl, _, _, hr5, _⟩ := ho5.rown (n := j + 1) (by simp)
              have hb95 := bstep hb9 hb5 hb9.size
              have hr95 := hr9.below hb5
              have hr105 := hr10.below hb5
              clear ho5 hb5 hr9 hr10 hb9 c0 c1 c2 c3 c4
              go_wp2_with fail
              refine (Ints_yes ((List.range (j + 1)).map fun i : Nat => (i : Int)) (j + 1) (by simp) _ _ _ _ (by omega) _ hr5 (by simpa [Function.comp_def] using hr105)).mono ?_
              rintro e w6 ⟨rfl, hb6⟩
              have hb96 := bstep hb95 hb6 hb95.size
              have hr96 := hr95.below hb6
              clear hb6 hr95 hr5 hr105 hb95
              obtain ⟨c0, c1, c2, c3, c4⟩ := HC.out _ hb96
              go_wp2_with fail
              refine (tSize_any (findsT j) _ _ _ (HR.out _ hb96) (by rw [← HS.out, HZ.out]; omega)).mono ?_
              rintro e w7 ⟨rfl, hb7⟩
              have hb97 := bstep hb96 hb7 hb96.size
              have hr97 := hr96.below hb7
              clear hb7 hr96 hb96 c0 c1 c2 c3 c4
              rw [show ((T.size (findsT j) : Nat) : Int) = 2 * ((j : Int) + 1) - 1 by rw [HZ.out]; push_cast; omega]
              have hbw : Below w.heap.size w w7 := hb.trans (hb97.mono hb.size)
              by_cases htok : 0 ≤ a1 ∧ a1 < j + 1
              · obtain ⟨k, rfl, hk⟩ := finds_way j a1 htok.1 htok.2 _ (hway ((finds_has j a1).2 htok))
                have hlk : ln = k + 1 := by have := HLN.out; simpa using this.symm
                subst hlk
                have hk60 : k ≤ 60 := by
                  split at hk <;> omega
                have hrow := hr97.here
                have HK := Lib.hid hk
                clear hway hnil hk hb97
                by_cases hj0 : j = 0
                · subst hj0
                  have hk0 : k = 0 := by have := HK.out; simp at this; omega
                  subst hk0
                  go_wp2_with fail
                  go_loopg [12] (0 + 1) (fun q i w8 => ∃ m : Nat, m ≤ 0 + 1 ∧ q = 0 + 1 - m ∧ i = .int .i64 m ∧ w8 = w7)
                  case atStart => exact ⟨0, Nat.zero_le _, rfl, rfl, rfl⟩
                  case round =>
                    obtain ⟨m, hm, rfl, rfl, rfl⟩ := hrel
                    obtain ⟨b8, o8, rfl, hat⟩ := hrow (by simp)
                    by_cases hmk : m < 0
                    · omega
                    · by_cases hmk2 : m = 0
                      · subst hmk2
                        have c0 := hat.cell (i := 0) (cs := [.string ⟨#[108, 101, 97, 102]⟩]) (by rw [List.map_append, List.getElem?_append_right (by simp)]; simp [bLeaf]) (j := 0) rfl
                        simp only [Nat.mul_one, Nat.add_zero] at c0
                        clear hat
                        go_wp2_with fail
                        go_roundg 0
                        case measure => omega
                        case rel => exact ⟨1, by omega, by omega, by go_num, rfl⟩
                      · obtain rfl : m = 0 + 1 := by omega
                        clear hat
                        go_wp2_with (go_at_call 17; refine (tawake_any _).mono ?_; rintro e w' ⟨rfl, hb⟩)
                        all_goals (go_ret; exact ⟨rfl, bstep hbw hb hbw.size⟩)
                · go_wp2_with fail
                  have hk2 : ((j : Int) + 1 - max a1 1 + 1) = (k : Int) + 1 := by have := HK.out; rw [if_neg hj0] at this; exact this.symm
                  rw [hk2]
                  clear hk2
                  go_loopg [12] (k + 1) (fun q i w8 => ∃ m : Nat, m ≤ k + 1 ∧ q = k + 1 - m ∧ i = .int .i64 m ∧ w8 = w7)
                  case atStart => exact ⟨0, Nat.zero_le _, rfl, rfl, rfl⟩
                  case round =>
                    obtain ⟨m, hm, rfl, rfl, rfl⟩ := hrel
                    obtain ⟨b8, o8, rfl, hat⟩ := hrow (by simp)
                    by_cases hmk : m < k
                    · have c0 := hat.cell (i := m) (cs := [.string ⟨#[112, 97, 105, 114]⟩]) (by rw [List.map_append, List.getElem?_append_left (by simpa using hmk)]; simp [hmk, bPair]) (j := 0) rfl
                      simp only [Nat.mul_one, Nat.add_zero] at c0
                      clear hat
                      go_wp2_with fail
                      go_roundg (k + 1 - (m + 1))
                      case measure => omega
                      case rel => exact ⟨m + 1, by omega, rfl, by go_num, rfl⟩
                    · by_cases hmk2 : m = k
                      · subst hmk2
                        have c0 := hat.cell (i := m) (cs := [.string ⟨#[108, 101, 97, 102]⟩]) (by rw [List.map_append, List.getElem?_append_right (by simp)]; simp [bLeaf]) (j := 0) rfl
                        simp only [Nat.mul_one, Nat.add_zero] at c0
                        clear hat
                        go_wp2_with fail
                        go_roundg 0
                        case measure => omega
                        case rel => exact ⟨m + 1, by omega, by omega, by go_num, rfl⟩
                      · obtain rfl : m = k + 1 := by omega
                        clear hat
                        go_wp2_with (go_at_call 17; refine (tawake_any _).mono ?_; rintro e w' ⟨rfl, hb⟩)
                        all_goals (go_ret; exact ⟨rfl, bstep hbw hb hbw.size⟩)
              · obtain rfl := hnil (fun h => htok ((finds_has j a1).1 h))
                have hln0 : ln = 0 := by have := HLN.out; simpa using this.symm
                subst hln0
                go_wp2_with (go_at_call 17; refine (tawake_any _).mono ?_; rintro e w' ⟨rfl, hb⟩)
                all_goals (go_ret; exact ⟨rfl, bstep hbw hb hbw.size⟩)
  · go_enter Try.func8, Try.ntmps8
    go_wp2_with (go_at_call 17; refine (tawake_any _).mono ?_; rintro e w' ⟨rfl, hb⟩)
    all_goals (go_ret; exact ⟨rfl, hb⟩)
end Go.Proofs.Ytcafiaoinonpgaa
