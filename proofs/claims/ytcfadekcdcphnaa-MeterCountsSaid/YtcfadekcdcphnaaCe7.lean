/- Meters: Add, whole. -/
import Derived.Test.YtcfadekcdcphnaaCe6
namespace Go.Proofs.Ytcfadekcdcphnaa
open Go.RowKit
set_option linter.unusedVariables false

/-- the first map: its variable, then the map -/
def firstW (w : World) : World := (w.alloc (.cells #[.map (some (w.heap.size + 1))] 66)).alloc (.map #[] 0)

set_option maxRecDepth 100000 in
set_option maxHeartbeats 4000000 in
theorem add_walk_new {g : Nat} (n : ByteArray) (k : Int) (w W3 W4 : World) (hk : 0 < k) (hk2 : k ≤ 9223372036854775807) (v : Int) (hc : (k ≤ 4611686018427387904 ∧ v = k) ∨ (4611686018427387904 < k ∧ v = 4611686018427387904))
    (HW : Calls Try.prog 27 #[.pointer (some ⟨g, 0, none⟩)] w fun e w' => e = .returned (.tuple #[.pointer none, .map none]) ∧ w' = w)
    (hl : (Instr.lookup 66 (.map (some (w.heap.size + 1))) (.string n) false).run Try.prog (firstW w) = .ok (.int .i64 0) (firstW w))
    (hU : (Instr.mapUpdate 66 (.map (some (w.heap.size + 1))) (.string n) (.int .i64 v)).run Try.prog (firstW w) = .ok () W3)
    (HK : Calls Try.prog 29 #[.pointer (some ⟨g, 0, none⟩), .pointer none, .pointer (some ⟨w.heap.size, 0, none⟩)] W3 fun e w' => e = .returned (.bool true) ∧ w' = W4) :
    Calls Try.prog 16 #[.pointer (some ⟨g, 0, none⟩), .string n, .int .i64 k] w fun e w' => e = .returned (.tuple #[]) ∧ w' = W4 := by
  have hk' : ¬ k ≤ 0 := by omega
  have hq := fun w' => run_eql_map_nil_sl (P := Try.prog) w' 66 _ _ none Try.underlying66
  have hnot : ∀ (x : Bool) (w : World), (Op.unary .not (.bool x)).run Try.prog w = .ok (.bool (!x)) w := fun _ _ => rfl
  have hm := run_makeMap (P := Try.prog) 66
  have HC := Lib.hid (clone_none w)
  unfold firstW at hl hU
  replace HW := Lib.hid HW
  replace HK := Lib.hid HK
  rcases hc with ⟨hc, rfl⟩ | ⟨hc, rfl⟩
  all_goals
    go_enter Try.func16, Try.ntmps16
    refine wp_scope_loop 0 (fun _ _ => False) (fun _ _ => 0) rfl (fun _ => ?_) (fun _ _ h => h.elim)
    go_wp2_with fail
    go_step3
    go_step
    go_step
    go_wp2_with fail
    refine HW.out.mono ?_
    rintro e w' ⟨rfl, hw'⟩
    replace hw' := hw'.symm
    subst hw'
    go_wp2_with fail
    refine HC.out.mono ?_
    rintro e w' ⟨rfl, hw'⟩
    replace hw' := hw'.symm
    subst hw'
    go_wp2_with fail
    refine HK.out.mono ?_
    rintro e w' ⟨rfl, hw'⟩
    subst hw'
    go_wp2_with fail
    simp only [Exit.jump]
    refine bodyPost_end (results_none rfl _ _ _) rfl ?_
    exact ⟨rfl, rfl⟩

/-- The world in which the map is turned: two new blocks, the map's and its variable's. -/
structure Fresh2 (w W2 : World) (mb vb : Nat) (o : Obj) : Prop where
  size : W2.heap.size = w.heap.size + 2
  old : ∀ k, k < w.heap.size → W2.heap[k]? = w.heap[k]?
  map : W2.heap[mb]? = some o
  var : W2.heap[vb]? = some (.cells #[.map (some mb)] 66 (0, 0))
  hm : w.heap.size ≤ mb
  hv : w.heap.size ≤ vb
  below : ∀ B, B ≤ w.heap.size → Below B w W2

theorem nextW_fresh (w : World) (o : Obj) : Fresh2 w (nextW w o) w.heap.size (w.heap.size + 1) o := ⟨nextW_size w o, fun k hk => nextW_old hk, nextW_map w o, nextW_var w o, Nat.le_refl _, by omega, fun B hB => nextW_below B w o hB⟩

theorem firstW_fresh (w : World) : Fresh2 w (firstW w) (w.heap.size + 1) w.heap.size (.map #[] 0) := by
  refine ⟨by simp [firstW], ?_, ?_, ?_, by omega, Nat.le_refl _, ?_⟩
  · intro k hk
    unfold firstW
    rw [Lib.alloc_old _ _ _ (by simp; omega), Lib.alloc_old _ _ _ hk]
  · have := heap_alloc_new (w.alloc (.cells #[.map (some (w.heap.size + 1))] 66)) (.map #[] 0)
    rw [show (w.alloc (.cells #[.map (some (w.heap.size + 1))] 66)).heap.size = w.heap.size + 1 by simp] at this
    exact this
  · unfold firstW
    rw [Lib.alloc_old _ _ _ (by simp)]
    exact heap_alloc_new w _
  · intro B hB
    exact ((Below.refl B w).alloc hB _).alloc (by simp; omega) _

theorem fresh_fin {g mb vb : Nat} {p : Option Addr} {L : List (ByteArray × Int)} {w W2 : World} {o : Obj} {es' : Array MapEntry} {clock' : Nat} (F : Fresh2 w W2 mb vb o) (hne : mb ≠ vb) (h : MeterAt w g p L) {n : ByteArray} (hn : n.size ≤ maxLen) {v : Int} (hv0 : 0 ≤ v) (hv1 : v ≤ 4611686018427387904)
    (hnd : (L.map (·.1)).Nodup) (hok : ∀ p ∈ L, p.1.size ≤ maxLen ∧ 0 ≤ p.2 ∧ p.2 ≤ 4611686018427387904) (hM : MapIs es' (putL (L.map intV) n (.int .i64 v))) (hS : MapKept.Stamped es' clock') {W3 W4 : World} (h3 : W3 = ChangeMaps.setBlock W2 mb (.map es' clock')) (h4 : W4 = W3.setCell ⟨g, 0, none⟩ (.pointer (some ⟨vb, 0, none⟩))) :
    (W3.cell? ⟨g, 0, none⟩ = some (.pointer p) ∧ W3.frozen? ⟨g, 0, none⟩ = false ∧ PtrOk W3 p ∧ PtrOk W3 (some ⟨vb, 0, none⟩) ∧ W3.cell? ⟨vb, 0, none⟩ = some (.map (some mb))) ∧ AddPost g (putI L n v) w (.returned (.tuple #[])) W4 := by
  have hg := lt_of_block h.own
  have hmb := F.hm
  have hvb := F.hv
  have old2 : ∀ k, k ≠ mb → W3.heap[k]? = W2.heap[k]? := by
    intro k hk
    rw [h3]
    unfold ChangeMaps.setBlock
    rw [Array.getElem?_setIfInBounds_ne (Ne.symm hk)]
  have old3 : ∀ k, k < w.heap.size → W3.heap[k]? = w.heap[k]? := fun k hk => (old2 k (by omega)).trans (F.old k hk)
  have s3 : W3.heap.size = w.heap.size + 2 := by rw [h3]; simp [ChangeMaps.setBlock, F.size]
  have m3 : W3.heap[mb]? = some (.map es' clock') := by rw [h3]; exact setBlock_at F.map
  have v3 : W3.heap[vb]? = some (.cells #[.map (some mb)] 66 (0, 0)) := (old2 vb (Ne.symm hne)).trans F.var
  have g3 := (old3 g hg).trans h.own
  have p3 : PtrOk W3 p := by
    rcases h.has with ⟨rfl, _⟩ | ⟨nb, mb, rfl, hb, _⟩
    · exact .inl rfl
    · exact .inr ⟨nb, _, rfl, (old3 nb (lt_of_block hb)).trans hb⟩
  have k4 : ∀ k, k ≠ g → W4.heap[k]? = W3.heap[k]? := fun k hk => by rw [h4]; exact Below.heap_setCell _ _ _ _ hk
  have g4 : W4.heap[g]? = some (.cells #[.pointer (some ⟨vb, 0, none⟩)] 64 (0, 0)) := by
    rw [h4]
    simp [World.setCell, Array.getElem?_modify, g3]
  refine ⟨⟨Lib.cell_of_heap g3 0, Lib.frozen_of_heap g3 0, p3, .inr ⟨_, _, rfl, v3⟩, Lib.cell_of_heap v3 0⟩, rfl, ⟨_, g4, .inr ⟨vb, mb, rfl, (k4 _ (by omega)).trans v3, ⟨⟨es', clock', (k4 _ (by omega)).trans m3, ?_, hS⟩, putI_keys hnd, ?_⟩⟩⟩, ⟨?_, ?_, ?_⟩⟩
  · rw [← putL_int]; exact hM
  · intro q hq
    rcases putI_mem hq with hq | rfl
    · exact hok q hq
    · exact ⟨hn, hv0, hv1⟩
  · rw [h4, World.size_setCell, s3]; omega
  · intro k hk hlt
    exact (k4 k hk).trans (old3 k hlt)
  · intro B hB
    have b1 := F.below B (by omega)
    have b2 : Below B W2 W3 := by
      rw [h3]
      exact ⟨rfl, rfl, rfl, by simp [ChangeMaps.setBlock], fun k hk => by
        unfold ChangeMaps.setBlock
        rw [Array.getElem?_setIfInBounds_ne (by omega)]⟩
    rw [h4]
    exact (b1.trans b2).setCell hB _

/-- Add -/
theorem add_any {g : Nat} {p : Option Addr} {L : List (ByteArray × Int)} (w : World) (h : MeterAt w g p L) (n : ByteArray) (hn : n.size ≤ maxLen) (k : Int) (hk : 0 < k) (hk2 : k ≤ 9223372036854775807) :
    Calls Try.prog 16 #[.pointer (some ⟨g, 0, none⟩), .string n, .int .i64 k] w fun e w' => AddPost g (putI L n (sumOf L n k)) w e w' := by
  have h' := h
  obtain ⟨h1, ⟨rfl, rfl⟩ | ⟨nb, mb, rfl, hnb, hN⟩⟩ := h'
  · have F := firstW_fresh w
    have hMI : MapIs (#[] : Array MapEntry) (([] : List (ByteArray × Int)).map intV) := rfl
    have N0 : NumsAt (firstW w) (w.heap.size + 1) [] := ⟨⟨#[], 0, F.map, hMI, MapKept.stamped_empty 0⟩, by simp, by simp⟩
    obtain ⟨es', clock', hU, hM', hS'⟩ := map_update (P := Try.prog) Try.underlying66 Try.underlying9 F.map hMI (by simp) (by simp) hn (.int .i64 (min k 4611686018427387904))
    have hv : sumOf [] n k = min k 4611686018427387904 := by simp [sumOf, numOf]
    obtain ⟨⟨c1, c2, c3, c4, c5⟩, hP⟩ := fresh_fin F (by omega) h hn (v := min k 4611686018427387904) (by omega) (by omega) (by simp) (by simp) hM' (hS' (MapKept.stamped_empty 0)) rfl rfl
    rw [hv]
    refine (add_walk_new n k w _ _ hk hk2 (min k 4611686018427387904) (by omega) (now_none w h) (N0.look hn) hU (ptr_cas _ c1 c2 c3 c4)).mono ?_
    rintro e w' ⟨rfl, rfl⟩
    exact hP
  · obtain ⟨es, clock, hb, hMI, hS0⟩ := hN.map
    have F := nextW_fresh w (.map es clock)
    have N2 : NumsAt (nextW w (.map es clock)) w.heap.size L := ⟨⟨es, clock, F.map, hMI, hS0⟩, hN.nd, hN.ok⟩
    obtain ⟨x1, x2⟩ := numOf_range hN.ok n
    obtain ⟨es', clock', hU, hM', hS'⟩ := map_update (P := Try.prog) Try.underlying66 Try.underlying9 F.map hMI (by rw [List.map_map]; exact hN.nd) (by
      intro p hp
      obtain ⟨q, hq, rfl⟩ := List.mem_map.1 hp
      exact (hN.ok q hq).1) hn (.int .i64 (sumOf L n k))
    have hs0 : 0 ≤ sumOf L n k := by unfold sumOf; omega
    have hs1 : sumOf L n k ≤ 4611686018427387904 := by unfold sumOf; omega
    obtain ⟨⟨c1, c2, c3, c4, c5⟩, hP⟩ := fresh_fin F (by omega) h hn hs0 hs1 hN.nd hN.ok hM' (hS' hS0) rfl rfl
    by_cases hc : k ≤ 4611686018427387904 - numOf L n
    · have hv : sumOf L n k = numOf L n + k := by unfold sumOf; rw [Int.min_eq_left hc]
      rw [hv] at hU
      refine (add_walk_lo n k (numOf L n) es clock w _ _ hk hk2 x1 x2 hc (now_some w h hnb) (clone_some w hb) (N2.look hn) hU (ptr_cas _ c1 c2 c3 c4) c5).mono ?_
      rintro e w' ⟨rfl, rfl⟩
      exact hP
    · have hv : sumOf L n k = numOf L n + (4611686018427387904 - numOf L n) := by unfold sumOf; rw [Int.min_eq_right (by omega)]
      rw [hv] at hU
      refine (add_walk_hi n k (numOf L n) es clock w _ _ hk hk2 x1 x2 (by omega) (now_some w h hnb) (clone_some w hb) (N2.look hn) hU (ptr_cas _ c1 c2 c3 c4) c5).mono ?_
      rintro e w' ⟨rfl, rfl⟩
      exact hP
end Go.Proofs.Ytcfadekcdcphnaa
