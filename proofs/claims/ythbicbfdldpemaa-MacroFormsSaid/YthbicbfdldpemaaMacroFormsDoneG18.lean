/- Texts of this seat's proofs, laid into one file. -/
import Derived.Test.YthbicbfdldpemaaMacroFormsDoneG17
import Derived.Test.YthbicbfdldpemaaMacroFormsDoneG16
import Derived.Deep.AppendLies
/- oxbowlaw5's flat. -/
namespace Go.Proofs.Ythbicbfdldpemaa
open Go.RowKit
set_option linter.unusedVariables false

set_option maxHeartbeats 4000000 in
set_option maxRecDepth 100000 in
theorem flat_any (css : List (List Value)) (hcs : ∀ c ∈ css, ∃ (ao : Option Addr) (n k f t : Nat) (op : Bool), c = [.slice ao n k, .int .i64 f, .int .i64 t, .bool op]) (a1 : Option Addr) (c : Nat) (hl : css.length ≤ 1000000) (hc : css.length ≤ c) (w : World) (h1 : Row w 4 a1 css) :
    Calls Try.prog 26 #[.slice a1 css.length c] w fun e w' => ∃ v, e = .returned v ∧ Own w' w.heap.size 86 4 v css ∧ Below w.heap.size w w' := by
  obtain ⟨n, hn⟩ : ∃ n, n = css.length := ⟨_, rfl⟩
  have HN : Hid (css.length = n) := Lib.hid hn.symm
  rw [← hn] at hl hc ⊢
  clear hn
  replace hcs := Lib.hid hcs
  go_enter Try.func26, Try.ntmps26
  go_wp2_with fail
  go_loopg [3, 4] n (fun u v i wr => ∃ k : Nat, u = n - k ∧ k ≤ n ∧ i = .int .i64 k ∧ Own wr w.heap.size 86 4 v (css.take k) ∧ Below w.heap.size w wr)
  case atStart => exact ⟨0, rfl, Nat.zero_le _, rfl, Own.nil _ _ _ _, Below.refl _ _⟩
  case round =>
    obtain ⟨k, rfl, hk, rfl, hO, hb⟩ := hrel
    obtain ⟨vao, vcap, rfl, _, _, _, _⟩ := hO.rown (n := k) (by rw [List.length_take, HN.out]; omega)
    by_cases hlt : k < n
    · obtain ⟨cl, hp⟩ : ∃ p, css[k]? = some p := ⟨css[k]'(by rw [HN.out]; exact hlt), by simp⟩
      obtain ⟨ao, m, cp, f, t, op, rfl⟩ := hcs.out _ (List.mem_of_getElem? hp)
      obtain ⟨rb, o, rfl, hat0⟩ := h1 (by intro h; subst h; simp at hp)
      have hrb : rb < w.heap.size := by
        have := World.block_lt_of_cell? w _ (ln_cells hat0 hp).1
        simpa using this
      obtain ⟨rb', o', e', hat⟩ := (h1.below hb) (by intro h; subst h; simp at hp)
      simp only [Option.some.injEq, Addr.mk.injEq, and_true] at e'
      obtain ⟨rfl, rfl⟩ := e'
      obtain ⟨t0, t1, t2, t3⟩ := ln_cells hat hp
      have htk : css.take k ++ [[.slice ao m cp, .int .i64 f, .int .i64 t, .bool op]] = css.take (k + 1) := by
        rw [List.take_add_one, hp]
        rfl
      have e1 : (k : Int) < n := by omega
      have hsz : w.heap.size ≤ wr.heap.size := hb.size
      have hlenO : (css.take k).length + 1 ≤ 1000000000 := by rw [List.length_take]; omega
      have hneb : (Value.slice vao k vcap).ownBlock ≠ some rb := by intro e; have := hO.ge _ e; omega
      have hOd := hO.drew
      have hfacts : Hid (∀ wx : World, wx.heap[rb]? = wr.heap[rb]? → wx.cell? ⟨rb, o + k * 4, none⟩ = some (.slice ao m cp) ∧ wx.cell? ⟨rb, o + k * 4 + 1, none⟩ = some (.int .i64 f) ∧ wx.cell? ⟨rb, o + k * 4 + 2, none⟩ = some (.int .i64 t) ∧ wx.cell? ⟨rb, o + k * 4 + 3, none⟩ = some (.bool op)) := Lib.hid (fun wx hx => ⟨(World.cell?_of_block (a := ⟨rb, o + k * 4, none⟩) hx).trans t0, (World.cell?_of_block (a := ⟨rb, o + k * 4 + 1, none⟩) hx).trans t1, (World.cell?_of_block (a := ⟨rb, o + k * 4 + 2, none⟩) hx).trans t2, (World.cell?_of_block (a := ⟨rb, o + k * 4 + 3, none⟩) hx).trans t3⟩)
      obtain ⟨x0, x1, x2, x3⟩ := hfacts.out wr.drew rfl
      have ha0 := fun ob => hfacts.out (wr.alloc ob).drew (Lib.alloc_old wr ob rb (Nat.lt_of_lt_of_le hrb hsz))
      have ha1 := fun ob => hfacts.out (wr.alloc ob) (Lib.alloc_old wr ob rb (Nat.lt_of_lt_of_le hrb hsz))
      replace htk := Lib.hid htk
      clear hat hat0 hp
      go_upto_region 11 with fail
      go_region_held3 (fun x : World => x.cell? ⟨rb, o + k * 4, none⟩ = some (.slice ao m cp) ∧ x.cell? ⟨rb, o + k * 4 + 1, none⟩ = some (.int .i64 f) ∧ x.cell? ⟨rb, o + k * 4 + 2, none⟩ = some (.int .i64 t) ∧ x.cell? ⟨rb, o + k * 4 + 3, none⟩ = some (.bool op)) (first | with_reducible exact ⟨x0, x1, x2, x3⟩ | with_reducible exact ha0 _ | with_reducible exact ha1 _ | with_reducible assumption) (first | (refine step_append1 E86 rfl rfl (Own.drew (hO.alloc _)) rfl rfl (heap_alloc_new wr _) rfl (by simp [Value.oneCell']) hlenO (by decide) (by simp; omega) ?_; intro v9 w9 hown9 hg9; have hx9 := hfacts.out w9 ((hg9.block rb (by simp; omega) (fun e => hneb e.symm)).trans (Lib.alloc_old wr _ rb (Nat.lt_of_lt_of_le hrb hsz)))))
      all_goals
        have hO9 : Own w9 w.heap.size 86 4 v9 (css.take (k + 1)) := by rw [← htk.out]; exact hown9
        have hb9 : Below w.heap.size w w9 := bapp (hb.alloc hsz _).drew (Own.drew (hO.alloc _)) hg9 (by simp; omega)
        go_wp2_with fail
        go_roundg (n - (k + 1))
        case measure => omega
        case rel => exact ⟨k + 1, rfl, by omega, by go_num, hO9, hb9⟩
    · have e1 : ¬ (k : Int) < n := by omega
      obtain rfl : k = n := by omega
      rw [List.take_of_length_le (by rw [HN.out]; exact Nat.le_refl _)] at hO
      go_wp2
      go_ret
      exact ⟨_, rfl, hO, hb⟩
end Go.Proofs.Ythbicbfdldpemaa
