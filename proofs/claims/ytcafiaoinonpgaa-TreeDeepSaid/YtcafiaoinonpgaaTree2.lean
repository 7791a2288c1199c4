/- Trees: Write, Same. -/
import Derived.Test.YtcafiaoinonpgaaTree1
namespace Go.Proofs.Ytcafiaoinonpgaa
open Go.RowKit
set_option linter.unusedVariables false

set_option maxHeartbeats 2000000 in
set_option maxRecDepth 100000 in
theorem tWrite_any (t : T) (cs : List Value) (F : Nat → Prop) (w : World) (hrep : Rep w F t cs) (hl : (T.out t).length ≤ 1000000000) :
    Calls Try.prog 19 #[.agg cs.toArray] w fun e w' => e = .returned (.string ⟨(T.out t).toArray⟩) ∧ Below w.heap.size w w' := by
  have hrep1 : ∀ o, Rep ((w.alloc (.cells cs.toArray 40)).alloc o) (· < w.heap.size + 1) t cs := fun o => (hrep.wide (G := (· < w.heap.size + 1)) (fun k _ hk => by omega)).later (KeptOn.of_below (((Below.refl _ w).alloc (Nat.le_refl _) _).alloc (by simp) _))
  have hp0 : ∀ (o : Obj) (w' : World), Kb (w.heap.size + 1) (w.heap.size + 1) ((w.alloc (.cells cs.toArray 40)).alloc o) w' → ∀ (j : Nat) (u : Value), cs[j]? = some u → w'.cell? ⟨w.heap.size, 0 + j, none⟩ = some u := by
    intro o w' hk j u hu
    rw [hk.below.cell (p := ⟨w.heap.size, 0 + j, none⟩) (Nat.lt_succ_self _), Nat.zero_add]
    exact kept_cell ((Below.refl _ (w.alloc (.cells cs.toArray 40))).alloc (Nat.le_refl _) _) (cell_new w cs _ hu)
  have HR := Lib.hid hrep1
  have HP := Lib.hid hp0
  have hbn := bld_new (w.alloc (.cells cs.toArray 40))
  have hsz : (w.alloc (.cells cs.toArray 40)).heap.size = w.heap.size + 1 := by simp
  rw [hsz] at hbn
  have HB := Lib.hid hbn
  clear hrep1 hp0 hbn hsz
  cases hrep with
  | @mk k x f o ks ao cap css hks hrow hc =>
    clear hks hrow
    go_enter Try.func19, Try.ntmps19
    go_wp2_with fail
    refine (twrite_any _ (w.heap.size + 1) (w.heap.size + 1) (by simp) _ _ w.heap.size 0 [] _ (HR.out _) (HP.out _) (Kb.refl _ _ _) HB.out (by simpa using hl)).mono ?_
    rintro e w2 ⟨rfl, hb2, hk2⟩
    go_wp2_with fail
    refine (bld_done hb2 (by have := hk2.below.size; simp at this; omega)).mono ?_
    rintro e w3 ⟨rfl, hb3, hk3⟩
    go_wp2
    go_ret
    refine ⟨rfl, ?_⟩
    have h1 : Below w.heap.size w w2 := (((Below.refl _ w).alloc (Nat.le_refl _) _).alloc (by simp) _).trans (hk2.below.mono (by omega))
    exact h1.trans (hk3.below.mono (by omega))
end Go.Proofs.Ytcafiaoinonpgaa
