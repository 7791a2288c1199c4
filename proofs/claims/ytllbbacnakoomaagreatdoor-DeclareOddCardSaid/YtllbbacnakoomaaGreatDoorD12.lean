/- Texts of this seat's proofs, laid into one file. -/
import Derived.Test.YtllbbacnakoomaaGreatDoorD10
import Derived.Test.YtllbbacnakoomaaGreatDoorD9
import Derived.Test.YtllbbacnakoomaaGreatDoorD11
import Derived.Test.YtllbbacnakoomaaGreatDoorS34
import Derived.Deep.RegionWith
set_option maxRecDepth 100000
set_option maxHeartbeats 16000000
namespace Go.Proofs.YtllbbacnakoomaaGreatDoor
open Go.RowKit
set_option linter.unusedVariables false
theorem good2N (L : List Ct) (ta : Option Addr) (tc rb : Nat) : ∀ n, Good2 L ta tc rb (recN L n)
 | 0 =>
   { good := goodN L ta tc rb 0
     declaration := fun _ _ h => by cases h
     stmt := fun _ _ h => by cases h
     block := fun _ _ h => by cases h }
 | n + 1 =>
   have G2 := good2N L ta tc rb n
   { good := goodN L ta tc rb (n + 1)
     declaration := fun h hn hr => declaration_step G2.good h hn hr
     stmt := fun h hn hr => stmt_step G2 h hn hr
     block := fun h hn hr => block_step G2 h hn hr }
end Go.Proofs.YtllbbacnakoomaaGreatDoor
namespace Go.Proofs.YtllbbacnakoomaaGreatDoor
open Go.RowKit
set_option linter.unusedVariables false
theorem dStmt_any {L : List Ct} {ta : Option Addr} {tc nest N : Nat} {i : Int} {p : Option Addr} {e : Ev} {w : World} {n : T} {s' : Ps} (h : TkAt L ta tc w) (he : EvAt w p e) (h1 : -1 ≤ i) (h2 : i ≤ L.length) (hn : nest ≤ 1000) (hr : (recN L N).stmt nest ⟨i, e, false⟩ = some (n, s')) :
 Calls Tryz.prog 41 #[paV L ta tc i p nest] w (ClP L ta tc s' n nest w.heap.size p w) := by
 obtain ⟨W, hW⟩ : ∃ W, W = ((w.alloc (paO L ta tc i p nest)).alloc nzO).alloc pzO := ⟨_, rfl⟩
 obtain ⟨hbW, hp, hz, hy⟩ := three_new w (paO L ta tc i p nest) nzO pzO
 rw [← hW] at hbW hp hz hy
 have HO := Hd (dOpen_any (nest := nest) (h.below hbW) (he.under hbW) h1 h2)
 obtain ⟨p0', p1', p2', p3', pf⟩ := pa_cells hp
 replace hr := Hd hr
 have HB : Hid (∀ x, Below W.heap.size W x → x.heap[w.heap.size]? = some (paO L ta tc i p nest) ∧ x.heap[w.heap.size + 1]? = some nzO ∧ x.heap[w.heap.size + 1 + 1]? = some pzO ∧ Below w.heap.size w x) := Hd fun x hx => ⟨(hx.block _ (lt_of_block hp)).trans hp, (hx.block _ (lt_of_block hz)).trans hz, (hx.block _ (lt_of_block hy)).trans hy, hbW.trans (hx.mono hbW.size)⟩
 have hWs := lt_of_block hy
 clear h he hbW hp hz hy
 go_enter Tryz.func41, Tryz.ntmps41
 go_upto_region 1 with fail
 rw [← hW]
 replace hW := Hd hW
 go_wp2_with fail
 refine HO.out.mono ?_
 rintro r w1 ⟨rb, rfl, hrb, hs1, hb1⟩
 clear HO p0' p1' p2' p3' pf
 obtain ⟨V, hV⟩ : ∃ V, V = w1.alloc (drO rb) := ⟨_, rfl⟩
 have hbV : Below w1.heap.size w1 V := by rw [hV]; exact (Below.refl _ _).alloc (Nat.le_refl _) _
 have hgV : V.drew.heap[w1.heap.size]? = some (drO rb) := by show V.heap[w1.heap.size]? = _; rw [hV]; exact heap_alloc_new _ _
 have hsV := hs1.below hbV
 have hrw := hs1.lt
 have hb1d : Below W.heap.size W V.drew := (hb1.trans (hbV.mono hb1.size)).drew
 have HE := Hd ((good2N L ta tc rb N).stmt (hsV.below (Below.refl _ V).drew) hn hr.out)
 have hr4 : w1.heap.size ≠ rb := by omega
 obtain ⟨r0, rf⟩ := dr_cell hgV
 obtain ⟨p1, z1, y1, _⟩ := HB.out _ hb1d
 obtain ⟨a0, a1, a2, a3, af⟩ := pa_cells p1
 have hr1 : w.heap.size ≠ rb := by omega
 have hr2 : w.heap.size + 1 ≠ rb := by omega
 have hr3 : w.heap.size + 1 + 1 ≠ rb := by omega
 have hws : w.heap.size ≤ V.drew.heap.size := by have := hb1.size; have := hbV.size; show w.heap.size ≤ V.heap.size; omega
 have hwW : W.heap.size ≤ V.drew.heap.size := by have := hb1.size; have := hbV.size; show W.heap.size ≤ V.heap.size; omega
 have hg1 : w.heap.size ≤ w.heap.size + 1 := by omega
 have hg2 : w.heap.size ≤ w.heap.size + 1 + 1 := by omega
 have hn12 : w.heap.size + 1 ≠ w.heap.size + 1 + 1 := by omega
 have hn21 : w.heap.size + 1 + 1 ≠ w.heap.size + 1 := by omega
 replace hs1 := Hd hs1
 replace hsV := Hd hsV
 replace hbV := Hd hbV
 go_upto_region 2 with fail
 rw [← hV]
 replace hV := Hd hV
 go_region_law (first
  | (go_simp; go_at_call 72; refine HE.out.mono ?_; rintro e w2 ⟨ao, cap, rfl, hn2, hs2, k2⟩; have p2 := kp_block k2 p1 hr1; have z2 := kp_block k2 z1 hr2; have y2 := kp_block k2 y1 hr3; obtain ⟨a0, a1, a2, a3, af⟩ := pa_cells p2; obtain ⟨r0, rf⟩ := dr_cell (kp_block k2 hgV hr4); replace k2 := Hd k2)
  | (go_simp; go_at_call 60; refine (close2_any hs2 (hn2.mono hwW)).mono ?_; rintro e w3 ⟨m, am, cm, q, rfl, hm, hnm, hq1, hq2, hb3⟩; replace hm := Hd hm; replace hq1 := Hd hq1; replace hq2 := Hd hq2; have z3 := (hb3.block _ (lt_of_block z2)).trans z2; have y3 := (hb3.block _ (lt_of_block y2)).trans y2; obtain ⟨b0, b1, b2, b3, b4, bf⟩ := nd_cells z3; obtain ⟨d0, d1, d2, d3, df⟩ := pa_cells y3; unfold ndV))
 all_goals
  go_wp2
  refine bodyPost_ret (results_row_row_tmp rfl _ _ (w.heap.size + 1) 50 _ (0,0) _ rfl (set_o (set_o (set_o (set_o (nd_set5 z3) hn12) hn12) hn12) hn12) Tryz.underlying50 rfl (by kernel_rfl) (w.heap.size + 1 + 1) 46 _ (0,0) _ rfl (pa_set4 (set_o (set_o (set_o (set_o (set_o y3 hn21) hn21) hn21) hn21) hn21)) Tryz.underlying46 rfl (by kernel_rfl)) rfl ?_
  have hb3' := Hd (below_rb (HB.out _ hb1d).2.2.2 k2.out (by omega) hws)
  have hbz := hb3'.out.trans (hb3.mono (by have := hb3'.out.size; omega))
  refine ⟨m, am, cm, q, rfl, hm.out, ?_, fun h => ?_, hq2.out, ((((((((hbz.setCell (p := ⟨(w.heap.size + 1), 0, none⟩) hg1 _).setCell (p := ⟨(w.heap.size + 1), 1, none⟩) hg1 _).setCell (p := ⟨(w.heap.size + 1), 2, none⟩) hg1 _).setCell (p := ⟨(w.heap.size + 1), 3, none⟩) hg1 _).setCell (p := ⟨(w.heap.size + 1), 4, none⟩) hg1 _).setCell (p := ⟨(w.heap.size + 1 + 1), 0, none⟩) hg2 _).setCell (p := ⟨(w.heap.size + 1 + 1), 1, none⟩) hg2 _).setCell (p := ⟨(w.heap.size + 1 + 1), 2, none⟩) hg2 _).setCell (p := ⟨(w.heap.size + 1 + 1), 3, none⟩) hg2 _⟩
  ·exact ((clp_sets z3 y3 fun k e1 e2 => set_o (set_o (set_o (set_o (set_o (set_o (set_o (set_o (set_o rfl e1) e1) e1) e1) e1) e2) e2) e2) e2).1 (by omega) (by omega) hnm).mono (by omega)
  ·exact (clp_sets z3 y3 fun k e1 e2 => set_o (set_o (set_o (set_o (set_o (set_o (set_o (set_o (set_o rfl e1) e1) e1) e1) e1) e2) e2) e2) e2).2 _ _ (hq1.out h)
end Go.Proofs.YtllbbacnakoomaaGreatDoor
