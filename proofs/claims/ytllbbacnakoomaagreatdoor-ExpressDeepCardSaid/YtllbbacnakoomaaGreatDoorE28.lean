/- Texts of this seat's proofs, laid into one file. -/
import Derived.Test.YtllbbacnakoomaaGreatDoorE13
import Derived.Test.YtllbbacnakoomaaGreatDoorE21
import Derived.Test.YtllbbacnakoomaaGreatDoorE22
import Derived.Test.YtllbbacnakoomaaGreatDoorE24
import Derived.Test.YtllbbacnakoomaaGreatDoorE27
import Derived.Test.YtllbbacnakoomaaGreatDoorE20
import Derived.Deep.RegionWith
/- All rules of expressions and types: by induction on the rounds. -/
namespace Go.Proofs.YtllbbacnakoomaaGreatDoor
open Go.RowKit
set_option linter.unusedVariables false

theorem goodN (L : List Ct) (ta : Option Addr) (tc rb : Nat) : ∀ n, Good L ta tc rb (recN L n)
  | 0 =>
    { expr := fun _ _ h => by cases h
      assign := fun _ _ h => by cases h
      cond := fun _ _ h => by cases h
      binary := fun _ _ _ h => by cases h
      cast := fun _ _ h => by cases h
      unary := fun _ _ h => by cases h
      init := fun _ _ h => by cases h
      typeName := fun _ _ h => by cases h
      specs := fun _ _ h => by cases h
      declr := fun _ _ _ h => by cases h
      pointer := fun _ _ _ h => by cases h }
  | n + 1 =>
    have G := goodN L ta tc rb n
    { expr := fun h hn hr => expr_step G h hn hr
      assign := fun h hn hr => assign_step G h hn hr
      cond := fun h hn hr => cond_step G h hn hr
      binary := fun h hl hn hr => binary_step G h hl hn hr
      cast := fun h hn hr => cast_step G h hn hr
      unary := fun h hn hr => unary_step G (primary_any G) h hn hr
      init := fun h hn hr => init_step G h hn hr
      typeName := fun h hn hr => typeName_step G h hn hr
      specs := fun h hn hr => specs_step (sOne_any G) h hn hr
      declr := fun h hn hm hr => declr_step G h hn hm hr
      pointer := fun h hn hm hr => pointer_step G (direct_any G) h hn hm hr }
end Go.Proofs.YtllbbacnakoomaaGreatDoor

/- express: Expr and Declarator, as others call them. -/
namespace Go.Proofs.YtllbbacnakoomaaGreatDoor
open Go.RowKit
set_option linter.unusedVariables false

/-- what a rule tells: a node, where it is, the scopes, and whether it fits -/
def ClP (L : List Ct) (ta : Option Addr) (tc : Nat) (s : Ps) (n : T) (nest B : Nat) (p0 : Option Addr) (w : World) (e : Ending) (w' : World) : Prop :=
  ∃ m ao cap q, e = .returned (.tuple #[ndV m ao cap, paV L ta tc s.at_ q nest, .bool (!s.bad)]) ∧ m = (if s.bad = true then zT else n) ∧ NdAt w' B m ao cap ∧ (s.bad = false → EvAt w' q s.env) ∧ (s.bad = true → q = p0) ∧ Below w.heap.size w w'

theorem close2_any {L : List Ct} {ta : Option Addr} {tc rb B : Nat} {s : Ps} {w : World} {i : Int} {p0 : Option Addr} {nest : Nat} {n : T} {ao : Option Addr} {cap : Nat} (h : PS L ta tc rb s w) (hn : NdAt w B n ao cap) :
    Calls Tryz.prog 60 #[.pointer (some ⟨rb, 0, none⟩), paV L ta tc i p0 nest, ndV n ao cap] w (ClP L ta tc s n nest B p0 w) :=
  (close_any h).mono fun e w' ⟨q, he, hq, hb⟩ => by
    unfold clV at he
    cases hs : s.bad with
    | true =>
      rw [hs] at he
      exact ⟨zT, none, 0, p0, by rw [hs]; exact he, by rw [hs]; rfl, NdAt.zero _ _, fun h => (by rw [hs] at h; cases h), fun _ => rfl, hb⟩
    | false =>
      rw [hs] at he
      exact ⟨n, ao, cap, q, by rw [hs]; exact he, by rw [hs]; rfl, hn.below hb, fun _ => hq, fun h => (by rw [hs] at h; cases h), hb⟩

/-- three new blocks -/
theorem three_new (w : World) (a b c : Obj) : Below w.heap.size w (((w.alloc a).alloc b).alloc c) ∧ (((w.alloc a).alloc b).alloc c).heap[w.heap.size]? = some a ∧ (((w.alloc a).alloc b).alloc c).heap[w.heap.size + 1]? = some b ∧ (((w.alloc a).alloc b).alloc c).heap[w.heap.size + 1 + 1]? = some c := by
  have s1 : (w.alloc a).heap.size = w.heap.size + 1 := by simp
  have s2 : ((w.alloc a).alloc b).heap.size = w.heap.size + 1 + 1 := by simp
  refine ⟨(((Below.refl _ w).alloc (Nat.le_refl _) _).alloc (by omega) _).alloc (by omega) _, ?_, ?_, ?_⟩
  · rw [heap_alloc_old _ _ (by omega), heap_alloc_old _ _ (by omega), heap_alloc_new]
  · rw [heap_alloc_old _ _ (by omega), ← s1, heap_alloc_new]
  · rw [← s2, heap_alloc_new]

/-- the reader that a call made turned: what stood ahead of it stands -/
theorem below_rb {B rb : Nat} {a b c : World} (h : Below B a b) (hk : b.grownBy c (some rb)) (hr : B ≤ rb) (hs : B ≤ b.heap.size) : Below B a c :=
  h.trans ⟨hk.os, hk.tape, hk.output, hk.size, fun k hk' => hk.block k (by omega) (by intro e; have := Option.some.inj e; omega)⟩

/-- two blocks that hold a node and a Parser turned -/
theorem clp_sets {w z : World} {g1 g2 : Nat} {c1 c2 : Array Value} {f1 f2 : Nat × Nat} (h1 : w.heap[g1]? = some (.cells c1 50 f1)) (h2 : w.heap[g2]? = some (.cells c2 46 f2)) (hk : ∀ k, k ≠ g1 → k ≠ g2 → z.heap[k]? = w.heap[k]?) :
    (∀ {B : Nat} {m : T} {am : Option Addr} {cm : Nat}, g1 < B → g2 < B → NdAt w B m am cm → NdAt z B m am cm) ∧ ∀ q e, EvAt w q e → EvAt z q e := by
  refine ⟨fun {B m am cm} e1 e2 hn => hn.later fun k hB _ => hk k (by omega) (by omega), fun q e he => he.moved fun b y fy hy => (hk b ?_ ?_).trans hy⟩
  · rintro rfl
    rw [h1] at hy
    injection hy with hy
    injection hy with _ hy _
    revert hy
    decide
  · rintro rfl
    rw [h2] at hy
    injection hy with hy
    injection hy with _ hy _
    revert hy
    decide

set_option maxRecDepth 100000 in
set_option maxHeartbeats 4000000 in
theorem eExpr_any {L : List Ct} {ta : Option Addr} {tc nest N : Nat} {i : Int} {p : Option Addr} {e : Ev} {w : World} {n : T} {s' : Ps} (h : TkAt L ta tc w) (he : EvAt w p e) (h1 : -1 ≤ i) (h2 : i ≤ L.length) (hn : nest ≤ 1000) (hr : (recN L N).expr nest ⟨i, e, false⟩ = some (n, s')) :
    Calls Tryz.prog 52 #[paV L ta tc i p nest] w (ClP L ta tc s' n nest w.heap.size p w) := by
  obtain ⟨W, hW⟩ : ∃ W, W = ((w.alloc (paO L ta tc i p nest)).alloc nzO).alloc pzO := ⟨_, rfl⟩
  obtain ⟨hbW, hp, hz, hy⟩ := three_new w (paO L ta tc i p nest) nzO pzO
  rw [← hW] at hbW hp hz hy
  have HO := Lib.hid (open_any (nest := nest) (h.below hbW) (he.under hbW) h1 h2)
  obtain ⟨p0', p1', p2', p3', pf⟩ := pa_cells hp
  replace hr := Lib.hid hr
  have HB : Hid (∀ x, Below W.heap.size W x → x.heap[w.heap.size]? = some (paO L ta tc i p nest) ∧ x.heap[w.heap.size + 1]? = some nzO ∧ x.heap[w.heap.size + 1 + 1]? = some pzO ∧ Below w.heap.size w x) := Lib.hid fun x hx => ⟨(hx.block _ (lt_of_block hp)).trans hp, (hx.block _ (lt_of_block hz)).trans hz, (hx.block _ (lt_of_block hy)).trans hy, hbW.trans (hx.mono hbW.size)⟩
  have hWs := lt_of_block hy
  clear h he hbW hp hz hy
  go_enter Tryz.func52, Tryz.ntmps52
  go_upto_region 1 with fail
  rw [← hW]
  replace hW := Lib.hid hW
  go_wp2_with fail
  refine HO.out.mono ?_
  rintro r w1 ⟨rb, rfl, hrb, hs1, hb1⟩
  clear HO p0' p1' p2' p3' pf
  have hb1d : Below W.heap.size W w1.drew := hb1.drew
  have HE := Lib.hid ((goodN L ta tc rb N).expr (hs1.below (Below.refl _ w1).drew) hn hr.out)
  obtain ⟨p1, z1, y1, _⟩ := HB.out _ hb1d
  obtain ⟨a0, a1, a2, a3, af⟩ := pa_cells p1
  have hr1 : w.heap.size ≠ rb := by omega
  have hr2 : w.heap.size + 1 ≠ rb := by omega
  have hr3 : w.heap.size + 1 + 1 ≠ rb := by omega
  have hws : w.heap.size ≤ w1.drew.heap.size := by have := hb1.size; show w.heap.size ≤ w1.heap.size; omega
  have hwW : W.heap.size ≤ w1.drew.heap.size := by have := hb1.size; show W.heap.size ≤ w1.heap.size; omega
  have hg1 : w.heap.size ≤ w.heap.size + 1 := by omega
  have hg2 : w.heap.size ≤ w.heap.size + 1 + 1 := by omega
  have hn12 : w.heap.size + 1 ≠ w.heap.size + 1 + 1 := by omega
  have hn21 : w.heap.size + 1 + 1 ≠ w.heap.size + 1 := by omega
  replace hs1 := Lib.hid hs1
  go_upto_region 2 with fail
  go_region_with (first
    | (go_at_call 85; refine HE.out.mono ?_; rintro e w2 ⟨ao, cap, rfl, hn2, hs2, k2⟩; have p2 := kp_block k2 p1 hr1; have z2 := kp_block k2 z1 hr2; have y2 := kp_block k2 y1 hr3; obtain ⟨a0, a1, a2, a3, af⟩ := pa_cells p2; replace k2 := Lib.hid k2)
    | (go_at_call 60; refine (close2_any hs2 (hn2.mono hwW)).mono ?_; rintro e w3 ⟨m, am, cm, q, rfl, hm, hnm, hq1, hq2, hb3⟩; replace hm := Lib.hid hm; replace hq1 := Lib.hid hq1; replace hq2 := Lib.hid hq2; have z3 := (hb3.block _ (lt_of_block z2)).trans z2; have y3 := (hb3.block _ (lt_of_block y2)).trans y2; obtain ⟨b0, b1, b2, b3, b4, bf⟩ := nd_cells z3; obtain ⟨d0, d1, d2, d3, df⟩ := pa_cells y3; unfold ndV))
  all_goals
    go_wp2
    refine bodyPost_ret (results_row_row_tmp rfl _ _ (w.heap.size + 1) 50 _ (0, 0) _ rfl (set_o (set_o (set_o (set_o (nd_set5 z3) hn12) hn12) hn12) hn12) Tryz.underlying50 rfl (by kernel_rfl) (w.heap.size + 1 + 1) 46 _ (0, 0) _ rfl (pa_set4 (set_o (set_o (set_o (set_o (set_o y3 hn21) hn21) hn21) hn21) hn21)) Tryz.underlying46 rfl (by kernel_rfl)) rfl ?_
    have hb3' := Lib.hid (below_rb (HB.out _ hb1d).2.2.2 k2.out (by omega) hws)
    have hbz := hb3'.out.trans (hb3.mono (by have := hb3'.out.size; omega))
    refine ⟨m, am, cm, q, rfl, hm.out, ?_, fun h => ?_, hq2.out, ((((((((hbz.setCell (p := ⟨(w.heap.size + 1), 0, none⟩) hg1 _).setCell (p := ⟨(w.heap.size + 1), 1, none⟩) hg1 _).setCell (p := ⟨(w.heap.size + 1), 2, none⟩) hg1 _).setCell (p := ⟨(w.heap.size + 1), 3, none⟩) hg1 _).setCell (p := ⟨(w.heap.size + 1), 4, none⟩) hg1 _).setCell (p := ⟨(w.heap.size + 1 + 1), 0, none⟩) hg2 _).setCell (p := ⟨(w.heap.size + 1 + 1), 1, none⟩) hg2 _).setCell (p := ⟨(w.heap.size + 1 + 1), 2, none⟩) hg2 _).setCell (p := ⟨(w.heap.size + 1 + 1), 3, none⟩) hg2 _⟩
    · exact ((clp_sets z3 y3 fun k e1 e2 => set_o (set_o (set_o (set_o (set_o (set_o (set_o (set_o (set_o rfl e1) e1) e1) e1) e1) e2) e2) e2) e2).1 (by omega) (by omega) hnm).mono (by omega)
    · exact (clp_sets z3 y3 fun k e1 e2 => set_o (set_o (set_o (set_o (set_o (set_o (set_o (set_o (set_o rfl e1) e1) e1) e1) e1) e2) e2) e2) e2).2 _ _ (hq1.out h)
set_option maxRecDepth 100000 in
set_option maxHeartbeats 4000000 in
theorem eDeclr_any {L : List Ct} {ta : Option Addr} {tc nest N mode : Nat} {i : Int} {p : Option Addr} {e : Ev} {w : World} {n : T} {s' : Ps} (h : TkAt L ta tc w) (he : EvAt w p e) (h1 : -1 ≤ i) (h2 : i ≤ L.length) (hn : nest ≤ 1000) (hmo : mode ≤ 2) (hr : (recN L N).declr nest mode ⟨i, e, false⟩ = some (n, s')) :
    Calls Tryz.prog 26 #[paV L ta tc i p nest, .int .i64 mode] w (ClP L ta tc s' n nest w.heap.size p w) := by
  obtain ⟨W, hW⟩ : ∃ W, W = ((w.alloc (paO L ta tc i p nest)).alloc nzO).alloc pzO := ⟨_, rfl⟩
  obtain ⟨hbW, hp, hz, hy⟩ := three_new w (paO L ta tc i p nest) nzO pzO
  rw [← hW] at hbW hp hz hy
  have HO := Lib.hid (open_any (nest := nest) (h.below hbW) (he.under hbW) h1 h2)
  obtain ⟨p0', p1', p2', p3', pf⟩ := pa_cells hp
  replace hr := Lib.hid hr
  have HB : Hid (∀ x, Below W.heap.size W x → x.heap[w.heap.size]? = some (paO L ta tc i p nest) ∧ x.heap[w.heap.size + 1]? = some nzO ∧ x.heap[w.heap.size + 1 + 1]? = some pzO ∧ Below w.heap.size w x) := Lib.hid fun x hx => ⟨(hx.block _ (lt_of_block hp)).trans hp, (hx.block _ (lt_of_block hz)).trans hz, (hx.block _ (lt_of_block hy)).trans hy, hbW.trans (hx.mono hbW.size)⟩
  have hWs := lt_of_block hy
  clear h he hbW hp hz hy
  go_enter Tryz.func26, Tryz.ntmps26
  go_upto_region 1 with fail
  rw [← hW]
  replace hW := Lib.hid hW
  go_wp2_with fail
  refine HO.out.mono ?_
  rintro r w1 ⟨rb, rfl, hrb, hs1, hb1⟩
  clear HO p0' p1' p2' p3' pf
  have hb1d : Below W.heap.size W w1.drew := hb1.drew
  have HE := Lib.hid ((goodN L ta tc rb N).declr (hs1.below (Below.refl _ w1).drew) hn hmo hr.out)
  obtain ⟨p1, z1, y1, _⟩ := HB.out _ hb1d
  obtain ⟨a0, a1, a2, a3, af⟩ := pa_cells p1
  have hr1 : w.heap.size ≠ rb := by omega
  have hr2 : w.heap.size + 1 ≠ rb := by omega
  have hr3 : w.heap.size + 1 + 1 ≠ rb := by omega
  have hws : w.heap.size ≤ w1.drew.heap.size := by have := hb1.size; show w.heap.size ≤ w1.heap.size; omega
  have hwW : W.heap.size ≤ w1.drew.heap.size := by have := hb1.size; show W.heap.size ≤ w1.heap.size; omega
  have hg1 : w.heap.size ≤ w.heap.size + 1 := by omega
  have hg2 : w.heap.size ≤ w.heap.size + 1 + 1 := by omega
  have hn12 : w.heap.size + 1 ≠ w.heap.size + 1 + 1 := by omega
  have hn21 : w.heap.size + 1 + 1 ≠ w.heap.size + 1 := by omega
  replace hs1 := Lib.hid hs1
  go_upto_region 2 with fail
  go_region_with (first
    | (go_at_call 61; refine HE.out.mono ?_; rintro e w2 ⟨ao, cap, rfl, hn2, hs2, k2⟩; have p2 := kp_block k2 p1 hr1; have z2 := kp_block k2 z1 hr2; have y2 := kp_block k2 y1 hr3; obtain ⟨a0, a1, a2, a3, af⟩ := pa_cells p2; replace k2 := Lib.hid k2)
    | (go_at_call 60; refine (close2_any hs2 (hn2.mono hwW)).mono ?_; rintro e w3 ⟨m, am, cm, q, rfl, hm, hnm, hq1, hq2, hb3⟩; replace hm := Lib.hid hm; replace hq1 := Lib.hid hq1; replace hq2 := Lib.hid hq2; have z3 := (hb3.block _ (lt_of_block z2)).trans z2; have y3 := (hb3.block _ (lt_of_block y2)).trans y2; obtain ⟨b0, b1, b2, b3, b4, bf⟩ := nd_cells z3; obtain ⟨d0, d1, d2, d3, df⟩ := pa_cells y3; unfold ndV))
  all_goals
    go_wp2
    refine bodyPost_ret (results_row_row_tmp rfl _ _ (w.heap.size + 1) 50 _ (0, 0) _ rfl (set_o (set_o (set_o (set_o (nd_set5 z3) hn12) hn12) hn12) hn12) Tryz.underlying50 rfl (by kernel_rfl) (w.heap.size + 1 + 1) 46 _ (0, 0) _ rfl (pa_set4 (set_o (set_o (set_o (set_o (set_o y3 hn21) hn21) hn21) hn21) hn21)) Tryz.underlying46 rfl (by kernel_rfl)) rfl ?_
    have hb3' := Lib.hid (below_rb (HB.out _ hb1d).2.2.2 k2.out (by omega) hws)
    have hbz := hb3'.out.trans (hb3.mono (by have := hb3'.out.size; omega))
    refine ⟨m, am, cm, q, rfl, hm.out, ?_, fun h => ?_, hq2.out, ((((((((hbz.setCell (p := ⟨(w.heap.size + 1), 0, none⟩) hg1 _).setCell (p := ⟨(w.heap.size + 1), 1, none⟩) hg1 _).setCell (p := ⟨(w.heap.size + 1), 2, none⟩) hg1 _).setCell (p := ⟨(w.heap.size + 1), 3, none⟩) hg1 _).setCell (p := ⟨(w.heap.size + 1), 4, none⟩) hg1 _).setCell (p := ⟨(w.heap.size + 1 + 1), 0, none⟩) hg2 _).setCell (p := ⟨(w.heap.size + 1 + 1), 1, none⟩) hg2 _).setCell (p := ⟨(w.heap.size + 1 + 1), 2, none⟩) hg2 _).setCell (p := ⟨(w.heap.size + 1 + 1), 3, none⟩) hg2 _⟩
    · exact ((clp_sets z3 y3 fun k e1 e2 => set_o (set_o (set_o (set_o (set_o (set_o (set_o (set_o (set_o rfl e1) e1) e1) e1) e1) e2) e2) e2) e2).1 (by omega) (by omega) hnm).mono (by omega)
    · exact (clp_sets z3 y3 fun k e1 e2 => set_o (set_o (set_o (set_o (set_o (set_o (set_o (set_o (set_o rfl e1) e1) e1) e1) e1) e2) e2) e2) e2).2 _ _ (hq1.out h)
set_option maxRecDepth 100000 in
set_option maxHeartbeats 4000000 in
theorem eStarts_any {L : List Ct} {ta : Option Addr} {tc nest : Nat} {i : Int} {p : Option Addr} {e : Ev} {w : World} (h : TkAt L ta tc w) (he : EvAt w p e) (h1 : -1 ≤ i) (h2 : i ≤ L.length) :
    Calls Tryz.prog 24 #[paV L ta tc i p nest] w fun r w' => r = .returned (.bool (beginsP e (tokP L i))) ∧ Below w.heap.size w w' := by
  obtain ⟨W, hW⟩ : ∃ W, W = w.alloc (paO L ta tc i p nest) := ⟨_, rfl⟩
  have hbW : Below w.heap.size w W := by rw [hW]; exact (Below.refl _ w).alloc (Nat.le_refl _) _
  have hp : W.heap[w.heap.size]? = some (paO L ta tc i p nest) := by rw [hW]; exact heap_alloc_new _ _
  have HO := Lib.hid (open_any (nest := nest) (h.below hbW) (he.under hbW) h1 h2)
  obtain ⟨p0', p1', p2', p3', pf⟩ := pa_cells hp
  replace hbW := Lib.hid hbW
  clear h he hp
  go_enter Tryz.func24, Tryz.ntmps24
  go_upto_region 1 with fail
  rw [← hW]
  replace hW := Lib.hid hW
  go_wp2_with fail
  refine HO.out.mono ?_
  rintro r w1 ⟨rb, rfl, hrb, hs1, hb1⟩
  clear HO p0' p1' p2' p3' pf
  have HS := Lib.hid (starts_any hs1)
  unfold startsP at HS
  have hb2 := Lib.hid (hbW.out.trans (hb1.mono hbW.out.size))
  clear hs1 hb1
  go_wp2_with fail
  refine HS.out.mono ?_
  rintro r w2 ⟨rfl, hb3⟩
  have hb4 := Lib.hid (hb2.out.trans (hb3.mono hb2.out.size))
  go_wp2
  go_ret
  exact ⟨rfl, hb4.out⟩
end Go.Proofs.YtllbbacnakoomaaGreatDoor
