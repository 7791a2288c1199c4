/- Texts of this seat's proofs, laid into one file. -/
import Derived.Test.YtllbbacnakoomaaGreatDoorS11
import Derived.Deep.RegionHeld3
import Derived.Deep.RegionLaw
import Derived.Deep.Cut
import Derived.Deep.CutRange
import Derived.Deep.CutBlock
set_option maxRecDepth 100000
set_option maxHeartbeats 16000000
namespace Go.Proofs.YtllbbacnakoomaaGreatDoor
open Go.RowKit
set_option linter.unusedVariables false
theorem kp_bp {a b c : World} {r : Option Nat} (h : a.grownBy b r) (k : Below b.heap.size b c) : a.grownBy c r := grown_trans h (kp_of_below k r)
theorem kp_pb {a b c : World} {r : Option Nat} (h : Below a.heap.size a b) (k : b.grownBy c r) : a.grownBy c r := grown_trans (kp_of_below h r) k
theorem rNeed_any {L : List Ct} {ta : Option Addr} {tc rb : Nat} {s : Ps} {w : World} (h : PS L ta tc rb s w) (x : ByteArray) :
 Calls Tryz.prog 122 #[.pointer (some ⟨rb, 0, none⟩), .string x] w fun e w' => e = .returned (.tuple #[]) ∧ PS L ta tc rb (needP L s x) w' ∧ w.grownBy w' (some rb) := by
 have HH := Hd (rHas_any h x)
 unfold needP
 cases hh : hasP L s x with
 | true =>
   rw [hh, if_pos rfl] at HH
   rw [if_pos rfl]
   go_enter Tryz.func122, Tryz.ntmps122
   go_wp2_with fail
   refine HH.out.mono ?_
   rintro e w1 ⟨rfl, h1, hg1⟩
   go_wp2
   go_end0
   exact ⟨rfl, h1, hg1⟩
 | false =>
   rw [hh, if_neg (by simp)] at HH
   rw [if_neg (by simp)]
   go_enter Tryz.func122, Tryz.ntmps122
   go_wp2_with fail
   refine HH.out.mono ?_
   rintro e w1 ⟨rfl, h1, hg1⟩
   go_wp2_with fail
   refine (rFail_any h1).mono ?_
   rintro e w2 ⟨rfl, h2, hg2⟩
   go_wp2
   go_end0
   exact ⟨rfl, h2, grown_trans hg1 hg2⟩
theorem rWord_any {L : List Ct} {ta : Option Addr} {tc rb : Nat} {s : Ps} {w : World} (h : PS L ta tc rb s w) (x : ByteArray) :
 Calls Tryz.prog 116 #[.pointer (some ⟨rb, 0, none⟩), .string x] w fun e w' => e = .returned (.bool (wordP L s x)) ∧ Below w.heap.size w w' := by
 have HT := tok_any h
 unfold wordP
 generalize tokP L s.at_ = t at HT ⊢
 unfold ctV at HT
 have hbb := fun (w1 : World) o => (Below.refl w1.heap.size w1).alloc (Nat.le_refl _) o
 by_cases hk : t.kind = 2
 ·rw [decide_eq_true hk, Bool.true_and, ← beq_bytes]
  rw [hk] at HT
  go_enter Tryz.func116, Tryz.ntmps116
  go_wp2_with fail
  refine HT.mono ?_
  rintro e w1 ⟨rfl, hb1⟩
  go_wp2
  go_ret
  exact ⟨rfl, hb1.trans ((hbb w1 _).mono hb1.size)⟩
 ·rw [decide_eq_false hk, Bool.false_and]
  have hk' : (t.kind == 2) = false := by simpa using hk
  go_enter Tryz.func116, Tryz.ntmps116
  go_wp2_with fail
  refine HT.mono ?_
  rintro e w1 ⟨rfl, hb1⟩
  go_wp2
  go_ret
  exact ⟨rfl, hb1.trans ((hbb w1 _).mono hb1.size)⟩
theorem rHasWord_any {L : List Ct} {ta : Option Addr} {tc rb : Nat} {s : Ps} {w : World} (h : PS L ta tc rb s w) (x : ByteArray) :
 Calls Tryz.prog 168 #[.pointer (some ⟨rb, 0, none⟩), .string x] w fun e w' => e = .returned (.bool (hasW L s x)) ∧ PS L ta tc rb (if hasW L s x then s.up 1 else s) w' ∧ w.grownBy w' (some rb) := by
 obtain ⟨p, he, c0, c1, c2, c3, cf⟩ := h.cells
 have hlo := h.lo
 have hhi := h.hi
 have hlen := h.len
 have g1 : IntKind.i64.wrap (s.at_ + 1) = s.at_ + 1 := IntWalk.i64_in _ (by omega)
 have HI := Hd (rWord_any h x)
 clear he
 cases hbad : s.bad with
 | true =>
   have hh : hasW L s x = false := by unfold hasW; rw [hbad]; rfl
   rw [hh, if_neg (by simp)]
   rw [hbad] at c3
   go_enter Tryz.func168, Tryz.ntmps168
   go_wp2
   go_ret
   exact ⟨rfl, h, kp_refl _ _⟩
 | false =>
   rw [hbad] at c3
   cases hi : wordP L s x with
   | false =>
     have hh : hasW L s x = false := by unfold hasW; rw [hbad, hi]; rfl
     rw [hh, if_neg (by simp)]
     rw [hi] at HI
     go_enter Tryz.func168, Tryz.ntmps168
     go_wp2_with fail
     refine HI.out.mono ?_
     rintro e w1 ⟨rfl, hb1⟩
     go_wp2
     go_ret
     exact ⟨rfl, h.below hb1, kp_of_below hb1 _⟩
   | true =>
     have hh : hasW L s x = true := by unfold hasW; rw [hbad, hi]; rfl
     rw [hh, if_pos rfl]
     rw [hi] at HI
     go_enter Tryz.func168, Tryz.ntmps168
     go_wp2_with fail
     refine HI.out.mono ?_
     rintro e w1 ⟨rfl, hb1⟩
     have h1 := h.below hb1
     obtain ⟨p1, he1, d0, d1, d2, d3, df⟩ := h1.cells
     have hu := Hd (h1.up (n := 1) (by omega) (by
      have := tok_in (L := L) (i := s.at_) (by unfold wordP at hi; simp only [Bool.and_eq_true, decide_eq_true_eq] at hi; omega)
      exact this.2.1))
     clear he1 c0 c1 c2 c3 cf
     go_wp2
     go_ret
     exact ⟨rfl, hu.out, grown_trans (kp_of_below hb1 _) (kp_set _ _ _ _)⟩
def NdPost (L : List Ct) (ta : Option Addr) (tc rb : Nat) (B : Nat) (w : World) (n : T) (s : Ps) (e : Ending) (w' : World) : Prop :=
 ∃ ao cap, e = .returned (ndV n ao cap) ∧ NdAt w' B n ao cap ∧ PS L ta tc rb s w' ∧ w.grownBy w' (some rb)
theorem nd_cells {w : World} {b : Nat} {a0 a1 a2 a3 a4 : Value} {e : TypeId} (h : w.heap[b]? = some (.cells #[a0, a1, a2, a3, a4] e (0,0))) : w.cell? ⟨b, 0, none⟩ = some a0 ∧ w.cell? ⟨b, 1, none⟩ = some a1 ∧ w.cell? ⟨b, 2, none⟩ = some a2 ∧ w.cell? ⟨b, 3, none⟩ = some a3 ∧ w.cell? ⟨b, 4, none⟩ = some a4 ∧ ∀ j, w.frozen? ⟨b, j, none⟩ = false := by
 refine ⟨?_, ?_, ?_, ?_, ?_, fun j => Lib.frozen_of_heap h j⟩ <;> rw [Lib.cell_of_heap h] <;> rfl
def ndZ : Obj := .cells #[.string ⟨#[]⟩, .string ⟨#[]⟩, .int .i64 0, .int .i64 0, .slice none 0 0] 50 (0,0)
theorem kept_two {w w1 : World} {a b : Obj} (h : Below ((w.alloc a).alloc b).drew.heap.size ((w.alloc a).alloc b).drew w1) : w1.heap[w.heap.size + 1]? = some b :=
 (h.block _ (by simp)).trans (heap_alloc2_new w a b)
theorem nd_set5 {w : World} {g : Nat} {a0 a1 a2 a3 a4 v0 v1 v2 v3 v4 : Value} {e : TypeId} {fz : Nat × Nat} (h : w.heap[g]? = some (.cells #[a0, a1, a2, a3, a4] e fz)) : (((((w.setCell ⟨g, 0, none⟩ v0).setCell ⟨g, 1, none⟩ v1).setCell ⟨g, 2, none⟩ v2).setCell ⟨g, 3, none⟩ v3).setCell ⟨g, 4, none⟩ v4).heap[g]? = some (.cells #[v0, v1, v2, v3, v4] e fz) :=
 rd_set (rd_set (rd_set (rd_set (rd_set h))))
theorem nd_set5_below {B : Nat} {a w : World} {g : Nat} {v0 v1 v2 v3 v4 : Value} (h : Below B a w) (hg : B ≤ g) : Below B a (((((w.setCell ⟨g, 0, none⟩ v0).setCell ⟨g, 1, none⟩ v1).setCell ⟨g, 2, none⟩ v2).setCell ⟨g, 3, none⟩ v3).setCell ⟨g, 4, none⟩ v4) :=
 ((((h.setCell hg _).setCell hg _).setCell hg _).setCell hg _).setCell hg _
theorem fld_text (a b c : Value) (x : Int) (tx : ByteArray) (f : ByteArray) (u v : Int) (w : World) : (Instr.field 95 (.agg #[.int .i64 x, .string tx, .string f, .int .i64 u, .int .i64 v, a, b]) 1).run Tryz.prog w = .ok (.string tx) w := by kernel_rfl
theorem fld_kind (a b c : Value) (x : Int) (tx : ByteArray) (f : ByteArray) (u v : Int) (w : World) : (Instr.field 95 (.agg #[.int .i64 x, .string tx, .string f, .int .i64 u, .int .i64 v, a, b]) 0).run Tryz.prog w = .ok (.int .i64 x) w := by kernel_rfl
end Go.Proofs.YtllbbacnakoomaaGreatDoor
namespace Go.Proofs.YtllbbacnakoomaaGreatDoor
open Go.RowKit
set_option linter.unusedVariables false
theorem leaf_oneA {w w1 : World} {a o : Obj} (h : Below (w.alloc a).drew.heap.size (w.alloc a).drew w1) : (w1.alloc o).heap[w.heap.size]? = some a := by
 have h1 : w1.heap[w.heap.size]? = some a := (h.block _ (by simp)).trans (heap_alloc_new w a)
 exact (heap_alloc_old _ _ (lt_of_block h1)).trans h1
theorem leaf_oneB {w w1 : World} {a b : Obj} {v0 v1 v2 v3 v4 : Value} (h : Below ((w.alloc a).alloc b).drew.heap.size ((w.alloc a).alloc b).drew w1) : (((((w1.setCell ⟨w.heap.size + 1,0, none⟩ v0).setCell ⟨w.heap.size + 1,1, none⟩ v1).setCell ⟨w.heap.size + 1,2, none⟩ v2).setCell ⟨w.heap.size + 1,3, none⟩ v3).setCell ⟨w.heap.size + 1,4, none⟩ v4).heap[w.heap.size]? = some a := by
 have h1 : w1.heap[w.heap.size]? = some a := (h.block _ (by show w.heap.size < ((w.alloc a).alloc b).heap.size; simp; omega)).trans ((heap_alloc_old _ _ (by simp)).trans (heap_alloc_new w a))
 have hb := nd_set5_below (v0 := v0) (v1 := v1) (v2 := v2) (v3 := v3) (v4 := v4) (Below.refl (w.heap.size + 1) w1) (g := w.heap.size + 1) (Nat.le_refl _)
 exact (hb.block _ (Nat.lt_succ_self _)).trans h1
theorem rLeaf_any {L : List Ct} {ta : Option Addr} {tc rb : Nat} {s : Ps} {w : World} (h : PS L ta tc rb s w) (x : ByteArray) (hk : (tokP L s.at_).kind ≠ 8) :
 Calls Tryz.prog 163 #[.pointer (some ⟨rb, 0, none⟩), .string x] w fun e w' => e = .returned (.agg #[.string x, .string (tokP L s.at_).text, .int .i64 s.at_, .int .i64 (s.at_ + 1), .slice none 0 0]) ∧ PS L ta tc rb (s.up 1) w' ∧ w.grownBy w' (some rb) := by
 have hin := tok_in hk
 have hlen := h.len
 have g1 : IntKind.i64.wrap (s.at_ + 1) = s.at_ + 1 := IntWalk.i64_in _ (by omega)
 have hb := fun o => (Below.refl w.heap.size w).alloc (Nat.le_refl _) o
 have hbA := fun o => (hb o).drew
 have hbB := fun o o2 => ((hb o).alloc (by simp) o2).drew
 have hT : Hid (∀ x, Below w.heap.size w x → Calls Tryz.prog 100 #[.pointer (some ⟨rb, 0, none⟩)] x fun e w' => e = .returned (ctV (tokP L s.at_)) ∧ w'.cell? ⟨rb, 1, none⟩ = some (.int .i64 s.at_) ∧ x.heap.size ≤ w'.heap.size ∧ Below x.heap.size x w' ∧ Below w.heap.size w w' ∧ rb < w'.heap.size ∧ (∀ o, (w'.alloc o).cell? ⟨rb, 1, none⟩ = some (.int .i64 s.at_)) ∧ ∀ g, g ≠ rb → ∀ v0 v1 v2 v3 v4, (((((w'.setCell ⟨g, 0, none⟩ v0).setCell ⟨g, 1, none⟩ v1).setCell ⟨g, 2, none⟩ v2).setCell ⟨g, 3, none⟩ v3).setCell ⟨g, 4, none⟩ v4).cell? ⟨rb, 1, none⟩ = some (.int .i64 s.at_)) := Hd fun x hx => (tok_any (h.below hx)).mono fun e w' ⟨h1, h2⟩ => by
  have hw := hx.trans (h2.mono hx.size)
  obtain ⟨_, _, _, d1, _⟩ := (h.below hw).cells
  exact ⟨h1, d1, h2.size, h2, hw, (h.below hw).lt, fun o => kept_cell ((Below.refl _ w').alloc (Nat.le_refl _) o) d1, fun g hg v0 v1 v2 v3 v4 => by
   have hne : ∀ j, (⟨g, j, none⟩ : Addr) ≠ ⟨rb, 1, none⟩ := by intro j e; simp only [Addr.mk.injEq] at e; exact hg e.1
   exact (World.cell?_setCell_other _ _ _ _ (hne 4)).trans ((World.cell?_setCell_other _ _ _ _ (hne 3)).trans ((World.cell?_setCell_other _ _ _ _ (hne 2)).trans ((World.cell?_setCell_other _ _ _ _ (hne 1)).trans ((World.cell?_setCell_other _ _ _ _ (hne 0)).trans d1))))⟩
 unfold ctV at hT
 have HF : ∀ x, Below w.heap.size w x → x.cell? ⟨rb, 1, none⟩ = some (.int .i64 s.at_) := fun x hx => by
  obtain ⟨_, _, _, d1, _⟩ := (h.below hx).cells
  exact d1
 have c1 := HF w (Below.refl _ _)
 have hlt := h.lt
 have hne2 : w.heap.size + 1 ≠ rb := by omega
 have y0 := HF _ (hbA (.cells #[.string ⟨#[]⟩, .string ⟨#[]⟩, .int .i64 0, .int .i64 0, .slice none 0 0] 50 (0,0)))
 have y1 := HF _ (hbB (.cells #[.string ⟨#[]⟩, .string ⟨#[]⟩, .int .i64 0, .int .i64 0, .slice none 0 0] 50 (0,0)) (.cells #[.string ⟨#[]⟩, .string ⟨#[]⟩, .int .i64 0, .int .i64 0, .slice none 0 0] 50 (0,0)))
 clear HF
 have hps := Hd h
 replace hin := Hd hin
 clear hk h hlen
 obtain ⟨t, ht⟩ : ∃ t, t = tokP L s.at_ := ⟨_, rfl⟩
 obtain ⟨i, hi⟩ : ∃ i, i = s.at_ := ⟨_, rfl⟩
 rw [← ht] at hT ⊢
 rw [← hi] at hT g1 c1 y0 y1 ⊢
 replace ht := Hd ht
 replace hi := Hd hi
 have hfd := fun w => fld_text (.int .i64 t.fro) (.int .i64 t.cnt) undef t.kind t.text t.file t.f t.t w
 go_enter Tryz.func163, Tryz.ntmps163
 go_upto_region 1 with fail
 go_cut [5] from 6 to 19 (fun v5 wx => ∃ g, v5 = .pointer (some ⟨g, 0, none⟩) ∧ Hid (wx.heap[g]? = some (.cells #[.string x, .string t.text, .int .i64 i, .int .i64 (i + 1), .slice none 0 0] 50 (0,0))) ∧ Hid (wx.heap[w.heap.size]? = some (.cells #[.string ⟨#[]⟩, .string ⟨#[]⟩, .int .i64 0, .int .i64 0, .slice none 0 0] 50 (0,0))) ∧ Hid (Below w.heap.size w wx))
 case first =>
  go_region_held3 (fun x : World => x.cell? ⟨rb, 1, none⟩ = some (.int .i64 i)) (first | with_reducible exact y0 | with_reducible exact y1 | with_reducible exact d1 | with_reducible exact d1b _ | with_reducible exact d1c _ hne2 _ _ _ _ _ | fail) (first
   | (refine (hT.out _ (hbA _)).mono ?_; rintro e w1 ⟨rfl, d1, hz1, hb1, hw1, hl1, d1b, d1c⟩)
   | (refine (hT.out _ (hbB _ _)).mono ?_; rintro e w1 ⟨rfl, d1, hz1, hb1, hw1, hl1, d1b, d1c⟩; obtain ⟨q0, q1, q2, q3, q4, q5⟩ := nd_cells (kept_two hb1)))
  all_goals
   go_wp2_with fail
   go_meet
   case rel =>
    first
     | with_reducible exact ⟨_, rfl, Hd (heap_alloc_new _ _), Hd (leaf_oneA hb1), Hd (hw1.trans ((Below.refl _ w1).alloc hw1.size _))⟩
     | with_reducible exact ⟨_, rfl, Hd (nd_set5 (kept_two hb1)), Hd (leaf_oneB hb1), Hd (nd_set5_below hw1 (Nat.le_succ _))⟩
 case rest =>
  obtain ⟨g, rfl, hg, hg0, hbw⟩ := hcut
  have h1 := hps.out.below hbw.out
  obtain ⟨p1, he1, e0, e1, e2, e3, ef⟩ := h1.cells
  obtain ⟨m0, m1, m2, m3, m4, mf⟩ := nd_cells hg.out
  have hu := h1.up (n := 1) (by have := hin.out.1; omega) (hin.out.2.1)
  rw [← hi.out] at e1 hu
  have hrg : g ≠ rb := by
   rintro rfl
   obtain ⟨q, hq, _⟩ := h1.rd
   have := hq.symm.trans hg.out
   injection this with this
   injection this with _ this _
   revert this
   decide
  have hc2 : (wc.setCell ⟨rb, 1, none⟩ (.int .i64 (i + 1))).heap[w.heap.size]? = some (.cells #[.string ⟨#[]⟩, .string ⟨#[]⟩, .int .i64 0, .int .i64 0, .slice none 0 0] 50 (0,0)) := (Below.heap_setCell _ _ _ _ (by show w.heap.size ≠ rb; omega)).trans hg0.out
  have hk2 : w.grownBy (wc.setCell ⟨rb, 1, none⟩ (.int .i64 (i + 1))) (some rb) := grown_trans (kp_of_below hbw.out _) (kp_set _ _ _ _)
  replace hu := Hd hu
  replace hk2 := Hd hk2
  clear he1 h1
  go_wp2_with (refine wpList_store_row rfl 50 _ _ rfl w.heap.size _ rfl rfl 50 _ hc2 info_nd rfl (by simp [Value.oneCell']) ?_)
  refine bodyPost_ret (results_cell_row rfl _ _ w.heap.size 50 _ (0,0) _ rfl (setRow_heap _ _ _ _ _ _ hc2) Tryz.underlying50 rfl (by kernel_rfl)) rfl ?_
  exact ⟨rfl, hu.out.row hc2 rfl _, kp_row hk2.out (Nat.le_refl _) _⟩
end Go.Proofs.YtllbbacnakoomaaGreatDoor
namespace Go.Proofs.YtllbbacnakoomaaGreatDoor
open Go.RowKit
set_option linter.unusedVariables false
theorem rMake_any {L : List Ct} {ta : Option Addr} {tc rb : Nat} {s : Ps} {w : World} (h : PS L ta tc rb s w) (k t : ByteArray) (f : Int) (ao : Option Addr) (n cap : Nat) :
 Calls Tryz.prog 123 #[.pointer (some ⟨rb, 0, none⟩), .string k, .string t, .int .i64 f, .slice ao n cap] w fun e w' => e = .returned (.agg #[.string k, .string t, .int .i64 f, .int .i64 s.at_, .slice ao n cap]) ∧ Below w.heap.size w w' := by
 obtain ⟨p, he, c0, c1, c2, c3, cf⟩ := h.cells
 have hb := fun o => (Below.refl w.heap.size w).alloc (Nat.le_refl _) o
 have hlt := h.lt
 clear he c0 c2 c3 h
 go_enter Tryz.func123, Tryz.ntmps123
 go_wp2
 refine bodyPost_ret (results_cell_row rfl _ _ w.heap.size 50 _ (0,0) _ rfl (heap_alloc_new _ _) Tryz.underlying50 rfl (by kernel_rfl)) rfl ?_
 exact ⟨rfl, hb _⟩
def lfV (n : T) : Value := .agg #[.string n.kind, .string n.text, .int .i64 n.from_, .int .i64 n.to_, .slice none 0 0]
theorem rIdent_any {L : List Ct} {ta : Option Addr} {tc rb : Nat} {s : Ps} {w : World} (h : PS L ta tc rb s w) (x : ByteArray) :
 Calls Tryz.prog 170 #[.pointer (some ⟨rb, 0, none⟩), .string x] w fun e w' => e = .returned (lfV (identP L s x).1) ∧ PS L ta tc rb (identP L s x).2 w' ∧ w.grownBy w' (some rb) := by
 obtain ⟨p, he, c0, c1, c2, c3, cf⟩ := h.cells
 have hb := fun o => (Below.refl w.heap.size w).alloc (Nat.le_refl _) o
 have hlt := h.lt
 clear he c0 c1 c2
 have hF : ∀ x, Below w.heap.size w x → x.heap[w.heap.size]? = some ndZ → PS L ta tc rb s x → True := fun _ _ _ _ => trivial
 clear hF
 by_cases hbad : s.bad = true
 ·have hid : identP L s x = (zT, s.fail) := by unfold identP; rw [if_pos (.inl hbad)]
  rw [hid]
  rw [hbad] at c3
  go_enter Tryz.func170, Tryz.ntmps170
  go_wp2_with fail
  refine (rFail_any (h.below (hb _))).mono ?_
  rintro e w1 ⟨rfl, h1, hg1⟩
  have hc := kp_block hg1 (heap_alloc_new w _) (by omega)
  have hk := kp_pb (hb _) hg1
  obtain ⟨q0, q1, q2, q3, q4, qf⟩ := nd_cells hc
  replace h1 := Hd h1
  replace hk := Hd hk
  go_wp2_with (refine wpList_store_row rfl 50 _ _ rfl w.heap.size _ rfl rfl 50 _ hc info_nd rfl (by simp [Value.oneCell']) ?_)
  refine bodyPost_ret (results_cell_row rfl _ _ w.heap.size 50 _ (0,0) _ rfl (setRow_heap _ _ _ _ _ _ hc) Tryz.underlying50 rfl (by kernel_rfl)) rfl ?_
  exact ⟨rfl, h1.out.row hc rfl _, kp_row hk.out (Nat.le_refl _) _⟩
 ·have hbf : s.bad = false := by simpa using hbad
  rw [hbf] at c3
  have HT := Hd (tok_any (h.below (hb (.cells #[.string ⟨#[]⟩, .string ⟨#[]⟩, .int .i64 0, .int .i64 0, .slice none 0 0] 50 (0,0)))))
  obtain ⟨t, ht⟩ : ∃ t, t = tokP L s.at_ := ⟨_, rfl⟩
  rw [← ht] at HT
  unfold ctV at HT
  have hfd := fun w => fld_kind (.int .i64 t.fro) (.int .i64 t.cnt) undef t.kind t.text t.file t.f t.t w
  by_cases hk1 : t.kind = 1
  ·have hid : identP L s x = (leafP L s x, s.up 1) := by unfold identP; rw [if_neg (by rintro (h | h); exact hbad h; exact h (ht ▸ hk1))]
   rw [hid]
   have hlf : lfV (leafP L s x) = .agg #[.string x, .string t.text, .int .i64 s.at_, .int .i64 (s.at_ + 1), .slice none 0 0] := by unfold leafP lfV; rw [← ht]; rfl
   rw [hlf]
   have hk' : (t.kind != 1) = false := by simpa using hk1
   replace ht := Hd ht
   rw [hk1] at hfd HT
   go_enter Tryz.func170, Tryz.ntmps170
   go_wp2_with fail
   refine HT.out.mono ?_
   rintro e w1 ⟨rfl, hb1⟩
   have hc := alloc_kept hb1
   have hw1 := alloc_below hb1
   have HL := Hd (rLeaf_any (h.below hw1) x (by rw [← ht.out, hk1]; decide))
   rw [← ht.out] at HL
   go_wp2_with fail
   refine HL.out.mono ?_
   rintro e w2 ⟨rfl, h2, hg2⟩
   have hc2 := kp_block hg2 hc (by omega)
   have hk := kp_pb hw1 hg2
   replace h2 := Hd h2
   replace hk := Hd hk
   go_wp2_with (refine wpList_store_row rfl 50 _ _ rfl w.heap.size _ rfl rfl 50 _ hc2 info_nd rfl (by simp [Value.oneCell']) ?_)
   refine bodyPost_ret (results_cell_row rfl _ _ w.heap.size 50 _ (0,0) _ rfl (setRow_heap _ _ _ _ _ _ hc2) Tryz.underlying50 rfl (by kernel_rfl)) rfl ?_
   exact ⟨rfl, h2.out.row hc2 rfl _, kp_row hk.out (Nat.le_refl _) _⟩
  ·have hid : identP L s x = (zT, s.fail) := by unfold identP; rw [if_pos (.inr (by rw [← ht]; exact hk1))]
   rw [hid]
   have hk' : (t.kind != 1) = true := by simpa using hk1
   replace ht := Hd ht
   go_enter Tryz.func170, Tryz.ntmps170
   go_wp2_with fail
   refine HT.out.mono ?_
   rintro e w1 ⟨rfl, hb1⟩
   have hc := alloc_kept hb1
   have hw1 := alloc_below hb1
   go_wp2_with fail
   refine (rFail_any (h.below hw1)).mono ?_
   rintro e w2 ⟨rfl, h2, hg2⟩
   have hc2 := kp_block hg2 hc (by omega)
   have hk := kp_pb hw1 hg2
   obtain ⟨q0, q1, q2, q3, q4, qf⟩ := nd_cells hc2
   replace h2 := Hd h2
   replace hk := Hd hk
   go_wp2_with (refine wpList_store_row rfl 50 _ _ rfl w.heap.size _ rfl rfl 50 _ hc2 info_nd rfl (by simp [Value.oneCell']) ?_)
   refine bodyPost_ret (results_cell_row rfl _ _ w.heap.size 50 _ (0,0) _ rfl (setRow_heap _ _ _ _ _ _ hc2) Tryz.underlying50 rfl (by kernel_rfl)) rfl ?_
   exact ⟨rfl, h2.out.row hc2 rfl _, kp_row hk.out (Nat.le_refl _) _⟩
theorem rdeep_any {L : List Ct} {ta : Option Addr} {tc rb : Nat} {s : Ps} {w : World} (h : PS L ta tc rb s w) (nest : Nat) (hn : nest ≤ 100000) :
 Calls Tryz.prog 109 #[.pointer (some ⟨rb, 0, none⟩), .int .i64 nest] w fun e w' => e = .returned (.bool (s.deep nest)) ∧ PS L ta tc rb (if s.deep nest then s.fail else s) w' ∧ w.grownBy w' (some rb) := by
 obtain ⟨p, he, c0, c1, c2, c3, cf⟩ := h.cells
 have hu := fun b => h.bad b
 have hs : s.deep nest = false → s.bad = false := by unfold Ps.deep; cases s.bad <;> simp
 clear he c0 c1 c2
 cases hbad : s.bad with
 | true =>
   have hd : s.deep nest = true := by unfold Ps.deep; rw [hbad]; rfl
   rw [hd, if_pos rfl]
   rw [hbad] at c3
   go_enter Tryz.func109, Tryz.ntmps109
   go_wp2
   go_ret
   exact ⟨rfl, hu true, kp_set _ _ _ _⟩
 | false =>
   rw [hbad] at c3
   by_cases h2 : 200 ≤ nest
   ·have hd : s.deep nest = true := by unfold Ps.deep; rw [decide_eq_true h2]; simp
    have h2' : (200 : Int) ≤ (nest : Int) := by omega
    rw [hd, if_pos rfl]
    go_enter Tryz.func109, Tryz.ntmps109
    go_wp2
    go_ret
    exact ⟨rfl, hu true, kp_set _ _ _ _⟩
   ·have hd : s.deep nest = false := by unfold Ps.deep; rw [decide_eq_false h2, hbad]; rfl
    have h2' : ¬ (200 : Int) ≤ (nest : Int) := by omega
    have hsf : s = { s with bad := false } := by rw [← hbad]
    rw [hd, if_neg (by simp)]
    have hu' := hu false
    rw [← hsf] at hu'
    clear hsf hu hs
    replace hu' := Hd hu'
    go_enter Tryz.func109, Tryz.ntmps109
    go_wp2
    go_ret
    exact ⟨rfl, hu'.out, kp_set _ _ _ _⟩
end Go.Proofs.YtllbbacnakoomaaGreatDoor
