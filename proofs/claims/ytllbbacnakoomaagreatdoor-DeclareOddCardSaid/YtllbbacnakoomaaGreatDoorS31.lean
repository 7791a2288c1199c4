/- Texts of this seat's proofs, laid into one file. -/
import Derived.Test.YtllbbacnakoomaaGreatDoorS30
import Derived.StillTailTactics
set_option maxRecDepth 100000
set_option maxHeartbeats 16000000
namespace Go.Proofs.YtllbbacnakoomaaGreatDoor
open Go.RowKit
set_option linter.unusedVariables false
abbrev spO (rb nest : Nat) (plain typed : Bool) : Obj := .cells #[.pointer (some ⟨rb, 0, none⟩), .int .i64 nest, .bool plain, .bool typed] 230 (0,0)
theorem sp_cells {w : World} {g rb nest : Nat} {plain typed : Bool} (h : w.heap[g]? = some (spO rb nest plain typed)) : w.cell? ⟨g, 0, none⟩ = some (.pointer (some ⟨rb, 0, none⟩)) ∧ w.cell? ⟨g, 1, none⟩ = some (.int .i64 nest) ∧ w.cell? ⟨g, 2, none⟩ = some (.bool plain) ∧ w.cell? ⟨g, 3, none⟩ = some (.bool typed) ∧ ∀ j, w.frozen? ⟨g, j, none⟩ = false := by
 refine ⟨?_, ?_, ?_, ?_, fun j => Lib.frozen_of_heap h j⟩ <;> rw [Lib.cell_of_heap h] <;> rfl
section
variable {L : List Ct} {ta : Option Addr} {tc rb : Nat} {F : Nat → Prop} {O0 : Option Nat} {w0 : World} {s s' : Ps} {ns : List Nd} {vs : List (Nat × Obj)} {ks ks' : List T} {v v' : Value} {w w' : World}
theorem Cx.startS (h : PS L ta tc rb s w) {sb : Nat} {o : Obj} (hsb : w.heap[sb]? = some o) (hne : sb ≠ rb) : Cx L ta tc rb (fun _ => False) (some sb) w s [] [(sb, o)] [] (.slice none 0 0) w :=
 ⟨h, ⟨rfl, rfl, rfl, Nat.le_refl _, fun _ _ _ _ => rfl, fun _ _ _ h => h⟩, fun _ h => h.elim, h.lt, h.tlt, by simp [hsb, hne], by simp, ⟨[], Own.nil _ _ _ _, .nil⟩, by simp [Value.ownBlock], by simp [Value.ownBlock], by simp⟩
theorem Cx.outS {sb : Nat} {o : Obj} {i : Nat} (C : Cx L ta tc rb (fun _ => False) (some sb) w0 s ns vs ks v w) {n : T} {ao : Option Addr} {cap : Nat} (h : (⟨n, ao, cap⟩ : Nd) ∈ ns) (hv : vs[i]? = some (sb, o)) (h0 : w0.heap[sb]? = some o) : NdAt w w0.heap.size n ao cap ∧ PS L ta tc rb s w ∧ w0.grownBy w (some rb) :=
 ⟨(C.nok _ h).wide fun k hk _ => hk.1.elim (fun h => h.elim) id, C.ps, ⟨C.kp.os, C.kp.tape, C.kp.output, C.kp.size, fun k hk hne => by
   by_cases e : k = sb
   ·rw [e, h0]; exact C.var hv
   ·exact C.kp.block k hk (fun e' => hne (by rw [e'])) (fun e' => e (Option.some.inj e').symm)⟩⟩
theorem Cx.madeS {ao : Option Addr} {n cap sb : Nat} {o : Obj} {i : Nat} (C : Cx L ta tc rb F (some sb) w0 s ns vs ks (.slice ao n cap) w) (hv : vs[i]? = some (sb, o)) (hb : Below w.heap.size w w') (hl : ks.length ≤ 1000000000) (k t : ByteArray) (f : Int) : Cx L ta tc rb F (some sb) w0 s (⟨mkP k t f s ks, ao, cap⟩ :: ns) vs [] (.slice none 0 0) w' := by
 have C1 := C.below hb
 have C' := C1.fresh
 refine ⟨C'.ps, C'.kp, C'.fr, C'.rb0, C'.tlo, C'.vok, C'.vnd, C'.own, C'.olo, C'.ovs, fun x hx => ?_⟩
 rcases List.mem_cons.1 hx with rfl | hx
 ·obtain ⟨css, h1, h2⟩ := C1.own
  obtain ⟨ao', cap', hv', hc, hm, hr, _⟩ := h1.rown h2.len
  injection hv' with e1 e2 e3
  subst e1 e2 e3
  refine .mk (h2.wide fun k hk _ => ⟨hk.1, hk.2.1, by simp [Value.ownBlock]⟩) ?_ ⟨hc, hl⟩
  intro hne
  obtain ⟨b, o', rfl, hat⟩ := hr hne
  refine ⟨b, o', rfl, ⟨.inr ?_, fun x hx e => C1.ovs x hx (by rw [e]; rfl), by simp [Value.ownBlock]⟩, hat⟩
  rcases (C1.olo b rfl).2 with h | h
  ·exact h
  ·exact absurd (by rw [← Option.some.inj h]; rfl) (C1.ovs _ (List.mem_of_getElem? hv))
 ·exact C'.nok x hx
end
theorem named_any {L : List Ct} {ta : Option Addr} {tc rb sb nest : Nat} {pl ty : Bool} {w : World} {s : Ps} (h : PS L ta tc rb s w) (hsb : w.heap[sb]? = some (spO rb nest pl ty)) (hne : sb ≠ rb) :
 Calls Tryz.prog 238 #[.pointer (some ⟨sb, 0, none⟩)] w fun e w' => e = .returned (.string (namedP L s).1) ∧ PS L ta tc rb (namedP L s).2 w' ∧ w.grownBy w' (some rb) := by
 have C := Hd (Cx.startS h hsb hne)
 have hsb' := Hd hsb
 obtain ⟨y0, y1, y2, y3, yf⟩ := sp_cells hsb
 clear hsb
 obtain ⟨t, ht⟩ : ∃ t, t = tokP L s.at_ := ⟨_, rfl⟩
 obtain ⟨r, hr⟩ : ∃ r, r = namedP L s := ⟨_, rfl⟩
 rw [← hr]
 unfold namedP at hr
 rw [← ht] at hr
 have HT := Hd (tok_any C.out.ps)
 rw [← ht] at HT
 unfold ctV at HT
 replace ht := Hd ht
 go_enter Tryz.func238, Tryz.ntmps238
 go_wp2_with fail
 refine (HT.out).mono ?_
 rintro e w1 ⟨rfl, hb1⟩
 replace C := Hd (C.out.below hb1)
 clear HT y0 y1 y2 y3 yf
 replace C := Hd (C.out.alloc (ctO t) (a := w1.heap.size) rfl)
 by_cases hk : t.kind = 1
 ·rw [if_pos hk] at hr
  subst hr
  have hin := tok_in (L := L) (i := s.at_) (by rw [← ht.out, hk]; decide)
  obtain ⟨x0, x1, x2, x3, x4, x5, x6, xf⟩ := ct_box (C.out.var (i := 0) rfl)
  rw [hk] at x0
  replace hk := Hd hk
  try clear c0 c1 c2 c3 cf
  obtain ⟨p4, he4, c0, c1, c2, c3, cf⟩ := C.out.ps.cells
  clear he4
  obtain ⟨y0, y1, y2, y3, yf⟩ := sp_cells (C.out.var (i := 1) rfl)
  have hlen := C.out.ps.len
  have g2 : IntKind.i64.wrap (s.at_ + 1) = s.at_ + 1 := IntWalk.i64_in _ (by omega)
  replace C := Hd (C.out.up (n := 1) (by omega) hin.2.1)
  clear hin hlen
  go_wp2
  go_ret
  obtain ⟨-, hP, hG⟩ := (C.out.leaf eB eB 0 0).outS (i := 1) (.head _) rfl hsb'.out
  exact ⟨rfl, hP, hG⟩
 ·rw [if_neg hk] at hr
  subst hr
  obtain ⟨x0, x1, x2, x3, x4, x5, x6, xf⟩ := ct_box (C.out.var (i := 0) rfl)
  have g1 : (t.kind == 1) = false := beq_false_of_ne hk
  go_wp2
  go_ret
  obtain ⟨-, hP, hG⟩ := (C.out.leaf eB eB 0 0).outS (i := 1) (.head _) rfl hsb'.out
  exact ⟨rfl, hP, hG⟩
end Go.Proofs.YtllbbacnakoomaaGreatDoor
namespace Go.Proofs.YtllbbacnakoomaaGreatDoor
open Go.RowKit
set_option linter.unusedVariables false
abbrev set5w (w : World) (g : Nat) (v0 v1 v2 v3 v4 : Value) : World := ((((w.setCell ⟨g, 0, none⟩ v0).setCell ⟨g, 1, none⟩ v1).setCell ⟨g, 2, none⟩ v2).setCell ⟨g, 3, none⟩ v3).setCell ⟨g, 4, none⟩ v4
theorem set5_block {w : World} {g : Nat} (v0 v1 v2 v3 v4 : Value) (k : Nat) (h : k ≠ g) : (set5w w g v0 v1 v2 v3 v4).heap[k]? = w.heap[k]? := by
 have e : ∀ (x : World) (j : Nat) (v : Value), (x.setCell ⟨g, j, none⟩ v).heap[k]? = x.heap[k]? := fun x j v => Below.heap_setCell x ⟨g, j, none⟩ v k h
 unfold set5w
 rw [e, e, e, e, e]
theorem set5_rest {w : World} {g : Nat} (v0 v1 v2 v3 v4 : Value) : (set5w w g v0 v1 v2 v3 v4).os = w.os ∧ (set5w w g v0 v1 v2 v3 v4).tape = w.tape ∧ (set5w w g v0 v1 v2 v3 v4).output = w.output ∧ w.heap.size ≤ (set5w w g v0 v1 v2 v3 v4).heap.size := by
 have b := nd_set5_below (v0 := v0) (v1 := v1) (v2 := v2) (v3 := v3) (v4 := v4) (Below.refl 0 w) (Nat.zero_le g)
 exact ⟨b.os, b.tape, b.output, b.size⟩
theorem Cx.set5 {L : List Ct} {ta : Option Addr} {tc rb : Nat} {F : Nat → Prop} {O0 : Option Nat} {w0 : World} {s : Ps} {ns : List Nd} {vs : List (Nat × Obj)} {ks : List T} {v : Value} {w : World} (C : Cx L ta tc rb F O0 w0 s ns vs ks v w) {i g : Nat} {a0 a1 a2 a3 a4 : Value} {fz : Nat × Nat} (h : vs[i]? = some (g, .cells #[a0, a1, a2, a3, a4] 50 fz)) (v0 v1 v2 v3 v4 : Value) :
 Cx L ta tc rb F O0 w0 s ns (vs.set i (g, .cells #[v0, v1, v2, v3, v4] 50 fz)) ks v (set5w w g v0 v1 v2 v3 v4) := by
 have e : (set5w w g v0 v1 v2 v3 v4).heap[g]? = some (.cells #[v0, v1, v2, v3, v4] 50 fz) := nd_set5 (v0 := v0) (v1 := v1) (v2 := v2) (v3 := v3) (v4 := v4) (C.var h)
 exact C.turn (c' := #[v0, v1, v2, v3, v4]) h (by decide) (.inr (by decide)) (by simp) e (fun k hk => set5_block v0 v1 v2 v3 v4 k hk) (set5_rest v0 v1 v2 v3 v4)
theorem align_any {L : List Ct} {ta : Option Addr} {tc rb sb nest : Nat} {pl ty : Bool} {R : Rec} (G : Good L ta tc rb R) {w : World} {s : Ps} {fro : Int} {n : T} {s' : Ps} (h : PS L ta tc rb s w) (hsb : w.heap[sb]? = some (spO rb nest pl ty)) (hne : sb ≠ rb) (hn : nest ≤ 1000) (hr : alignF L R fro nest s = some (n, s')) :
 Calls Tryz.prog 216 #[.pointer (some ⟨sb, 0, none⟩), .int .i64 fro] w (NdRet L ta tc rb w n s') := by
 have C := Hd ((Cx.startS h hsb hne).alloc nzO (a := w.heap.size) rfl)
 have hsb' := Hd hsb
 have hlt := h.lt
 have hlts := lt_of_block hsb
 obtain ⟨y0, y1, y2, y3, yf⟩ := sp_cells hsb
 clear hsb
 unfold alignF at hr
 obtain ⟨⟨b, z2⟩, hr1, hr2⟩ := Option.bind_eq_some_iff.1 hr
 simp only at hr2
 replace hr1 := Hd hr1
 replace hr2 := Hd hr2
 clear hr
 obtain ⟨rfl, rfl⟩ := Prod.mk.inj (Option.some.inj hr2.out)
 clear hr2
 obtain ⟨z, hz⟩ : ∃ z, z = needP L s (⟨#[40]⟩ : ByteArray) := ⟨_, rfl⟩
 rw [← hz] at hr1
 have HN := Hd (rNeed_any C.out.ps (⟨#[40]⟩ : ByteArray))
 rw [← hz] at HN
 replace hz := Hd hz
 go_enter Tryz.func216, Tryz.ntmps216
 go_wp2_with fail
 refine (HN.out).mono ?_
 rintro e w1 ⟨rfl, h1, k1⟩
 replace C := Hd (C.out.call h1 k1)
 clear HN y0 y1 y2 y3 yf
 obtain ⟨y0, y1, y2, y3, yf⟩ := sp_cells (C.out.var (i := 1) rfl)
 have HS := Hd (starts_any C.out.ps)
 have hr := hr1.out
 clear hr1
 cases p1 : startsP L z with
 | true =>
   rw [p1, if_pos rfl] at hr
   rw [p1] at HS
   replace hr := Hd hr
   go_wp2_with fail
   refine (HS.out).mono ?_
   rintro e w2 ⟨rfl, hb2⟩
   replace C := Hd (C.out.below hb2)
   clear y0 y1 y2 y3 yf
   obtain ⟨y0, y1, y2, y3, yf⟩ := sp_cells (C.out.var (i := 1) rfl)
   go_upto_region 3 with fail
   go_still_tail 8, (by kernel_rfl)
   change wpList _ _ _ _ _ (w2).drew
   replace C := Hd C.out.drew
   generalize (w2).drew = w3 at C ⊢
   go_wp2_with fail
   refine (G.typeName C.out.ps hn hr.out).mono ?_
   rintro e w4 ⟨ao4, cap4, rfl, hn4, h4, k4⟩
   replace C := Hd (C.out.ret hn4 h4 k4)
   unfold ndV
   clear y0 y1 y2 y3 yf
   have hcc := C.out.var (i := 0) rfl
   replace C := Hd (C.out.set (i := 0) rfl rfl (rowA b ao4 cap4))
   obtain ⟨y0, y1, y2, y3, yf⟩ := sp_cells (C.out.var (i := 1) rfl)
   go_wp2_with (refine stN rfl rfl rfl rfl hcc rfl rfl (by simp [Value.oneCell']) ?_)
   go_wp2_with fail
   refine (rNeed_any C.out.ps (⟨#[41]⟩ : ByteArray)).mono ?_
   rintro e w6 ⟨rfl, h6, k6⟩
   replace C := Hd (C.out.call h6 k6)
   clear y0 y1 y2 y3 yf
   obtain ⟨y0, y1, y2, y3, yf⟩ := sp_cells (C.out.var (i := 1) rfl)
   obtain ⟨q0, q1, q2, q3, q4, qf⟩ := nd_cells (C.out.var (i := 0) rfl)
   have C2 := Hd (C.out.litN [⟨b, ao4, cap4⟩] (by simp) (by simp) rfl (a := w6.heap.size) rfl (n := 1) rfl (⟨#[97,108,105,103,110,97,115]⟩ : ByteArray) ⟨#[]⟩ fro)
   have HM := Hd (rMake_any C2.out.drew.ps (⟨#[97,108,105,103,110,97,115]⟩ : ByteArray) ⟨#[]⟩ fro (some ⟨w6.heap.size, 0, none⟩) 1 1)
   have hl0 := lt_of_block (C.out.var (i := 0) rfl)
   have hl1 := lt_of_block (C.out.var (i := 1) rfl)
   go_upto_region 6 with fail
   go_region_with (go_at_call 123; refine HM.out.mono ?_; rintro e w7 ⟨rfl, hb7⟩; obtain ⟨q0, q1, q2, q3, q4, qf⟩ := nd_cells ((C2.out.drew.below hb7).var (i := 0) rfl))
   all_goals
    replace C := Hd (C2.out.drew.below hb7)
    have hcc := C.out.var (i := 0) rfl
    go_wp2_with fail
    refine bodyPost_ret (results_cell_row rfl _ _ w.heap.size 50 _ (0,0) _ rfl (nd_set5 hcc) Tryz.underlying50 rfl (by kernel_rfl)) rfl ?_
    exact ⟨_, _, rfl, (C.out.set5 (i := 0) rfl _ _ _ _ _).outS (i := 1) (.head _) rfl hsb'.out⟩
 | false =>
   rw [p1, if_neg (by simp)] at hr
   rw [p1] at HS
   obtain ⟨⟨c, z3⟩, hc1, hc2⟩ := Option.bind_eq_some_iff.1 hr
   simp only at hc2
   replace hc1 := Hd hc1
   replace hc2 := Hd hc2
   clear hr
   obtain ⟨rfl, rfl⟩ := Prod.mk.inj (Option.some.inj hc2.out)
   clear hc2
   go_wp2_with fail
   refine (HS.out).mono ?_
   rintro e w2 ⟨rfl, hb2⟩
   replace C := Hd (C.out.below hb2)
   clear y0 y1 y2 y3 yf
   obtain ⟨y0, y1, y2, y3, yf⟩ := sp_cells (C.out.var (i := 1) rfl)
   go_upto_region 4 with fail
   go_still_tail 8, (by kernel_rfl)
   change wpList _ _ _ _ _ (w2).drew
   replace C := Hd C.out.drew
   generalize (w2).drew = w3 at C ⊢
   go_wp2_with fail
   refine (rCond_any G C.out.ps hn hc1.out).mono ?_
   rintro e w4 ⟨ao4, cap4, rfl, hn4, h4, k4⟩
   replace C := Hd (C.out.ret hn4 h4 k4)
   unfold ndV
   clear y0 y1 y2 y3 yf
   have hcc := C.out.var (i := 0) rfl
   replace C := Hd (C.out.set (i := 0) rfl rfl (rowA c.1 ao4 cap4))
   obtain ⟨y0, y1, y2, y3, yf⟩ := sp_cells (C.out.var (i := 1) rfl)
   go_wp2_with (refine stN rfl rfl rfl rfl hcc rfl rfl (by simp [Value.oneCell']) ?_)
   go_wp2_with fail
   refine (rNeed_any C.out.ps (⟨#[41]⟩ : ByteArray)).mono ?_
   rintro e w6 ⟨rfl, h6, k6⟩
   replace C := Hd (C.out.call h6 k6)
   clear y0 y1 y2 y3 yf
   obtain ⟨y0, y1, y2, y3, yf⟩ := sp_cells (C.out.var (i := 1) rfl)
   obtain ⟨q0, q1, q2, q3, q4, qf⟩ := nd_cells (C.out.var (i := 0) rfl)
   have C2 := Hd (C.out.litN [⟨c.1, ao4, cap4⟩] (by simp) (by simp) rfl (a := w6.heap.size) rfl (n := 1) rfl (⟨#[97,108,105,103,110,97,115]⟩ : ByteArray) ⟨#[]⟩ fro)
   have HM := Hd (rMake_any C2.out.drew.ps (⟨#[97,108,105,103,110,97,115]⟩ : ByteArray) ⟨#[]⟩ fro (some ⟨w6.heap.size, 0, none⟩) 1 1)
   have hl0 := lt_of_block (C.out.var (i := 0) rfl)
   have hl1 := lt_of_block (C.out.var (i := 1) rfl)
   go_upto_region 6 with fail
   go_region_with (go_at_call 123; refine HM.out.mono ?_; rintro e w7 ⟨rfl, hb7⟩; obtain ⟨q0, q1, q2, q3, q4, qf⟩ := nd_cells ((C2.out.drew.below hb7).var (i := 0) rfl))
   all_goals
    replace C := Hd (C2.out.drew.below hb7)
    have hcc := C.out.var (i := 0) rfl
    go_wp2_with fail
    refine bodyPost_ret (results_cell_row rfl _ _ w.heap.size 50 _ (0,0) _ rfl (nd_set5 hcc) Tryz.underlying50 rfl (by kernel_rfl)) rfl ?_
    exact ⟨_, _, rfl, (C.out.set5 (i := 0) rfl _ _ _ _ _).outS (i := 1) (.head _) rfl hsb'.out⟩
end Go.Proofs.YtllbbacnakoomaaGreatDoor
namespace Go.Proofs.YtllbbacnakoomaaGreatDoor
open Go.RowKit
set_option linter.unusedVariables false
theorem enumerator_any {L : List Ct} {ta : Option Addr} {tc rb sb nest : Nat} {pl ty : Bool} {R : Rec} (G : Good L ta tc rb R) {w : World} {s : Ps} {n : T} {s' : Ps} (h : PS L ta tc rb s w) (hsb : w.heap[sb]? = some (spO rb nest pl ty)) (hne : sb ≠ rb) (hn : nest ≤ 1000) (hr : enumeratorF L R nest s = some (n, s')) :
 Calls Tryz.prog 240 #[.pointer (some ⟨sb, 0, none⟩)] w (NdRet L ta tc rb w n s') := by
 have C := Hd ((Cx.startS h hsb hne).alloc nzO (a := w.heap.size) rfl)
 have hsb' := Hd hsb
 have hlt := h.lt
 have hlts := lt_of_block hsb
 obtain ⟨y0, y1, y2, y3, yf⟩ := sp_cells hsb
 obtain ⟨p4, he4, c0, c1, c2, c3, cf⟩ := h.cells
 clear hsb he4
 unfold enumeratorF at hr
 obtain ⟨x, hx⟩ : ∃ x, x = (identP L s eB).1 := ⟨_, rfl⟩
 obtain ⟨z, hz⟩ : ∃ z, z = (identP L s eB).2 := ⟨_, rfl⟩
 have HI := Hd (rIdent_any C.out.ps eB)
 rw [← hx, ← hz] at HI hr
 obtain ⟨z2, hz2⟩ : ∃ z2, z2 = z.declare x.text false := ⟨_, rfl⟩
 rw [← hz2] at hr
 replace hx := Hd hx
 replace hz := Hd hz
 replace hz2 := Hd hz2
 unfold lfV at HI
 go_enter Tryz.func240, Tryz.ntmps240
 go_wp2_with fail
 refine (HI.out).mono ?_
 rintro e w1 ⟨rfl, h1, k1⟩
 replace C := Hd (C.out.call h1 k1)
 clear HI y0 y1 y2 y3 yf c0 c1 c2 c3 cf
 replace C := Hd (C.out.alloc (lfO x) (a := w1.heap.size) rfl)
 obtain ⟨w20, hw20⟩ : ∃ W, W = w1.alloc (lfO x) := ⟨_, rfl⟩
 rw [← hw20] at C
 obtain ⟨y0, y1, y2, y3, yf⟩ := sp_cells (C.out.var (i := 2) rfl)
 obtain ⟨b0, b1, b2, b3, b4, bf⟩ := nd_cells (C.out.var (i := 0) rfl)
 go_upto_region 3 with fail
 rw [← hw20]
 replace hw20 := Hd hw20
 go_still_tail 6, (by kernel_rfl)
 change wpList _ _ _ _ _ (w20).drew
 replace C := Hd C.out.drew
 generalize (w20).drew = w2 at C ⊢
 have HD := Hd (rDeclare_any C.out.ps x.text false)
 rw [← hz2.out] at HD
 go_wp2_with fail
 refine (HD.out).mono ?_
 rintro e w3 ⟨rfl, h3, k3⟩
 replace C := Hd (C.out.call h3 k3)
 clear HD y0 y1 y2 y3 yf b0 b1 b2 b3 b4 bf
 obtain ⟨y0, y1, y2, y3, yf⟩ := sp_cells (C.out.var (i := 2) rfl)
 obtain ⟨b0, b1, b2, b3, b4, bf⟩ := nd_cells (C.out.var (i := 0) rfl)
 cases p1 : hasP L z2 (⟨#[61]⟩ : ByteArray) with
 | false =>
   rw [p1, if_neg (by simp)] at hr
   obtain ⟨rfl, rfl⟩ := Prod.mk.inj (Option.some.inj hr)
   have HH := Hd (rHas_any C.out.ps (⟨#[61]⟩ : ByteArray))
   rw [p1, if_neg (by simp)] at HH
   go_wp2_with fail
   refine (HH.out).mono ?_
   rintro e w4 ⟨rfl, h4, k4⟩
   replace C := Hd (C.out.call h4 k4)
   clear HH
   clear y0 y1 y2 y3 yf b0 b1 b2 b3 b4 bf
   obtain ⟨y0, y1, y2, y3, yf⟩ := sp_cells (C.out.var (i := 2) rfl)
   obtain ⟨b0, b1, b2, b3, b4, bf⟩ := nd_cells (C.out.var (i := 0) rfl)
   go_upto_region 5 with fail
   go_still_tail 7, (by kernel_rfl)
   change wpList _ _ _ _ _ (w4).drew
   replace C := Hd C.out.drew
   generalize (w4).drew = w5 at C ⊢
   go_wp2_with fail
   refine (rMake_any C.out.ps (⟨#[101,110,117,109,101,114,97,116,111,114]⟩ : ByteArray) x.text s.at_ _ _ _).mono ?_
   rintro e w6 ⟨rfl, hb6⟩
   replace C := Hd ((C.out.below hb6).leaf (⟨#[101,110,117,109,101,114,97,116,111,114]⟩ : ByteArray) x.text s.at_ z2.at_)
   clear y0 y1 y2 y3 yf b0 b1 b2 b3 b4 bf
   have hcc := C.out.var (i := 1) rfl
   go_wp2_with (refine stN rfl rfl rfl rfl hcc rfl rfl (by simp [Value.oneCell']) ?_)
   refine retN rfl rfl rfl (setRow_heap _ _ _ _ _ _ hcc) rfl ?_
   exact ⟨_, _, rfl, (C.out.set (i := 1) rfl rfl _).outS (i := 2) (.head _) rfl hsb'.out⟩
 | true =>
   rw [p1, if_pos rfl] at hr
   obtain ⟨⟨c, z4⟩, hc1, hc2⟩ := Option.bind_eq_some_iff.1 hr
   simp only at hc2
   replace hc1 := Hd hc1
   replace hc2 := Hd hc2
   clear hr
   obtain ⟨rfl, rfl⟩ := Prod.mk.inj (Option.some.inj hc2.out)
   clear hc2
   have HH := Hd (rHas_any C.out.ps (⟨#[61]⟩ : ByteArray))
   rw [p1, if_pos rfl] at HH
   go_wp2_with fail
   refine (HH.out).mono ?_
   rintro e w4 ⟨rfl, h4, k4⟩
   replace C := Hd (C.out.call h4 k4)
   clear HH
   clear y0 y1 y2 y3 yf b0 b1 b2 b3 b4 bf
   obtain ⟨y0, y1, y2, y3, yf⟩ := sp_cells (C.out.var (i := 2) rfl)
   have hl0 := lt_of_block (C.out.var (i := 0) rfl)
   have hl1 := lt_of_block (C.out.var (i := 1) rfl)
   have hl2 := lt_of_block (C.out.var (i := 2) rfl)
   have HA := Hd (rCond_any G C.out.drew.ps hn hc1.out)
   have CB := Hd (C.out.alloc nzO (a := w4.heap.size) rfl)
   have HB := Hd (rCond_any G CB.out.drew.ps hn hc1.out)
   go_upto_region 6 with fail
   go_cut [5] from 39 to 47 (fun v5 wx => ∃ (g : Nat) (ao : Option Addr) (cap : Nat), v5 = .pointer (some ⟨g, 0, none⟩) ∧ Hid (Cx L ta tc rb (fun _ => False) (some sb) w z4 [⟨c.1, ao, cap⟩] [(g, bxO c.1 ao cap), (w1.heap.size, lfO x), (w.heap.size, nzO), (sb, spO rb nest pl ty)] [] (.slice none 0 0) wx))
   case first =>
    go_region_with (go_at_call 162; first
     | (refine HA.out.mono ?_; rintro e w1 ⟨ao1, cap1, rfl, hn1, h1, k1⟩; unfold ndV)
     | (refine HB.out.mono ?_; rintro e w1 ⟨ao1, cap1, rfl, hn1, h1, k1⟩; unfold ndV; obtain ⟨q0, q1, q2, q3, q4, qf⟩ := nd_cells ((CB.out.drew.ret hn1 h1 k1).var (i := 0) rfl)))
    all_goals
     go_wp2_with fail
     go_meet
     case rel => first
      | exact ⟨_, _, _, rfl, Hd (((C.out.drew.ret hn1 h1 k1).alloc (bxO c.1 ao1 cap1) (a := w1.heap.size) rfl).weak mem1 (List.Sublist.refl _))⟩
      | exact ⟨_, _, _, rfl, Hd (((CB.out.drew.ret hn1 h1 k1).set5 (i := 0) rfl _ _ _ _ _).weak mem1 (List.Sublist.refl _))⟩
   case rest =>
    obtain ⟨g5, ao5, cap5, rfl, C5⟩ := hcut
    have Cy := C
    clear Cy C HA HB CB
    have C := C5
    clear C5
    obtain ⟨y0, y1, y2, y3, yf⟩ := sp_cells (C.out.var (i := 3) rfl)
    obtain ⟨q0, q1, q2, q3, q4, qf⟩ := nd_cells (C.out.var (i := 0) rfl)
    obtain ⟨b0, b1, b2, b3, b4, bf⟩ := nd_cells (C.out.var (i := 1) rfl)
    have C2 := Hd (C.out.litN [⟨c.1, ao5, cap5⟩] (by simp) (by simp) rfl (a := wc.heap.size) rfl (n := 1) rfl (⟨#[101,110,117,109,101,114,97,116,111,114]⟩ : ByteArray) x.text s.at_)
    have HM := Hd (rMake_any C2.out.drew.ps (⟨#[101,110,117,109,101,114,97,116,111,114]⟩ : ByteArray) x.text s.at_ (some ⟨wc.heap.size, 0, none⟩) 1 1)
    have hl0 := lt_of_block (C.out.var (i := 0) rfl)
    have hl1 := lt_of_block (C.out.var (i := 1) rfl)
    have hl2 := lt_of_block (C.out.var (i := 2) rfl)
    have hl3 := lt_of_block (C.out.var (i := 3) rfl)
    go_upto_region 7 with fail
    go_region_with (go_at_call 123; refine HM.out.mono ?_; rintro e w77 ⟨rfl, hb77⟩; obtain ⟨q0, q1, q2, q3, q4, qf⟩ := nd_cells ((C2.out.drew.below hb77).var (i := 2) rfl))
    all_goals
     replace C := Hd (C2.out.drew.below hb77)
     have hcc := C.out.var (i := 2) rfl
     go_wp2_with fail
     refine bodyPost_ret (results_cell_row rfl _ _ w.heap.size 50 _ (0,0) _ rfl (nd_set5 hcc) Tryz.underlying50 rfl (by kernel_rfl)) rfl ?_
     exact ⟨_, _, rfl, (C.out.set5 (i := 2) rfl _ _ _ _ _).outS (i := 3) (.head _) rfl hsb'.out⟩
end Go.Proofs.YtllbbacnakoomaaGreatDoor
namespace Go.Proofs.YtllbbacnakoomaaGreatDoor
open Go.RowKit
set_option linter.unusedVariables false
theorem step_snoc {L : List Ct} {ta : Option Addr} {tc rb : Nat} {F : Nat → Prop} {O0 : Option Nat} {w0 : World} {s : Ps} {ns : List Nd} {vs : List (Nat × Obj)} {ks : List T} {v : Value} {w : World} (C : Cx L ta tc rb F O0 w0 s ns vs ks v w) {x : Nd} (hx : x ∈ ns) (hl : ks.length + 1 ≤ 1000000000) {ops : Array Oper} {o : Oper} {a : Act} {K : Act → World → Prop} {Q : Exit → Act → World → Prop} {Z : Prop}
 (hgd : o.guard = none) {sl xo : Operand} (ho : o.op = .call { callee := .builtin .append, args := #[sl, xo], argTypes := #[48,48] }) (hs : a.eval sl = v) {c g : Nat} (hxo : a.eval xo = .slice (some ⟨g, 0, none⟩) 1 c) (hg : w.heap[g]? = some (.cells x.cs.toArray 50 (0,0)))
 (h : ∀ m ao cap w', Hid ((ks ++ [x.n]).length = m) → Cx L ta tc rb F O0 w0 s ns vs (ks ++ [x.n]) (.slice ao m cap) w' → K (a.put o.dst (.slice ao m cap)) w') :
 if Region.wanted o (yielded ops a.tmps) = true then Oper.wp Tryz.prog o a w K Q else Z := by
 obtain ⟨css, h1, h2⟩ := C.own
 have E := E50
 obtain ⟨i, hi, hz0, hz1, hz2⟩ := info_parts E.info
 have hcl : css.length = ks.length := h2.len
 have hb : (css.length + 1) * 72 ≤ 140737488355328 := by
  calc (css.length + 1) * 72 ≤ 1000000000 * 1000 := Nat.mul_le_mul (by omega) (by decide)
   _ ≤ 140737488355328 := by decide
 have hone : ∀ u ∈ x.cs, u.oneCell' = true := by intro u hu; unfold Nd.cs ndC at hu; simp at hu; rcases hu with rfl | rfl | rfl | rfl | rfl <;> rfl
 refine step_append_lies w hgd sl xo 48 ho 0 50 i _ 5 72 E.under hi hz0 hz1 hz2 E.zs E.pos v css.length css.flatten hs h1.1 ⟨g, 0, none⟩ 1 c x.cs hxo (by rfl) ?_ hone (by decide) (by unfold maxLen; omega) hb (Nat.zero_le _) _ rfl ?_
 ·intro j u hj
  rw [Addr.add_lit, Lib.cell_of_heap hg]
  simpa using hj
 ·intro g' cap w' k1 k2 k3 _
  have k4 : Own w' 0 50 5 (.slice (some ⟨g', 0, none⟩) (css.length + 1) cap) (css ++ [x.cs]) := by
   refine ⟨by simpa using k1, ?_⟩
   intro c hc
   rcases List.mem_append.1 hc with hc | hc
   ·exact h1.2 c hc
   ·simp at hc; subst hc; rfl
  obtain ⟨k5, k6⟩ := C.snoc hx h1 h2 k4 k2 (k3.imp id (fun e => by rw [e]; exact Nat.le_refl _))
  exact h _ _ cap w' (Hd (by rw [k5, List.length_append]; rfl)) k6
theorem bits_any {L : List Ct} {ta : Option Addr} {tc rb sb nest : Nat} {pl ty : Bool} {R : Rec} (G : Good L ta tc rb R) {w : World} {s : Ps} {n : T} {s' : Ps} (h : PS L ta tc rb s w) (hsb : w.heap[sb]? = some (spO rb nest pl ty)) (hne : sb ≠ rb) (hn : nest ≤ 1000) (hr : bitsF L R nest s = some (n, s')) :
 Calls Tryz.prog 256 #[.pointer (some ⟨sb, 0, none⟩)] w (NdRet L ta tc rb w n s') := by
 have C := Hd ((Cx.startS h hsb hne).alloc nzO (a := w.heap.size) rfl)
 have hsb' := Hd hsb
 have hlt := h.lt
 have hlts := lt_of_block hsb
 obtain ⟨y0, y1, y2, y3, yf⟩ := sp_cells hsb
 obtain ⟨p4, he4, c0, c1, c2, c3, cf⟩ := h.cells
 clear hsb he4
 unfold bitsF at hr
 have HI := Hd (rIs_any C.out.ps (⟨#[58]⟩ : ByteArray))
 go_enter Tryz.func256, Tryz.ntmps256
 cases p1 : isP L s (⟨#[58]⟩ : ByteArray) with
 | true =>
   rw [p1, if_pos rfl] at hr
   rw [p1] at HI
   cases hbad : s.bad with
   | true => rw [hbad, if_pos rfl] at hr; cases hr
   | false =>
     rw [if_neg (by rw [hbad]; simp)] at hr
     obtain ⟨⟨c, z1⟩, hc1, hc2⟩ := Option.bind_eq_some_iff.1 hr
     simp only at hc2
     replace hc1 := Hd hc1
     replace hc2 := Hd hc2
     clear hr
     obtain ⟨rfl, rfl⟩ := Prod.mk.inj (Option.some.inj hc2.out)
     clear hc2
     go_wp2_with fail
     refine (HI.out).mono ?_
     rintro e w1 ⟨rfl, hb1⟩
     replace C := Hd (C.out.below hb1)
     clear HI y0 y1 y2 y3 yf c0 c1 c2 c3 cf
     obtain ⟨y0, y1, y2, y3, yf⟩ := sp_cells (C.out.var (i := 1) rfl)
     have HH := Hd (rHas_any C.out.ps (⟨#[58]⟩ : ByteArray))
     rw [hasP_ok hbad, p1, if_pos rfl] at HH
     go_wp2_with fail
     refine (HH.out).mono ?_
     rintro e w2 ⟨rfl, h2, k2⟩
     replace C := Hd (C.out.call h2 k2)
     clear HH
     clear y0 y1 y2 y3 yf
     obtain ⟨y0, y1, y2, y3, yf⟩ := sp_cells (C.out.var (i := 1) rfl)
     have hl0 := lt_of_block (C.out.var (i := 0) rfl)
     have hl1 := lt_of_block (C.out.var (i := 1) rfl)
     have HA := Hd (rCond_any G C.out.drew.ps hn hc1.out)
     go_upto_region 7 with fail
     go_cut [3] from 39 to 50 (fun v3 wx => ∃ (m : Nat) (ao : Option Addr) (cap : Nat) (x : Nd), v3 = .slice ao m cap ∧ Hid (x.n = c.1) ∧ Hid (([] ++ [c.1]).length = m) ∧ Hid (Cx L ta tc rb (fun _ => False) (some sb) w z1 [x] [(w.heap.size, nzO), (sb, spO rb nest pl ty)] ([] ++ [c.1]) (.slice ao m cap) wx))
     case first =>
      go_region_law (first
       | (refine step_snoc ((C.out.drew.ret hn1 h1 k1).below ((Below.refl _ w1).alloc (Nat.le_refl _) (bxO c.1 ao1 cap1))) (.head _) (by simp) rfl rfl rfl rfl (heap_alloc_new _ _) ?_; intro m7 ao7 cap7 w7 hm7 C7)
       | (go_simp; go_at_call 162; refine HA.out.mono ?_; rintro e w1 ⟨ao1, cap1, rfl, hn1, h1, k1⟩; unfold ndV))
      all_goals
       go_simp
       go_step
       go_meet
       case rel => exact ⟨_, _, _, ⟨c.1, ao1, cap1⟩, rfl, Hd rfl, hm7, Hd (C7.weak mem1 (List.Sublist.refl _))⟩
     case rest =>
      obtain ⟨m5, ao5, cap5, x5, rfl, hx5, hm5, C5⟩ := hcut
      have Cy := C
      clear Cy C HA
      have C := C5
      try clear y0 y1 y2 y3 yf
      obtain ⟨y0, y1, y2, y3, yf⟩ := sp_cells (C.out.var (i := 1) rfl)
      go_wp2_with fail
      refine (rMake_any C.out.ps (⟨#[98,105,116,115]⟩ : ByteArray) ⟨#[]⟩ s.at_ _ _ _).mono ?_
      rintro e w20 ⟨rfl, hb20⟩
      replace C := Hd (C.out.madeS (i := 1) rfl hb20 (by simp) (⟨#[98,105,116,115]⟩ : ByteArray) ⟨#[]⟩ s.at_)
      clear y0 y1 y2 y3 yf
      have hcc := C.out.var (i := 0) rfl
      go_wp2_with (refine stN rfl rfl rfl rfl hcc rfl rfl (by simp [Value.oneCell']) ?_)
      refine retN rfl rfl rfl (setRow_heap _ _ _ _ _ _ hcc) rfl ?_
      obtain rfl := hm5.out
      exact ⟨_, _, rfl, (C.out.set (i := 0) rfl rfl _).outS (i := 1) (.head _) rfl hsb'.out⟩
 | false =>
   rw [p1, if_neg (by simp)] at hr
   rw [p1] at HI
   obtain ⟨⟨d, z1⟩, hd1, hd2⟩ := Option.bind_eq_some_iff.1 hr
   simp only at hd2
   replace hd1 := Hd hd1
   replace hd2 := Hd hd2
   clear hr
   have hr := hd2.out
   clear hd2
   go_wp2_with fail
   refine (HI.out).mono ?_
   rintro e w1 ⟨rfl, hb1⟩
   replace C := Hd (C.out.below hb1)
   clear HI y0 y1 y2 y3 yf c0 c1 c2 c3 cf
   obtain ⟨y0, y1, y2, y3, yf⟩ := sp_cells (C.out.var (i := 1) rfl)
   have HDD := fun (x : World) (hx : PS L ta tc rb s x) => G.declr hx hn (show 0 ≤ 2 by omega) hd1.out
   have hl0 := lt_of_block (C.out.var (i := 0) rfl)
   have hl1 := lt_of_block (C.out.var (i := 1) rfl)
   have HA := Hd (HDD _ C.out.drew.ps )
   go_upto_region 4 with fail
   go_cut [3] from 18 to 29 (fun v3 wx => ∃ (m : Nat) (ao : Option Addr) (cap : Nat) (x : Nd), v3 = .slice ao m cap ∧ Hid (x.n = d) ∧ Hid (([] ++ [d]).length = m) ∧ Hid (Cx L ta tc rb (fun _ => False) (some sb) w z1 [x] [(w.heap.size, nzO), (sb, spO rb nest pl ty)] ([] ++ [d]) (.slice ao m cap) wx))
   case first =>
    go_region_law (first
     | (refine step_snoc ((C.out.drew.ret hn1 h1 k1).below ((Below.refl _ w1).alloc (Nat.le_refl _) (bxO d ao1 cap1))) (.head _) (by simp) rfl rfl rfl rfl (heap_alloc_new _ _) ?_; intro m7 ao7 cap7 w7 hm7 C7)
     | (go_simp; go_at_call 61; refine HA.out.mono ?_; rintro e w1 ⟨ao1, cap1, rfl, hn1, h1, k1⟩; unfold ndV))
    all_goals
     go_simp
     go_step
     go_meet
     case rel => exact ⟨_, _, _, ⟨d, ao1, cap1⟩, rfl, Hd rfl, hm7, Hd (C7.weak mem1 (List.Sublist.refl _))⟩
   case rest =>
    obtain ⟨m5, ao5, cap5, x5, rfl, hx5, hm5, C5⟩ := hcut
    have Cy := C
    clear Cy C HA HDD
    have C := C5
    clear C5 y0 y1 y2 y3 yf
    obtain ⟨y0, y1, y2, y3, yf⟩ := sp_cells (C.out.var (i := 1) rfl)
    cases p2 : hasP L z1 (⟨#[58]⟩ : ByteArray) with
    | false =>
      rw [p2, if_neg (by simp)] at hr
      obtain ⟨rfl, rfl⟩ := Prod.mk.inj (Option.some.inj hr)
      have HH := Hd (rHas_any C.out.ps (⟨#[58]⟩ : ByteArray))
      rw [p2, if_neg (by simp)] at HH
      go_wp2_with fail
      refine (HH.out).mono ?_
      rintro e w8 ⟨rfl, h8, k8⟩
      replace C := Hd (C.out.call h8 k8)
      clear HH
      obtain rfl : m5 = 1 := hm5.out.symm
      obtain ⟨css, j1, j2⟩ := C.out.own
      obtain ⟨cs, rfl, hrep⟩ : ∃ cs, css = [cs] ∧ Rep w8 (Ft (fun _ => False) w.heap.size [(w.heap.size, nzO), (sb, spO rb nest pl ty)] (Value.slice ao5 1 cap5).ownBlock) d cs := by
       cases j2 with
       | cons h r =>
         cases r
         exact ⟨_, rfl, h⟩
      obtain ⟨xa, xp, rfl⟩ := rep_agg hrep
      obtain ⟨b, o, rfl, hat⟩ := j1.here (by simp)
      have b0 := hat.cell (i := 0) rfl (j := 0) rfl
      have b1 := hat.cell (i := 0) rfl (j := 1) rfl
      have b2 := hat.cell (i := 0) rfl (j := 2) rfl
      have b3 := hat.cell (i := 0) rfl (j := 3) rfl
      have b4 := hat.cell (i := 0) rfl (j := 4) rfl
      simp only [Nat.zero_mul, Nat.add_zero] at b0 b1 b2 b3 b4
      replace C := Hd (C.out.retF (hrep.wide fun k hk _ => .inl hk) C.out.ps (kp_refl _ _))
      clear y0 y1 y2 y3 yf j1 j2 hat hrep
      have hcc := C.out.var (i := 0) rfl
      go_wp2_with (refine stN rfl rfl rfl rfl hcc rfl rfl (by simp [Value.oneCell']) ?_)
      refine retN rfl rfl rfl (setRow_heap _ _ _ _ _ _ hcc) rfl ?_
      exact ⟨_, _, rfl, (C.out.set (i := 0) rfl rfl _).outS (i := 1) (.head _) rfl hsb'.out⟩
    | true =>
      rw [p2, if_pos rfl] at hr
      obtain ⟨⟨c, z2⟩, hc1, hc2⟩ := Option.bind_eq_some_iff.1 hr
      simp only at hc2
      replace hc1 := Hd hc1
      replace hc2 := Hd hc2
      clear hr
      obtain ⟨rfl, rfl⟩ := Prod.mk.inj (Option.some.inj hc2.out)
      clear hc2
      have HH := Hd (rHas_any C.out.ps (⟨#[58]⟩ : ByteArray))
      rw [p2, if_pos rfl] at HH
      go_wp2_with fail
      refine (HH.out).mono ?_
      rintro e w8 ⟨rfl, h8, k8⟩
      replace C := Hd (C.out.call h8 k8)
      clear HH
      clear y0 y1 y2 y3 yf
      obtain ⟨y0, y1, y2, y3, yf⟩ := sp_cells (C.out.var (i := 1) rfl)
      have hx6 := hx5
      clear hx6 hx5
      have hl0 := lt_of_block (C.out.var (i := 0) rfl)
      have hl1 := lt_of_block (C.out.var (i := 1) rfl)
      have HA := Hd (rCond_any G C.out.drew.ps hn hc1.out)
      go_upto_region 7 with fail
      go_cut [3] from 39 to 50 (fun v3 wx => ∃ (m : Nat) (ao : Option Addr) (cap : Nat) (x : Nd), v3 = .slice ao m cap ∧ Hid (x.n = c.1) ∧ Hid (([d] ++ [c.1]).length = m) ∧ Hid (Cx L ta tc rb (fun _ => False) (some sb) w z2 [x] [(w.heap.size, nzO), (sb, spO rb nest pl ty)] ([d] ++ [c.1]) (.slice ao m cap) wx))
      case first =>
       go_region_law (first
        | (refine step_snoc ((C.out.drew.ret hn1 h1 k1).below ((Below.refl _ w1).alloc (Nat.le_refl _) (bxO c.1 ao1 cap1))) (.head _) (by simp) rfl rfl rfl rfl (heap_alloc_new _ _) ?_; intro m7 ao7 cap7 w7 hm7 C7)
        | (go_simp; go_at_call 162; refine HA.out.mono ?_; rintro e w1 ⟨ao1, cap1, rfl, hn1, h1, k1⟩; unfold ndV))
       all_goals
        go_simp
        go_step
        go_meet
        case rel => exact ⟨_, _, _, ⟨c.1, ao1, cap1⟩, rfl, Hd rfl, hm7, Hd (C7.weak mem1 (List.Sublist.refl _))⟩
      case rest =>
       have hm6 := hm5
       clear hm6 hm5
       obtain ⟨m5, ao5, cap5, x5, rfl, hx5, hm5, C5⟩ := hcut
       have Cy := C
       clear Cy C HA
       have C := C5
       try clear y0 y1 y2 y3 yf
       obtain ⟨y0, y1, y2, y3, yf⟩ := sp_cells (C.out.var (i := 1) rfl)
       go_wp2_with fail
       refine (rMake_any C.out.ps (⟨#[98,105,116,115]⟩ : ByteArray) ⟨#[]⟩ s.at_ _ _ _).mono ?_
       rintro e w20 ⟨rfl, hb20⟩
       replace C := Hd (C.out.madeS (i := 1) rfl hb20 (by simp) (⟨#[98,105,116,115]⟩ : ByteArray) ⟨#[]⟩ s.at_)
       clear y0 y1 y2 y3 yf
       have hcc := C.out.var (i := 0) rfl
       go_wp2_with (refine stN rfl rfl rfl rfl hcc rfl rfl (by simp [Value.oneCell']) ?_)
       refine retN rfl rfl rfl (setRow_heap _ _ _ _ _ _ hcc) rfl ?_
       obtain rfl := hm5.out
       exact ⟨_, _, rfl, (C.out.set (i := 0) rfl rfl _).outS (i := 1) (.head _) rfl hsb'.out⟩
end Go.Proofs.YtllbbacnakoomaaGreatDoor
namespace Go.Proofs.YtllbbacnakoomaaGreatDoor
open Go.RowKit
set_option linter.unusedVariables false
theorem names_any {L : List Ct} {ta : Option Addr} {tc rb sb nest : Nat} {pl ty : Bool} {R : Rec} (G : Good L ta tc rb R) {w : World} {s : Ps} {fro : Int} {n : T} {s' : Ps} (h : PS L ta tc rb s w) (hsb : w.heap[sb]? = some (spO rb nest pl ty)) (hne : sb ≠ rb) (hn : nest ≤ 1000) (hr : namesF L R fro nest s = some (n, s')) :
 Calls Tryz.prog 218 #[.pointer (some ⟨sb, 0, none⟩), .int .i64 fro] w (NdRet L ta tc rb w n s') := by
 unfold namesF at hr
 have C := Hd ((Cx.startS h hsb hne).alloc nzO (a := w.heap.size) rfl)
 have hsb' := Hd hsb
 have hlt := h.lt
 have hlts := lt_of_block hsb
 clear hsb
 obtain ⟨nm, hnm⟩ : ∃ x, x = (namedP L s).1 := ⟨_, rfl⟩
 obtain ⟨z0, hz0⟩ : ∃ z, z = (namedP L s).2 := ⟨_, rfl⟩
 have HN := Hd (named_any C.out.ps (C.out.var (i := 1) rfl) hne)
 rw [← hnm, ← hz0] at HN hr
 replace hnm := Hd hnm
 replace hz0 := Hd hz0
 go_enter Tryz.func218, Tryz.ntmps218
 go_wp2_with fail
 refine (HN.out).mono ?_
 rintro e w1 ⟨rfl, h1, k1⟩
 replace C := Hd (C.out.call h1 k1)
 clear HN
 obtain ⟨y0, y1, y2, y3, yf⟩ := sp_cells (C.out.var (i := 1) rfl)
 cases p1 : hasP L z0 (⟨#[123]⟩ : ByteArray) with
 | false =>
   rw [p1, if_neg (by simp)] at hr
   have HH := Hd (rHas_any C.out.ps (⟨#[123]⟩ : ByteArray))
   rw [p1, if_neg (by simp)] at HH
   go_wp2_with fail
   refine (HH.out).mono ?_
   rintro e w2 ⟨rfl, h2, k2⟩
   replace C := Hd (C.out.call h2 k2)
   clear HH
   clear y0 y1 y2 y3 yf
   rcases empty_or nm with ⟨hx, hxs⟩ | ⟨hx, hx1, hx2⟩
   ·rw [if_pos hxs] at hr
    obtain ⟨rfl, rfl⟩ := Prod.mk.inj (Option.some.inj hr)
    obtain ⟨y0, y1, y2, y3, yf⟩ := sp_cells (C.out.var (i := 1) rfl)
    subst hx
    clear hxs
    go_wp2_with fail
    refine (rFail_any C.out.ps).mono ?_
    rintro e w3 ⟨rfl, h3, k3⟩
    replace C := Hd (C.out.call h3 k3)
    clear y0 y1 y2 y3 yf
    obtain ⟨y0, y1, y2, y3, yf⟩ := sp_cells (C.out.var (i := 1) rfl)
    obtain ⟨nm, hnm2⟩ : ∃ nm : ByteArray, nm = ⟨#[]⟩ := ⟨_, rfl⟩
    rw [← hnm2]
    replace hnm2 := Hd hnm2
    go_wp2_with fail
    refine (rMake_any C.out.ps (⟨#[101,110,117,109]⟩ : ByteArray) nm fro _ _ _).mono ?_
    rintro e w20 ⟨rfl, hb20⟩
    replace C := Hd (C.out.madeS (i := 1) rfl hb20 (by simp) (⟨#[101,110,117,109]⟩ : ByteArray) nm fro)
    have hcc := C.out.var (i := 0) rfl
    go_wp2_with (refine stN rfl rfl rfl rfl hcc rfl rfl (by simp [Value.oneCell']) ?_)
    refine retN rfl rfl rfl (setRow_heap _ _ _ _ _ _ hcc) rfl ?_
    obtain rfl := hnm2.out
    exact ⟨_, _, rfl, (C.out.set (i := 0) rfl rfl _).outS (i := 1) (.head _) rfl hsb'.out⟩
   ·rw [if_neg hx] at hr
    obtain ⟨rfl, rfl⟩ := Prod.mk.inj (Option.some.inj hr)
    obtain ⟨y0, y1, y2, y3, yf⟩ := sp_cells (C.out.var (i := 1) rfl)
    go_wp2_with fail
    refine (rMake_any C.out.ps (⟨#[101,110,117,109]⟩ : ByteArray) nm fro _ _ _).mono ?_
    rintro e w20 ⟨rfl, hb20⟩
    replace C := Hd (C.out.madeS (i := 1) rfl hb20 (by simp) (⟨#[101,110,117,109]⟩ : ByteArray) nm fro)
    have hcc := C.out.var (i := 0) rfl
    go_wp2_with (refine stN rfl rfl rfl rfl hcc rfl rfl (by simp [Value.oneCell']) ?_)
    refine retN rfl rfl rfl (setRow_heap _ _ _ _ _ _ hcc) rfl ?_
    skip
    exact ⟨_, _, rfl, (C.out.set (i := 0) rfl rfl _).outS (i := 1) (.head _) rfl hsb'.out⟩
 | true =>
   rw [p1, if_pos rfl] at hr
   obtain ⟨⟨a, s1⟩, hr1, hr2⟩ := Option.bind_eq_some_iff.1 hr
   simp only at hr2
   replace hr1 := Hd hr1
   replace hr2 := Hd hr2
   clear hr
   obtain ⟨⟨kl, s2⟩, hr3, hr4⟩ := Option.bind_eq_some_iff.1 hr2.out
   obtain ⟨rfl, rfl⟩ := Prod.mk.inj (Option.some.inj hr4)
   replace hr3 := Hd hr3
   clear hr2 hr4
   have HH := Hd (rHas_any C.out.ps (⟨#[123]⟩ : ByteArray))
   rw [p1, if_pos rfl] at HH
   go_wp2_with fail
   refine (HH.out).mono ?_
   rintro e w2 ⟨rfl, h2, k2⟩
   replace C := Hd (C.out.call h2 k2)
   clear HH
   clear y0 y1 y2 y3 yf
   go_wp2_with fail
   refine (enumerator_any G C.out.ps (C.out.var (i := 1) rfl) hne hn hr1.out).mono ?_
   rintro e w3 ⟨ao3, cap3, rfl, hn3, h3, k3⟩
   replace C := Hd (C.out.ret hn3 h3 k3)
   unfold ndV
   go_wp2_with (refine wpList_snoc C.out (.head _) (by simp) rfl rfl rfl rfl rfl ?_; intro m3 ao3 cap3 w4 hm3 C3)
   replace C := Hd C3
   clear C3
   go_loopg [5] KK (fun q v5 wx => ∃ (k : List T) (z : Ps) (m : Nat) (ao3 : Option Addr) (cap3 : Nat), v5 = .slice ao3 m cap3 ∧ Hid (k.length = m) ∧ Hid (m + q ≤ 6000) ∧ Hid (Cx L ta tc rb (fun _ => False) (some sb) w z [] [(w.heap.size, nzO), (sb, spO rb nest pl ty)] k (.slice ao3 m cap3) wx) ∧ Hid (enumLoop L R nest q k z = some (kl, s2)))
   case atStart => exact ⟨_, _, _, _, _, rfl, hm3, Hd (by have h1 := hm3.out; simp at h1; unfold KK; omega), Hd (C.out.weak (by simp) (List.Sublist.refl _)), hr3⟩
   case round =>
    have Cx := C
    clear Cx C hr3
    obtain ⟨k, z, m, ao3, cap3, rfl, hm, hq, C, hL⟩ := hrel
    obtain ⟨w4, hw4⟩ : ∃ w4, w4 = wr := ⟨_, rfl⟩
    subst hw4
    cases gk with
    | zero => exact absurd hL.out (by simp [enumLoop])
    | succ gk =>
      have hL2 := hL.out
      unfold enumLoop at hL2
      obtain ⟨y0, y1, y2, y3, yf⟩ := sp_cells (C.out.var (i := 1) rfl)
      cases p2 : hasP L z (⟨#[44]⟩ : ByteArray) with
      | false =>
        rw [p2, if_neg (by simp)] at hL2
        obtain ⟨rfl, rfl⟩ := Prod.mk.inj (Option.some.inj hL2)
        clear hL2
        have HH := Hd (rHas_any C.out.ps (⟨#[44]⟩ : ByteArray))
        rw [p2, if_neg (by simp)] at HH
        go_wp2_with fail
        refine (HH.out).mono ?_
        rintro e w5 ⟨rfl, h5, k5⟩
        replace C := Hd (C.out.call h5 k5)
        clear HH
        clear y0 y1 y2 y3 yf
        obtain ⟨y0, y1, y2, y3, yf⟩ := sp_cells (C.out.var (i := 1) rfl)
        go_wp2_with fail
        refine (rNeed_any C.out.ps (⟨#[125]⟩ : ByteArray)).mono ?_
        rintro e w10 ⟨rfl, h10, k10⟩
        replace C := Hd (C.out.call h10 k10)
        clear y0 y1 y2 y3 yf
        obtain ⟨y0, y1, y2, y3, yf⟩ := sp_cells (C.out.var (i := 1) rfl)
        go_wp2_with fail
        refine (rMake_any C.out.ps (⟨#[101,110,117,109]⟩ : ByteArray) nm fro _ _ _).mono ?_
        rintro e w20 ⟨rfl, hb20⟩
        replace C := Hd (C.out.madeS (i := 1) rfl hb20 (by have := hm.out; have := hq.out; omega) (⟨#[101,110,117,109]⟩ : ByteArray) nm fro)
        have hcc := C.out.var (i := 0) rfl
        go_wp2_with (refine stN rfl rfl rfl rfl hcc rfl rfl (by simp [Value.oneCell']) ?_)
        refine retN rfl rfl rfl (setRow_heap _ _ _ _ _ _ hcc) rfl ?_
        obtain rfl := hm.out
        exact ⟨_, _, rfl, (C.out.set (i := 0) rfl rfl _).outS (i := 1) (.head _) rfl hsb'.out⟩
      | true =>
        rw [p2, if_pos rfl] at hL2
        have HH := Hd (rHas_any C.out.ps (⟨#[44]⟩ : ByteArray))
        rw [p2, if_pos rfl] at HH
        go_wp2_with fail
        refine (HH.out).mono ?_
        rintro e w5 ⟨rfl, h5, k5⟩
        replace C := Hd (C.out.call h5 k5)
        clear HH
        clear y0 y1 y2 y3 yf
        obtain ⟨y0, y1, y2, y3, yf⟩ := sp_cells (C.out.var (i := 1) rfl)
        have HI := Hd (rIs_any C.out.ps (⟨#[125]⟩ : ByteArray))
        cases p3 : isP L (z.up 1) (⟨#[125]⟩ : ByteArray) with
        | true =>
          rw [p3, if_pos rfl] at hL2
          rw [p3] at HI
          obtain ⟨rfl, rfl⟩ := Prod.mk.inj (Option.some.inj hL2)
          clear hL2
          go_wp2_with fail
          refine (HI.out).mono ?_
          rintro e w8 ⟨rfl, hb8⟩
          replace C := Hd (C.out.below hb8)
          clear y0 y1 y2 y3 yf
          obtain ⟨y0, y1, y2, y3, yf⟩ := sp_cells (C.out.var (i := 1) rfl)
          go_wp2_with fail
          refine (rNeed_any C.out.ps (⟨#[125]⟩ : ByteArray)).mono ?_
          rintro e w10 ⟨rfl, h10, k10⟩
          replace C := Hd (C.out.call h10 k10)
          clear y0 y1 y2 y3 yf
          obtain ⟨y0, y1, y2, y3, yf⟩ := sp_cells (C.out.var (i := 1) rfl)
          go_wp2_with fail
          refine (rMake_any C.out.ps (⟨#[101,110,117,109]⟩ : ByteArray) nm fro _ _ _).mono ?_
          rintro e w20 ⟨rfl, hb20⟩
          replace C := Hd (C.out.madeS (i := 1) rfl hb20 (by have := hm.out; have := hq.out; omega) (⟨#[101,110,117,109]⟩ : ByteArray) nm fro)
          have hcc := C.out.var (i := 0) rfl
          go_wp2_with (refine stN rfl rfl rfl rfl hcc rfl rfl (by simp [Value.oneCell']) ?_)
          refine retN rfl rfl rfl (setRow_heap _ _ _ _ _ _ hcc) rfl ?_
          obtain rfl := hm.out
          exact ⟨_, _, rfl, (C.out.set (i := 0) rfl rfl _).outS (i := 1) (.head _) rfl hsb'.out⟩
        | false =>
          rw [p3, if_neg (by simp)] at hL2
          rw [p3] at HI
          obtain ⟨⟨b, z2⟩, hb1, hb2⟩ := Option.bind_eq_some_iff.1 hL2
          simp only at hb2
          replace hb1 := Hd hb1
          replace hb2 := Hd hb2
          clear hL2
          go_wp2_with fail
          refine (HI.out).mono ?_
          rintro e w8 ⟨rfl, hb8⟩
          replace C := Hd (C.out.below hb8)
          clear y0 y1 y2 y3 yf
          go_wp2_with fail
          refine (enumerator_any G C.out.ps (C.out.var (i := 1) rfl) hne hn hb1.out).mono ?_
          rintro e w9 ⟨ao9, cap9, rfl, hn9, h9, k9⟩
          replace C := Hd (C.out.ret hn9 h9 k9)
          unfold ndV
          go_wp2_with (refine wpList_snoc C.out (.head _) (by have := hm.out; have := hq.out; omega) rfl rfl rfl rfl rfl ?_; intro m7 ao7 cap7 w7 hm7 C7)
          go_roundg gk
          case measure => omega
          case rel => exact ⟨_, _, _, _, _, rfl, hm7, Hd (by have h1 := hm7.out; have := hm.out; have := hq.out; simp at h1; omega), Hd (C7.weak (by simp) (List.Sublist.refl _)), hb2⟩
end Go.Proofs.YtllbbacnakoomaaGreatDoor
namespace Go.Proofs.YtllbbacnakoomaaGreatDoor
open Go.RowKit
set_option linter.unusedVariables false
def MemOk (L : List Ct) (ta : Option Addr) (tc rb : Nat) (R : Rec) : Prop :=
 ∀ {w : World} {s : Ps} {sb nest : Nat} {pl ty : Bool} {n : T} {s' : Ps}, PS L ta tc rb s w → w.heap[sb]? = some (spO rb nest pl ty) → sb ≠ rb → nest ≤ 1000 → memberF L R nest s = some (n, s') → Calls Tryz.prog 239 #[.pointer (some ⟨sb, 0, none⟩)] w (NdRet L ta tc rb w n s')
theorem members_any {L : List Ct} {ta : Option Addr} {tc rb sb nest : Nat} {pl ty : Bool} {R : Rec} (HM : MemOk L ta tc rb R) {w : World} {s : Ps} {kind : ByteArray} {fro : Int} {n : T} {s' : Ps} (h : PS L ta tc rb s w) (hsb : w.heap[sb]? = some (spO rb nest pl ty)) (hne : sb ≠ rb) (hn : nest ≤ 1000) (hr : membersF L R kind fro nest s = some (n, s')) :
 Calls Tryz.prog 217 #[.pointer (some ⟨sb, 0, none⟩), .string kind, .int .i64 fro] w (NdRet L ta tc rb w n s') := by
 unfold membersF at hr
 have C := Hd ((Cx.startS h hsb hne).alloc nzO (a := w.heap.size) rfl)
 have hsb' := Hd hsb
 have hlt := h.lt
 have hlts := lt_of_block hsb
 clear hsb
 obtain ⟨nm, hnm⟩ : ∃ x, x = (namedP L s).1 := ⟨_, rfl⟩
 obtain ⟨z0, hz0⟩ : ∃ z, z = (namedP L s).2 := ⟨_, rfl⟩
 have HN := Hd (named_any C.out.ps (C.out.var (i := 1) rfl) hne)
 rw [← hnm, ← hz0] at HN hr
 replace hnm := Hd hnm
 replace hz0 := Hd hz0
 go_enter Tryz.func217, Tryz.ntmps217
 go_wp2_with fail
 refine (HN.out).mono ?_
 rintro e w1 ⟨rfl, h1, k1⟩
 replace C := Hd (C.out.call h1 k1)
 clear HN
 obtain ⟨y0, y1, y2, y3, yf⟩ := sp_cells (C.out.var (i := 1) rfl)
 cases p1 : hasP L z0 (⟨#[123]⟩ : ByteArray) with
 | false =>
   rw [p1, if_neg (by simp)] at hr
   have HH := Hd (rHas_any C.out.ps (⟨#[123]⟩ : ByteArray))
   rw [p1, if_neg (by simp)] at HH
   go_wp2_with fail
   refine (HH.out).mono ?_
   rintro e w2 ⟨rfl, h2, k2⟩
   replace C := Hd (C.out.call h2 k2)
   clear HH
   clear y0 y1 y2 y3 yf
   rcases empty_or nm with ⟨hx, hxs⟩ | ⟨hx, hx1, hx2⟩
   ·rw [if_pos hxs] at hr
    obtain ⟨rfl, rfl⟩ := Prod.mk.inj (Option.some.inj hr)
    obtain ⟨y0, y1, y2, y3, yf⟩ := sp_cells (C.out.var (i := 1) rfl)
    subst hx
    clear hxs
    go_wp2_with fail
    refine (rFail_any C.out.ps).mono ?_
    rintro e w3 ⟨rfl, h3, k3⟩
    replace C := Hd (C.out.call h3 k3)
    clear y0 y1 y2 y3 yf
    obtain ⟨y0, y1, y2, y3, yf⟩ := sp_cells (C.out.var (i := 1) rfl)
    obtain ⟨nm, hnm2⟩ : ∃ nm : ByteArray, nm = ⟨#[]⟩ := ⟨_, rfl⟩
    rw [← hnm2]
    replace hnm2 := Hd hnm2
    go_wp2_with fail
    refine (rMake_any C.out.ps kind nm fro _ _ _).mono ?_
    rintro e w20 ⟨rfl, hb20⟩
    replace C := Hd (C.out.madeS (i := 1) rfl hb20 (by simp) kind nm fro)
    have hcc := C.out.var (i := 0) rfl
    go_wp2_with (refine stN rfl rfl rfl rfl hcc rfl rfl (by simp [Value.oneCell']) ?_)
    refine retN rfl rfl rfl (setRow_heap _ _ _ _ _ _ hcc) rfl ?_
    obtain rfl := hnm2.out
    exact ⟨_, _, rfl, (C.out.set (i := 0) rfl rfl _).outS (i := 1) (.head _) rfl hsb'.out⟩
   ·rw [if_neg hx] at hr
    obtain ⟨rfl, rfl⟩ := Prod.mk.inj (Option.some.inj hr)
    obtain ⟨y0, y1, y2, y3, yf⟩ := sp_cells (C.out.var (i := 1) rfl)
    go_wp2_with fail
    refine (rMake_any C.out.ps kind nm fro _ _ _).mono ?_
    rintro e w20 ⟨rfl, hb20⟩
    replace C := Hd (C.out.madeS (i := 1) rfl hb20 (by simp) kind nm fro)
    have hcc := C.out.var (i := 0) rfl
    go_wp2_with (refine stN rfl rfl rfl rfl hcc rfl rfl (by simp [Value.oneCell']) ?_)
    refine retN rfl rfl rfl (setRow_heap _ _ _ _ _ _ hcc) rfl ?_
    skip
    exact ⟨_, _, rfl, (C.out.set (i := 0) rfl rfl _).outS (i := 1) (.head _) rfl hsb'.out⟩
 | true =>
   rw [p1, if_pos rfl] at hr
   obtain ⟨⟨a, s1⟩, hr1, hr2⟩ := Option.bind_eq_some_iff.1 hr
   simp only at hr2
   replace hr1 := Hd hr1
   replace hr2 := Hd hr2
   clear hr
   obtain ⟨⟨kl, s2⟩, hr3, hr4⟩ := Option.bind_eq_some_iff.1 hr2.out
   obtain ⟨rfl, rfl⟩ := Prod.mk.inj (Option.some.inj hr4)
   replace hr3 := Hd hr3
   clear hr2 hr4
   have HH := Hd (rHas_any C.out.ps (⟨#[123]⟩ : ByteArray))
   rw [p1, if_pos rfl] at HH
   go_wp2_with fail
   refine (HH.out).mono ?_
   rintro e w2 ⟨rfl, h2, k2⟩
   replace C := Hd (C.out.call h2 k2)
   clear HH
   clear y0 y1 y2 y3 yf
   go_wp2_with fail
   refine (HM C.out.ps (C.out.var (i := 1) rfl) hne hn hr1.out).mono ?_
   rintro e w3 ⟨ao3, cap3, rfl, hn3, h3, k3⟩
   replace C := Hd (C.out.ret hn3 h3 k3)
   unfold ndV
   go_wp2_with (refine wpList_snoc C.out (.head _) (by simp) rfl rfl rfl rfl rfl ?_; intro m3 ao3 cap3 w4 hm3 C3)
   replace C := Hd C3
   clear C3
   go_loopg [7] KK (fun q v7 wx => ∃ (k : List T) (z : Ps) (m : Nat) (ao3 : Option Addr) (cap3 : Nat), v7 = .slice ao3 m cap3 ∧ Hid (k.length = m) ∧ Hid (m + q ≤ 6000) ∧ Hid (Cx L ta tc rb (fun _ => False) (some sb) w z [] [(w.heap.size, nzO), (sb, spO rb nest pl ty)] k (.slice ao3 m cap3) wx) ∧ Hid (memLoop L R nest q k z = some (kl, s2)))
   case atStart => exact ⟨_, _, _, _, _, rfl, hm3, Hd (by have h1 := hm3.out; simp at h1; unfold KK; omega), Hd (C.out.weak (by simp) (List.Sublist.refl _)), hr3⟩
   case round =>
    have Cx := C
    clear Cx C hr3
    obtain ⟨k, z, m, ao3, cap3, rfl, hm, hq, C, hL⟩ := hrel
    obtain ⟨w4, hw4⟩ : ∃ w4, w4 = wr := ⟨_, rfl⟩
    subst hw4
    cases gk with
    | zero => exact absurd hL.out (by simp [memLoop])
    | succ gk =>
      have hL2 := hL.out
      unfold memLoop at hL2
      obtain ⟨y0, y1, y2, y3, yf⟩ := sp_cells (C.out.var (i := 1) rfl)
      try clear c0 c1 c2 c3 cf
      obtain ⟨p4, he4, c0, c1, c2, c3, cf⟩ := C.out.ps.cells
      clear he4
      have HI := Hd (rIs_any C.out.ps (⟨#[125]⟩ : ByteArray))
      cases hbad : z.bad with
      | true =>
        rw [if_pos (.inl hbad)] at hL2
        obtain ⟨rfl, rfl⟩ := Prod.mk.inj (Option.some.inj hL2)
        clear hL2
        rw [hbad] at c3
        replace hbad := Hd hbad
        go_wp2_with fail
        refine (rNeed_any C.out.ps (⟨#[125]⟩ : ByteArray)).mono ?_
        rintro e w10 ⟨rfl, h10, k10⟩
        replace C := Hd (C.out.call h10 k10)
        clear y0 y1 y2 y3 yf c0 c1 c2 c3 cf
        obtain ⟨y0, y1, y2, y3, yf⟩ := sp_cells (C.out.var (i := 1) rfl)
        go_wp2_with fail
        refine (rMake_any C.out.ps kind nm fro _ _ _).mono ?_
        rintro e w20 ⟨rfl, hb20⟩
        replace C := Hd (C.out.madeS (i := 1) rfl hb20 (by have := hm.out; have := hq.out; omega) kind nm fro)
        have hcc := C.out.var (i := 0) rfl
        go_wp2_with (refine stN rfl rfl rfl rfl hcc rfl rfl (by simp [Value.oneCell']) ?_)
        refine retN rfl rfl rfl (setRow_heap _ _ _ _ _ _ hcc) rfl ?_
        obtain rfl := hm.out
        exact ⟨_, _, rfl, (C.out.set (i := 0) rfl rfl _).outS (i := 1) (.head _) rfl hsb'.out⟩
      | false =>
        rw [hbad] at c3
        cases p3 : isP L z (⟨#[125]⟩ : ByteArray) with
        | true =>
          rw [if_pos (.inr p3)] at hL2
          rw [p3] at HI
          obtain ⟨rfl, rfl⟩ := Prod.mk.inj (Option.some.inj hL2)
          clear hL2
          replace hbad := Hd hbad
          go_wp2_with fail
          refine (HI.out).mono ?_
          rintro e w8 ⟨rfl, hb8⟩
          replace C := Hd (C.out.below hb8)
          clear y0 y1 y2 y3 yf c0 c1 c2 c3 cf
          obtain ⟨y0, y1, y2, y3, yf⟩ := sp_cells (C.out.var (i := 1) rfl)
          go_wp2_with fail
          refine (rNeed_any C.out.ps (⟨#[125]⟩ : ByteArray)).mono ?_
          rintro e w10 ⟨rfl, h10, k10⟩
          replace C := Hd (C.out.call h10 k10)
          clear y0 y1 y2 y3 yf
          obtain ⟨y0, y1, y2, y3, yf⟩ := sp_cells (C.out.var (i := 1) rfl)
          go_wp2_with fail
          refine (rMake_any C.out.ps kind nm fro _ _ _).mono ?_
          rintro e w20 ⟨rfl, hb20⟩
          replace C := Hd (C.out.madeS (i := 1) rfl hb20 (by have := hm.out; have := hq.out; omega) kind nm fro)
          have hcc := C.out.var (i := 0) rfl
          go_wp2_with (refine stN rfl rfl rfl rfl hcc rfl rfl (by simp [Value.oneCell']) ?_)
          refine retN rfl rfl rfl (setRow_heap _ _ _ _ _ _ hcc) rfl ?_
          obtain rfl := hm.out
          exact ⟨_, _, rfl, (C.out.set (i := 0) rfl rfl _).outS (i := 1) (.head _) rfl hsb'.out⟩
        | false =>
          rw [if_neg (by rw [hbad, p3]; simp)] at hL2
          rw [p3] at HI
          obtain ⟨⟨b, z2⟩, hb1, hb2⟩ := Option.bind_eq_some_iff.1 hL2
          simp only at hb2
          replace hb1 := Hd hb1
          replace hb2 := Hd hb2
          clear hL2
          replace hbad := Hd hbad
          go_wp2_with fail
          refine (HI.out).mono ?_
          rintro e w8 ⟨rfl, hb8⟩
          replace C := Hd (C.out.below hb8)
          clear y0 y1 y2 y3 yf c0 c1 c2 c3 cf
          go_wp2_with fail
          refine (HM C.out.ps (C.out.var (i := 1) rfl) hne hn hb1.out).mono ?_
          rintro e w9 ⟨ao9, cap9, rfl, hn9, h9, k9⟩
          replace C := Hd (C.out.ret hn9 h9 k9)
          unfold ndV
          go_wp2_with (refine wpList_snoc C.out (.head _) (by have := hm.out; have := hq.out; omega) rfl rfl rfl rfl rfl ?_; intro m7 ao7 cap7 w7 hm7 C7)
          go_roundg gk
          case measure => omega
          case rel => exact ⟨_, _, _, _, _, rfl, hm7, Hd (by have h1 := hm7.out; have := hm.out; have := hq.out; simp at h1; omega), Hd (C7.weak (by simp) (List.Sublist.refl _)), hb2⟩
end Go.Proofs.YtllbbacnakoomaaGreatDoor
