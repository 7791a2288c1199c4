/- Texts of this seat's proofs, laid into one file. -/
import Derived.Test.YtllbbacnakoomaaGreatDoorE13
/- express: Close. -/
namespace Go.Proofs.YtllbbacnakoomaaGreatDoor
open Go.RowKit
set_option linter.unusedVariables false

theorem results_row_row_tmp {P : Program} {fn : Func} {p q u : Tmp} {ty ty' : TypeId} (h : fn.results = #[.cell p ty, .cell q ty', .tmp u]) (tmps : Array Value) (w : World) (g : Nat) (t : TypeId) (cs : Array Value) (fr : Nat × Nat) (d : TypeDesc)
    (hp : tmps.getD p undef = .pointer (some ⟨g, 0, none⟩)) (hg : w.heap[g]? = some (.cells cs t fr))
    (hu : P.underlying ty = some d) (hd : (match d with | .struct _ | .array _ _ => true | _ => false) = true) (hi : (P.info? ty).map (·.size) = some cs.size)
    (g' : Nat) (t' : TypeId) (cs' : Array Value) (fr' : Nat × Nat) (d' : TypeDesc)
    (hp' : tmps.getD q undef = .pointer (some ⟨g', 0, none⟩)) (hg' : w.heap[g']? = some (.cells cs' t' fr'))
    (hu' : P.underlying ty' = some d') (hd' : (match d' with | .struct _ | .array _ _ => true | _ => false) = true) (hi' : (P.info? ty').map (·.size) = some cs'.size) :
    (results fn tmps).run P w = .ok (.tuple #[.agg cs, .agg cs', tmps.getD u undef]) w := by
  have h1 : tmps[p]?.getD undef = .pointer (some ⟨g, 0, none⟩) := by simpa using hp
  have h2 : tmps[q]?.getD undef = .pointer (some ⟨g', 0, none⟩) := by simpa using hp'
  simp [results, h, h1, h2, asAddr, run_loadVar_row w g t ty cs fr d hg hu hd hi, run_loadVar_row w g' t' ty' cs' fr' d' hg' hu' hd' hi']

abbrev paO (L : List Ct) (ta : Option Addr) (tc : Nat) (i : Int) (p : Option Addr) (nest : Nat) : Obj := .cells #[.slice ta L.length tc, .int .i64 i, .pointer p, .int .i64 nest] 46 (0, 0)
abbrev pzO : Obj := .cells #[.slice none 0 0, .int .i64 0, .pointer none, .int .i64 0] 46 (0, 0)

theorem set_o {w : World} {g j k : Nat} {u : Value} {x : Option Obj} (h : w.heap[k]? = x) (hne : k ≠ g) : (w.setCell ⟨g, j, none⟩ u).heap[k]? = x := (Below.heap_setCell _ _ _ _ hne).trans h
theorem pa_set4 {w : World} {g : Nat} {a0 a1 a2 a3 v0 v1 v2 v3 : Value} {e : TypeId} {fz : Nat × Nat} (h : w.heap[g]? = some (.cells #[a0, a1, a2, a3] e fz)) : ((((w.setCell ⟨g, 0, none⟩ v0).setCell ⟨g, 1, none⟩ v1).setCell ⟨g, 2, none⟩ v2).setCell ⟨g, 3, none⟩ v3).heap[g]? = some (.cells #[v0, v1, v2, v3] e fz) :=
  rd_set (c := #[v0, v1, v2, a3]) (rd_set (c := #[v0, v1, a2, a3]) (rd_set (c := #[v0, a1, a2, a3]) (rd_set h)))
theorem pa_cells {w : World} {g : Nat} {a0 a1 a2 a3 : Value} {e : TypeId} (h : w.heap[g]? = some (.cells #[a0, a1, a2, a3] e (0, 0))) : w.cell? ⟨g, 0, none⟩ = some a0 ∧ w.cell? ⟨g, 1, none⟩ = some a1 ∧ w.cell? ⟨g, 2, none⟩ = some a2 ∧ w.cell? ⟨g, 3, none⟩ = some a3 ∧ ∀ j, w.frozen? ⟨g, j, none⟩ = false := by
  refine ⟨?_, ?_, ?_, ?_, fun j => Lib.frozen_of_heap h j⟩ <;> rw [Lib.cell_of_heap h] <;> rfl

/-- four new blocks -/
theorem four_new (w : World) (a b c d : Obj) : Below w.heap.size w ((((w.alloc a).alloc b).alloc c).alloc d) ∧ ((((w.alloc a).alloc b).alloc c).alloc d).heap[w.heap.size]? = some a ∧ ((((w.alloc a).alloc b).alloc c).alloc d).heap[w.heap.size + 1]? = some b ∧ ((((w.alloc a).alloc b).alloc c).alloc d).heap[w.heap.size + 1 + 1]? = some c ∧ ((((w.alloc a).alloc b).alloc c).alloc d).heap[w.heap.size + 1 + 1 + 1]? = some d := by
  have s1 : (w.alloc a).heap.size = w.heap.size + 1 := by simp
  have s2 : ((w.alloc a).alloc b).heap.size = w.heap.size + 1 + 1 := by simp
  have s3 : (((w.alloc a).alloc b).alloc c).heap.size = w.heap.size + 1 + 1 + 1 := by simp
  refine ⟨((((Below.refl _ w).alloc (Nat.le_refl _) _).alloc (by omega) _).alloc (by omega) _).alloc (by omega) _, ?_, ?_, ?_, ?_⟩
  · rw [heap_alloc_old _ _ (by omega), heap_alloc_old _ _ (by omega), heap_alloc_old _ _ (by omega), heap_alloc_new]
  · rw [heap_alloc_old _ _ (by omega), heap_alloc_old _ _ (by omega), ← s1, heap_alloc_new]
  · rw [heap_alloc_old _ _ (by omega), ← s2, heap_alloc_new]
  · rw [← s3, heap_alloc_new]

/-- what Close gives -/
def clV (L : List Ct) (ta : Option Addr) (tc : Nat) (s : Ps) (n : T) (ao : Option Addr) (cap nest : Nat) (p0 q : Option Addr) : Value := .tuple #[if s.bad = true then ndV zT none 0 else ndV n ao cap, paV L ta tc s.at_ (if s.bad = true then p0 else q) nest, .bool (!s.bad)]

/-- what Close gives, and what it leaves -/
def ClPost (L : List Ct) (ta : Option Addr) (tc : Nat) (s : Ps) (n : T) (ao : Option Addr) (cap nest : Nat) (p0 : Option Addr) (w : World) (e : Ending) (w' : World) : Prop :=
  ∃ q, e = .returned (clV L ta tc s n ao cap nest p0 q) ∧ EvAt w' q s.env ∧ Below w.heap.size w w'
theorem drew_o {w : World} {k : Nat} {x : Option Obj} (h : w.heap[k]? = x) : w.drew.heap[k]? = x := h

set_option maxRecDepth 100000 in
set_option maxHeartbeats 4000000 in
theorem close_any {L : List Ct} {ta : Option Addr} {tc rb : Nat} {s : Ps} {w : World} {i : Int} {p0 : Option Addr} {nest : Nat} {n : T} {ao : Option Addr} {cap : Nat} (h : PS L ta tc rb s w) :
    Calls Tryz.prog 60 #[.pointer (some ⟨rb, 0, none⟩), paV L ta tc i p0 nest, ndV n ao cap] w (ClPost L ta tc s n ao cap nest p0 w) := by
  obtain ⟨W, hW⟩ : ∃ W, W = (((w.alloc (paO L ta tc i p0 nest)).alloc (bxO n ao cap)).alloc nzO).alloc pzO := ⟨_, rfl⟩
  obtain ⟨hbW, hp, hn, hz, hy⟩ := four_new w (paO L ta tc i p0 nest) (bxO n ao cap) nzO pzO
  rw [← hW] at hbW hp hn hz hy
  have hlt := h.lt
  obtain ⟨q, hq, _, _, e2, e3, _⟩ := h.cells
  have hcb : ∀ j, W.cell? ⟨rb, j, none⟩ = w.cell? ⟨rb, j, none⟩ := fun j => World.cell?_of_block (a := ⟨rb, j, none⟩) (hbW.block rb hlt)
  obtain ⟨qq, he, c0, c1, _, _, cf⟩ := (h.below hbW).cells
  have c2 := (hcb 2).trans e2
  have c3 := (hcb 3).trans e3
  clear e2 e3 hcb
  have hbs := hbW.size
  have hl := lt_of_block hy
  replace he := Lib.hid he
  replace hbW := Lib.hid hbW
  obtain ⟨p0', p1', p2', p3', pf⟩ := pa_cells hp
  have hne : w.heap.size ≠ rb := by omega
  have hcl : ∀ e z, Below w.heap.size w z → e = .returned (.tuple #[if s.bad = true then ndV zT none 0 else ndV n ao cap, paV L ta tc s.at_ (if s.bad = true then p0 else q) nest, .bool (!s.bad)]) → ClPost L ta tc s n ao cap nest p0 w e z := fun e z hb he => ⟨q, he, hq.under hb, hb⟩
  replace hcl := Lib.hid hcl
  unfold ndV
  obtain ⟨b, hb⟩ : ∃ b, b = s.bad := ⟨_, rfl⟩
  rw [← hb] at c3
  replace hb := Lib.hid hb
  clear h
  go_enter Tryz.func60, Tryz.ntmps60
  go_upto_region 1 with fail
  rw [← hW]
  replace hW := Lib.hid hW
  go_upto_region 2 with fail
  obtain ⟨V, hV⟩ : ∃ V, V = W.setCell ⟨w.heap.size, 1, none⟩ (.int .i64 s.at_) := ⟨_, rfl⟩
  have hpV : V.heap[w.heap.size]? = some (paO L ta tc s.at_ p0 nest) := by rw [hV]; exact heap_setCell_same _ _ _ _ _ _ hp
  have hnV : V.heap[w.heap.size + 1]? = some (bxO n ao cap) := by rw [hV]; exact set_o hn (by omega)
  have hzV : V.heap[w.heap.size + 1 + 1]? = some nzO := by rw [hV]; exact set_o hz (by omega)
  have hyV : V.heap[w.heap.size + 1 + 1 + 1]? = some pzO := by rw [hV]; exact set_o hy (by omega)
  have hrV : ∀ k, k ≠ w.heap.size → V.heap[k]? = W.heap[k]? := fun k hk => by rw [hV]; exact set_o rfl hk
  have hbV : Below w.heap.size w V := by rw [hV]; exact hbW.out.setCell (p := ⟨w.heap.size, 1, none⟩) (Nat.le_refl _) _
  have hrd : ∀ j, V.cell? ⟨rb, j, none⟩ = W.cell? ⟨rb, j, none⟩ := fun j => World.cell?_of_block (a := ⟨rb, j, none⟩) (hrV rb (by omega))
  have d2 := (hrd 2).trans c2
  have d3 := (hrd 3).trans c3
  have d2f : V.frozen? ⟨w.heap.size, 2, none⟩ = false := Lib.frozen_of_heap hpV 2
  have hg1 : w.heap.size ≤ w.heap.size + 1 + 1 := by omega
  have hg2 : w.heap.size ≤ w.heap.size + 1 + 1 + 1 := by omega
  have hn12 : w.heap.size + 1 + 1 ≠ w.heap.size + 1 + 1 + 1 := by omega
  have hn21 : w.heap.size + 1 + 1 + 1 ≠ w.heap.size + 1 + 1 := by omega
  rw [← hV]
  replace hV := Lib.hid hV
  clear he hq
  clear p0' p1' p2' p3' pf hp hn hz hy hrV hrd c0 c1 c2 c3
  cases b with
  | true =>
    replace hbV := Lib.hid hbV
    obtain ⟨p0', p1', p2', p3', pf⟩ := pa_cells hpV
    obtain ⟨y0, y1, y2, y3, yf⟩ := pa_cells hyV
    obtain ⟨z0, z1, z2, z3, z4, zf⟩ := nd_cells hzV
    go_upto_region 3 with fail
    go_region
    go_wp2
    refine bodyPost_ret (results_row_row_tmp rfl _ _ (w.heap.size + 1 + 1) 50 _ (0, 0) _ rfl (drew_o (set_o (set_o (set_o (set_o (nd_set5 hzV) hn12) hn12) hn12) hn12)) Tryz.underlying50 rfl (by kernel_rfl) (w.heap.size + 1 + 1 + 1) 46 _ (0, 0) _ rfl (drew_o (pa_set4 (set_o (set_o (set_o (set_o (set_o hyV hn21) hn21) hn21) hn21) hn21))) Tryz.underlying46 rfl (by kernel_rfl)) rfl ?_
    refine hcl.out _ _ ((((((((((hbV.out.setCell (p := ⟨w.heap.size + 1 + 1, 0, none⟩) hg1 _).setCell (p := ⟨w.heap.size + 1 + 1, 1, none⟩) hg1 _).setCell (p := ⟨w.heap.size + 1 + 1, 2, none⟩) hg1 _).setCell (p := ⟨w.heap.size + 1 + 1, 3, none⟩) hg1 _).setCell (p := ⟨w.heap.size + 1 + 1, 4, none⟩) hg1 _).setCell (p := ⟨w.heap.size + 1 + 1 + 1, 0, none⟩) hg2 _).setCell (p := ⟨w.heap.size + 1 + 1 + 1, 1, none⟩) hg2 _).setCell (p := ⟨w.heap.size + 1 + 1 + 1, 2, none⟩) hg2 _).setCell (p := ⟨w.heap.size + 1 + 1 + 1, 3, none⟩) hg2 _).drew) ?_
    rw [← hb.out]
    rfl
  | false =>
    obtain ⟨p0', p1', p2', p3', pf⟩ := pa_cells hpV
    go_upto_region 4 with fail
    go_upto_region 5 with fail
    obtain ⟨U, hU⟩ : ∃ U, U = V.setCell ⟨w.heap.size, 2, none⟩ (.pointer q) := ⟨_, rfl⟩
    have hpU : U.heap[w.heap.size]? = some (paO L ta tc s.at_ q nest) := by rw [hU]; exact heap_setCell_same _ _ _ _ _ _ hpV
    have hnU : U.heap[w.heap.size + 1]? = some (bxO n ao cap) := by rw [hU]; exact set_o hnV (by omega)
    have hzU : U.heap[w.heap.size + 1 + 1]? = some nzO := by rw [hU]; exact set_o hzV (by omega)
    have hyU : U.heap[w.heap.size + 1 + 1 + 1]? = some pzO := by rw [hU]; exact set_o hyV (by omega)
    have hbU : Below w.heap.size w U := by rw [hU]; exact hbV.setCell (p := ⟨w.heap.size, 2, none⟩) (Nat.le_refl _) _
    rw [← hU]
    replace hU := Lib.hid hU
    clear hpV hnV hzV hyV hbV d2 d3 d2f p0' p1' p2' p3' pf
    have hbV := Lib.hid hbU
    have hzV := hzU
    have hyV := hyU
    clear hbU hzU hyU
    obtain ⟨p0', p1', p2', p3', pf⟩ := pa_cells hpU
    obtain ⟨n0, n1, n2, n3, n4, nf⟩ := nd_cells hnU
    obtain ⟨y0, y1, y2, y3, yf⟩ := pa_cells hyV
    obtain ⟨z0, z1, z2, z3, z4, zf⟩ := nd_cells hzV
    go_region
    go_wp2
    refine bodyPost_ret (results_row_row_tmp rfl _ _ (w.heap.size + 1 + 1) 50 _ (0, 0) _ rfl (drew_o (set_o (set_o (set_o (set_o (nd_set5 hzV) hn12) hn12) hn12) hn12)) Tryz.underlying50 rfl (by kernel_rfl) (w.heap.size + 1 + 1 + 1) 46 _ (0, 0) _ rfl (drew_o (pa_set4 (set_o (set_o (set_o (set_o (set_o hyV hn21) hn21) hn21) hn21) hn21))) Tryz.underlying46 rfl (by kernel_rfl)) rfl ?_
    refine hcl.out _ _ ((((((((((hbV.out.setCell (p := ⟨w.heap.size + 1 + 1, 0, none⟩) hg1 _).setCell (p := ⟨w.heap.size + 1 + 1, 1, none⟩) hg1 _).setCell (p := ⟨w.heap.size + 1 + 1, 2, none⟩) hg1 _).setCell (p := ⟨w.heap.size + 1 + 1, 3, none⟩) hg1 _).setCell (p := ⟨w.heap.size + 1 + 1, 4, none⟩) hg1 _).setCell (p := ⟨w.heap.size + 1 + 1 + 1, 0, none⟩) hg2 _).setCell (p := ⟨w.heap.size + 1 + 1 + 1, 1, none⟩) hg2 _).setCell (p := ⟨w.heap.size + 1 + 1 + 1, 2, none⟩) hg2 _).setCell (p := ⟨w.heap.size + 1 + 1 + 1, 3, none⟩) hg2 _).drew) ?_
    rw [← hb.out]
    rfl
end Go.Proofs.YtllbbacnakoomaaGreatDoor

/- call: a call's arguments. -/
namespace Go.Proofs.YtllbbacnakoomaaGreatDoor
open Go.RowKit
set_option linter.unusedVariables false

set_option maxRecDepth 100000 in
set_option maxHeartbeats 4000000 in
theorem call_any {L : List Ct} {ta : Option Addr} {tc rb : Nat} {R : Rec} (G : Good L ta tc rb R) {w : World} {s : Ps} {f : T} {ao : Option Addr} {cap nest : Nat} {n : T} {s' : Ps} {H : Nat → Prop} (h : PS L ta tc rb s w) (hH : ¬ H rb) (hf : Rep w H f (ndC f ao cap)) (hn : nest ≤ 1000) (hr : callF L R f nest s = some (n, s')) :
    Calls Tryz.prog 260 #[.pointer (some ⟨rb, 0, none⟩), ndV f ao cap, .int .i64 nest] w (NdRetF L ta tc rb H w n s') := by
  have C := Lib.hid (((Cx.startN h hH (ns := [⟨f, ao, cap⟩]) (by intro x hx; simp at hx; subst hx; exact hf)).alloc (bxO f ao cap) (a := w.heap.size) rfl).alloc nzO (a := w.heap.size + 1) (by simp) |>.lit [⟨f, ao, cap⟩] (by simp) (by simp) rfl (a := w.heap.size + 2) (by simp) (n := 1) rfl)
  have hlt := h.lt
  unfold callF at hr
  unfold ndV
  have HH := Lib.hid (rHas_any C.out.ps (⟨#[41]⟩ : ByteArray))
  cases hh : hasP L s (⟨#[41]⟩ : ByteArray) with
  | true =>
    rw [hh, if_pos rfl] at hr HH
    obtain ⟨rfl, rfl⟩ := Prod.mk.inj (Option.some.inj hr)
    go_enter Tryz.func260, Tryz.ntmps260
    go_wp2_with fail
    refine HH.out.mono ?_
    rintro e w1 ⟨rfl, h1, k1⟩
    replace C := Lib.hid (C.out.call h1 k1)
    obtain ⟨q0, q1, q2, q3, q4, qf⟩ := nd_cells (C.out.var (i := 1) rfl)
    go_wp2_with fail
    refine (rMake_any C.out.ps (⟨#[99, 97, 108, 108]⟩ : ByteArray) ⟨#[]⟩ f.from_ _ _ _).mono ?_
    rintro e w2 ⟨rfl, hb2⟩
    replace C := Lib.hid (C.out.made hb2 (by simp) (⟨#[99, 97, 108, 108]⟩ : ByteArray) ⟨#[]⟩ f.from_)
    have hcc := C.out.var (i := 0) rfl
    go_wp2_with (refine wpList_store_row rfl 50 _ _ rfl (w.heap.size + 1) _ rfl rfl 50 _ hcc info_nd rfl (by simp [Value.oneCell']) ?_)
    refine bodyPost_ret (results_cell_row rfl _ _ (w.heap.size + 1) 50 _ (0, 0) _ rfl (setRow_heap _ _ _ _ _ _ hcc) Tryz.underlying50 rfl (by kernel_rfl)) rfl ?_
    exact ⟨_, _, rfl, (C.out.set (i := 0) rfl rfl _).outF (.head _)⟩
  | false =>
    rw [hh, if_neg (by simp)] at hr HH
    obtain ⟨⟨a, s1⟩, hr1, hr2⟩ := Option.bind_eq_some_iff.1 hr
    obtain ⟨⟨kl, s2⟩, hr3, hr4⟩ := Option.bind_eq_some_iff.1 hr2
    obtain ⟨rfl, rfl⟩ := Prod.mk.inj (Option.some.inj hr4)
    clear hr hr2 hr4
    simp only at hr3
    replace hr1 := Lib.hid hr1
    replace hr3 := Lib.hid hr3
    go_enter Tryz.func260, Tryz.ntmps260
    go_wp2_with fail
    refine HH.out.mono ?_
    rintro e w1 ⟨rfl, h1, k1⟩
    replace C := Lib.hid (C.out.call h1 k1)
    go_wp2_with fail
    refine (G.assign C.out.ps hn hr1.out).mono ?_
    rintro e w2 ⟨ao2, cap2, rfl, hn2, h2, k2⟩
    replace C := Lib.hid (C.out.ret hn2 h2 k2)
    unfold ndV
    go_wp2_with (refine wpList_snoc C.out (.head _) (by simp) rfl rfl rfl rfl rfl ?_; intro m3 ao3 cap3 w3 hm3 C3)
    replace C := Lib.hid C3
    clear C3
    go_loopg [7] KK (fun q v7 wx => ∃ (k : List T) (z : Ps) (m : Nat) (ao3 : Option Addr) (cap3 : Nat), v7 = .slice ao3 m cap3 ∧ Hid (k.length = m) ∧ Hid (m + q ≤ 6000) ∧ Hid (Cx L ta tc rb (fun k => H k ∧ k < w.heap.size) none w z [] [(w.heap.size + 1, nzO), (w.heap.size, bxO f ao cap)] k (.slice ao3 m cap3) wx) ∧ Hid (argsLoop L R nest q k z = some (kl, s2)))
    case atStart => exact ⟨_, _, _, _, _, rfl, hm3, Lib.hid (by have := hm3.out; simp at this; unfold KK; omega), Lib.hid (C.out.weak (by simp) (List.Sublist.refl _)), hr3⟩
    case round =>
      have Cx := C
      clear Cx C hr3
      obtain ⟨k, z, m, ao3, cap3, rfl, hm, hq, C, hL⟩ := hrel
      obtain ⟨w4, hw4⟩ : ∃ w4, w4 = wr := ⟨_, rfl⟩
      subst hw4
      cases gk with
      | zero => exact absurd hL.out (by simp [argsLoop])
      | succ gk =>
        have hL2 := hL.out
        unfold argsLoop at hL2
        have HH := Lib.hid (rHas_any C.out.ps (⟨#[44]⟩ : ByteArray))
        cases hh : hasP L z (⟨#[44]⟩ : ByteArray) with
        | false =>
          rw [hh, if_neg (by simp)] at hL2 HH
          obtain ⟨rfl, rfl⟩ := Prod.mk.inj (Option.some.inj hL2)
          clear hL2
          go_wp2_with fail
          refine HH.out.mono ?_
          rintro e w5 ⟨rfl, h5, k5⟩
          replace C := Lib.hid (C.out.call h5 k5)
          go_wp2_with fail
          refine (rNeed_any C.out.ps (⟨#[41]⟩ : ByteArray)).mono ?_
          rintro e w6 ⟨rfl, h6, k6⟩
          replace C := Lib.hid (C.out.call h6 k6)
          obtain ⟨q0, q1, q2, q3, q4, qf⟩ := nd_cells (C.out.var (i := 1) rfl)
          go_wp2_with fail
          refine (rMake_any C.out.ps (⟨#[99, 97, 108, 108]⟩ : ByteArray) ⟨#[]⟩ f.from_ _ _ _).mono ?_
          rintro e w7 ⟨rfl, hb7⟩
          replace C := Lib.hid (C.out.made hb7 (by have := hm.out; have := hq.out; omega) (⟨#[99, 97, 108, 108]⟩ : ByteArray) ⟨#[]⟩ f.from_)
          obtain rfl := hm.out
          have hcc := C.out.var (i := 0) rfl
          go_wp2_with (refine wpList_store_row rfl 50 _ _ rfl (w.heap.size + 1) _ rfl rfl 50 _ hcc info_nd rfl (by simp [Value.oneCell']) ?_)
          refine bodyPost_ret (results_cell_row rfl _ _ (w.heap.size + 1) 50 _ (0, 0) _ rfl (setRow_heap _ _ _ _ _ _ hcc) Tryz.underlying50 rfl (by kernel_rfl)) rfl ?_
          exact ⟨_, _, rfl, (C.out.set (i := 0) rfl rfl _).outF (.head _)⟩
        | true =>
          rw [hh, if_pos rfl] at hL2 HH
          obtain ⟨⟨b, z2⟩, hb1, hb2⟩ := Option.bind_eq_some_iff.1 hL2
          simp only at hb2
          replace hb1 := Lib.hid hb1
          replace hb2 := Lib.hid hb2
          clear hL2
          go_wp2_with fail
          refine HH.out.mono ?_
          rintro e w5 ⟨rfl, h5, k5⟩
          replace C := Lib.hid (C.out.call h5 k5)
          go_wp2_with fail
          refine (G.assign C.out.ps hn hb1.out).mono ?_
          rintro e w6 ⟨ao6, cap6, rfl, hn6, h6, k6⟩
          replace C := Lib.hid (C.out.ret hn6 h6 k6)
          unfold ndV
          go_wp2_with (refine wpList_snoc C.out (.head _) (by have := hm.out; have := hq.out; omega) rfl rfl rfl rfl rfl ?_; intro m7 ao7 cap7 w7 hm7 C7)
          go_roundg gk
          case measure => omega
          case rel => exact ⟨_, _, _, _, _, rfl, hm7, Lib.hid (by have h1 := hm7.out; have := hm.out; have := hq.out; simp at h1; omega), Lib.hid (C7.weak (by simp) (List.Sublist.refl _)), hb2⟩
end Go.Proofs.YtllbbacnakoomaaGreatDoor

/- postfix: what stands behind a primary one. -/
namespace Go.Proofs.YtllbbacnakoomaaGreatDoor
open Go.RowKit
set_option linter.unusedVariables false

set_option maxRecDepth 100000 in
set_option maxHeartbeats 4000000 in
theorem postfix_any {L : List Ct} {ta : Option Addr} {tc rb : Nat} {R : Rec} (G : Good L ta tc rb R) {w : World} {s : Ps} {f : T} {ao : Option Addr} {cap nest : Nat} {n : T} {s' : Ps} {H : Nat → Prop} (h : PS L ta tc rb s w) (hH : ¬ H rb) (hf : Rep w H f (ndC f ao cap)) (hn : nest ≤ 1000) (hr : postF L R f nest s = some (n, s')) :
    Calls Tryz.prog 258 #[.pointer (some ⟨rb, 0, none⟩), ndV f ao cap, .int .i64 nest] w (NdRetF L ta tc rb H w n s') := by
  have C := Lib.hid (((Cx.startN h hH (ns := [⟨f, ao, cap⟩]) (by intro x hx; simp at hx; subst hx; exact hf)).alloc (bxO f ao cap) (a := w.heap.size) rfl).alloc nzO (a := w.heap.size + 1) (by simp))
  have hlt := h.lt
  unfold postF at hr
  unfold ndV
  replace hr := Lib.hid hr
  go_enter Tryz.func258, Tryz.ntmps258
  go_wp2_with fail
  go_loopg [] KK (fun q wx => ∃ (m : T) (z : Ps) (ao1 : Option Addr) (cap1 : Nat), Hid (Cx L ta tc rb (fun k => H k ∧ k < w.heap.size) none w z [⟨m, ao1, cap1⟩] [(w.heap.size + 1, nzO), (w.heap.size, bxO m ao1 cap1)] [] (.slice none 0 0) wx) ∧ Hid (postLoop L R nest q m z = some (n, s')))
  case atStart => exact ⟨_, _, _, _, C, hr⟩
  case round =>
    have Cx := C
    clear Cx C hr
    obtain ⟨m, z, ao1, cap1, C, hL⟩ := hrel
    obtain ⟨w4, hw4⟩ : ∃ w4, w4 = wr := ⟨_, rfl⟩
    subst hw4
    cases gk with
    | zero => exact absurd hL.out (by simp [postLoop])
    | succ gk =>
      have hL2 := hL.out
      unfold postLoop at hL2
      obtain ⟨p4, he4, c0, c1, c2, c3, cf⟩ := C.out.ps.cells
      clear he4 c0 c1 c2
      cases hbad : z.bad with
      | true =>
        rw [if_pos hbad] at hL2
        obtain ⟨rfl, rfl⟩ := Prod.mk.inj (Option.some.inj hL2)
        clear hL2
        rw [hbad] at c3
        obtain ⟨q0, q1, q2, q3, q4, qf⟩ := nd_cells (C.out.var (i := 1) rfl)
        have hcc := C.out.var (i := 0) rfl
        go_wp2_with (refine wpList_store_row rfl 50 _ _ rfl (w.heap.size + 1) _ rfl rfl 50 _ hcc info_nd rfl (by simp [Value.oneCell']) ?_)
        refine bodyPost_ret (results_cell_row rfl _ _ (w.heap.size + 1) 50 _ (0, 0) _ rfl (setRow_heap _ _ _ _ _ _ hcc) Tryz.underlying50 rfl (by kernel_rfl)) rfl ?_
        exact ⟨_, _, rfl, (C.out.set (i := 0) rfl rfl _).outF (.head _)⟩
      | false =>
        rw [if_neg (by rw [hbad]; simp)] at hL2
        rw [hbad] at c3
        replace hbad := Lib.hid hbad
        obtain ⟨t, ht⟩ : ∃ t, t = tokP L z.at_ := ⟨_, rfl⟩
        have HT := Lib.hid (tok_any C.out.ps)
        rw [← ht] at HT
        unfold ctV at HT
        replace ht := Lib.hid ht
        go_wp2_with fail
        refine (HT.out).mono ?_
        rintro e w5 ⟨rfl, hb5⟩
        replace C := Lib.hid (C.out.below hb5)
        clear HT
        replace C := Lib.hid (C.out.alloc (ctO t) (a := w5.heap.size) rfl)
        clear c3
        cases p1 : isP L z (⟨#[91]⟩ : ByteArray) with
        | true =>
          rw [p1, if_pos rfl] at hL2
          obtain ⟨⟨b, z2⟩, hb1, hb2⟩ := Option.bind_eq_some_iff.1 hL2
          simp only at hb2
          replace hb1 := Lib.hid hb1
          replace hb2 := Lib.hid hb2
          clear hL2
          have HH := Lib.hid (rHas_any C.out.ps (⟨#[91]⟩ : ByteArray))
          rw [hasP_ok hbad.out, p1, if_pos rfl] at HH
          go_wp2_with fail
          refine (HH.out).mono ?_
          rintro e w6 ⟨rfl, h6, k6⟩
          replace C := Lib.hid (C.out.call h6 k6)
          clear HH
          go_wp2_with fail
          refine (G.expr C.out.ps hn hb1.out).mono ?_
          rintro e w7 ⟨ao7, cap7, rfl, hn7, h7, k7⟩
          replace C := Lib.hid (C.out.ret hn7 h7 k7)
          unfold ndV
          replace C := Lib.hid (C.out.alloc (bxO b ao7 cap7) (a := w7.heap.size) rfl)
          go_wp2_with fail
          refine (rNeed_any C.out.ps (⟨#[93]⟩ : ByteArray)).mono ?_
          rintro e w8 ⟨rfl, h8, k8⟩
          replace C := Lib.hid (C.out.call h8 k8)
          obtain ⟨b0, b1, b2, b3, b4, bf⟩ := nd_cells (C.out.var (i := 0) rfl)
          obtain ⟨q0, q1, q2, q3, q4, qf⟩ := nd_cells (C.out.var (i := 3) rfl)
          replace C := Lib.hid (C.out.lit [⟨m, ao1, cap1⟩, ⟨b, ao7, cap7⟩] (by simp) (by simp) rfl (a := w8.heap.size) rfl (n := 2) rfl)
          go_wp2_with fail
          refine (rMake_any C.out.ps (⟨#[105, 110, 100, 101, 120]⟩ : ByteArray) ⟨#[]⟩ m.from_ _ _ _).mono ?_
          rintro e w9 ⟨rfl, hb9⟩
          replace C := Lib.hid (C.out.made hb9 (by simp) (⟨#[105, 110, 100, 101, 120]⟩ : ByteArray) ⟨#[]⟩ m.from_)
          clear b0 b1 b2 b3 b4 bf q0 q1 q2 q3 q4 qf
          have hcc := C.out.var (i := 3) rfl
          go_wp2_with (refine wpList_store_row rfl 50 _ _ rfl w.heap.size _ rfl rfl 50 _ hcc info_nd rfl (by simp [Value.oneCell']) ?_)
          go_roundg gk
          case measure => omega
          case rel => exact ⟨_, _, _, _, Lib.hid ((C.out.set (i := 3) rfl rfl _).weak mem1 (((List.Sublist.refl _).cons _).cons _)), hb2⟩
        | false =>
          rw [p1, if_neg (by simp)] at hL2
          have HH := Lib.hid (rHas_any C.out.ps (⟨#[91]⟩ : ByteArray))
          rw [hasP_ok hbad.out, p1, if_neg (by simp)] at HH
          go_wp2_with fail
          refine (HH.out).mono ?_
          rintro e w6 ⟨rfl, h6, k6⟩
          replace C := Lib.hid (C.out.call h6 k6)
          clear HH
          cases p2 : isP L z (⟨#[40]⟩ : ByteArray) with
          | true =>
            rw [p2, if_pos rfl] at hL2
            obtain ⟨⟨b, z2⟩, hb1, hb2⟩ := Option.bind_eq_some_iff.1 hL2
            simp only at hb2
            replace hb1 := Lib.hid hb1
            replace hb2 := Lib.hid hb2
            clear hL2
            have HH := Lib.hid (rHas_any C.out.ps (⟨#[40]⟩ : ByteArray))
            rw [hasP_ok hbad.out, p2, if_pos rfl] at HH
            go_wp2_with fail
            refine (HH.out).mono ?_
            rintro e w7 ⟨rfl, h7, k7⟩
            replace C := Lib.hid (C.out.call h7 k7)
            clear HH
            obtain ⟨q0, q1, q2, q3, q4, qf⟩ := nd_cells (C.out.var (i := 2) rfl)
            have HC := Lib.hid (call_any G C.out.ps C.out.nrb (C.out.nok _ (.head _)) hn hb1.out)
            unfold ndV at HC
            go_wp2_with fail
            refine (HC.out).mono ?_
            rintro e w8 ⟨ao8, cap8, rfl, hn8, h8, k8⟩
            replace C := Lib.hid (C.out.retF hn8 h8 k8)
            unfold ndV
            clear q0 q1 q2 q3 q4 qf HC
            have hcc := C.out.var (i := 2) rfl
            go_wp2_with (refine wpList_store_row rfl 50 _ _ rfl w.heap.size _ rfl rfl 50 _ hcc info_nd rfl (by simp [Value.oneCell']) ?_)
            go_roundg gk
            case measure => omega
            case rel => exact ⟨_, _, _, _, Lib.hid ((C.out.set (i := 2) rfl rfl _).weak mem1 ((List.Sublist.refl _).cons _)), hb2⟩
          | false =>
            rw [p2, if_neg (by simp)] at hL2
            have HH := Lib.hid (rHas_any C.out.ps (⟨#[40]⟩ : ByteArray))
            rw [hasP_ok hbad.out, p2, if_neg (by simp)] at HH
            go_wp2_with fail
            refine (HH.out).mono ?_
            rintro e w7 ⟨rfl, h7, k7⟩
            replace C := Lib.hid (C.out.call h7 k7)
            clear HH
            by_cases p3 : (isP L z (⟨#[46]⟩ : ByteArray) || isP L z (⟨#[45, 62]⟩ : ByteArray)) = true
            · rw [p3, if_pos rfl] at hL2
              rw [← ht.out] at hL2
              replace hL2 := Lib.hid hL2
              cases p4 : isP L z (⟨#[46]⟩ : ByteArray) with
              | true =>
                have HH := Lib.hid (rHas_any C.out.ps (⟨#[46]⟩ : ByteArray))
                rw [hasP_ok hbad.out, p4, if_pos rfl] at HH
                go_wp2_with fail
                refine (HH.out).mono ?_
                rintro e w8 ⟨rfl, h8, k8⟩
                replace C := Lib.hid (C.out.call h8 k8)
                clear HH
                obtain ⟨x, hx⟩ : ∃ x, x = (identP L (z.up 1) eB).1 := ⟨_, rfl⟩
                obtain ⟨z2, hz2⟩ : ∃ z2, z2 = (identP L (z.up 1) eB).2 := ⟨_, rfl⟩
                have HI := Lib.hid (rIdent_any C.out.ps eB)
                have hsz1 := C.out.ps.txt z.at_
                have hsz2 := C.out.ps.itxt (z.up 1) eB
                rw [← ht.out] at hsz1
                rw [← hx] at hsz2
                have hcat : t.text.size + x.text.size ≤ 9223372036854775807 := by omega
                have hcat2 : ¬ 9223372036854775807 < t.text.size + x.text.size := by omega
                clear hsz1 hsz2
                rw [← hx, ← hz2] at HI
                rw [← hx, ← hz2] at hL2
                replace hx := Lib.hid hx
                replace hz2 := Lib.hid hz2
                unfold lfV at HI
                go_wp2_with fail
                refine (HI.out).mono ?_
                rintro e w20 ⟨rfl, h20, k20⟩
                replace C := Lib.hid (C.out.call h20 k20)
                clear HI
                replace C := Lib.hid (C.out.alloc (lfO x) (a := w20.heap.size) rfl)
                obtain ⟨x0, x1, x2, x3, x4, x5, x6, xf⟩ := ct_box (C.out.var (i := 1) rfl)
                obtain ⟨q0, q1, q2, q3, q4, qf⟩ := nd_cells (C.out.var (i := 3) rfl)
                obtain ⟨b0, b1, b2, b3, b4, bf⟩ := nd_cells (C.out.var (i := 0) rfl)
                replace C := Lib.hid (C.out.lit [⟨m, ao1, cap1⟩] (by simp) (by simp) rfl (a := w20.heap.size + 1) (by simp) (n := 1) rfl)
                go_wp2_with fail
                refine (rMake_any C.out.ps (⟨#[109, 101, 109, 98, 101, 114]⟩ : ByteArray) (t.text ++ x.text) m.from_ _ _ _).mono ?_
                rintro e w21 ⟨rfl, hb21⟩
                replace C := Lib.hid (C.out.made hb21 (by simp) (⟨#[109, 101, 109, 98, 101, 114]⟩ : ByteArray) (t.text ++ x.text) m.from_)
                clear x0 x1 x2 x3 x4 x5 x6 xf q0 q1 q2 q3 q4 qf b0 b1 b2 b3 b4 bf
                have hcc := C.out.var (i := 3) rfl
                go_wp2_with (refine wpList_store_row rfl 50 _ _ rfl w.heap.size _ rfl rfl 50 _ hcc info_nd rfl (by simp [Value.oneCell']) ?_)
                go_roundg gk
                case measure => omega
                case rel => exact ⟨_, _, _, _, Lib.hid ((C.out.set (i := 3) rfl rfl _).weak mem1 (((List.Sublist.refl _).cons _).cons _)), hL2⟩
              | false =>
                rw [p4, Bool.false_or] at p3
                have HH := Lib.hid (rHas_any C.out.ps (⟨#[46]⟩ : ByteArray))
                rw [hasP_ok hbad.out, p4, if_neg (by simp)] at HH
                go_wp2_with fail
                refine (HH.out).mono ?_
                rintro e w8 ⟨rfl, h8, k8⟩
                replace C := Lib.hid (C.out.call h8 k8)
                clear HH
                have HH := Lib.hid (rHas_any C.out.ps (⟨#[45, 62]⟩ : ByteArray))
                rw [hasP_ok hbad.out, p3, if_pos rfl] at HH
                go_wp2_with fail
                refine (HH.out).mono ?_
                rintro e w9 ⟨rfl, h9, k9⟩
                replace C := Lib.hid (C.out.call h9 k9)
                clear HH
                obtain ⟨x, hx⟩ : ∃ x, x = (identP L (z.up 1) eB).1 := ⟨_, rfl⟩
                obtain ⟨z2, hz2⟩ : ∃ z2, z2 = (identP L (z.up 1) eB).2 := ⟨_, rfl⟩
                have HI := Lib.hid (rIdent_any C.out.ps eB)
                have hsz1 := C.out.ps.txt z.at_
                have hsz2 := C.out.ps.itxt (z.up 1) eB
                rw [← ht.out] at hsz1
                rw [← hx] at hsz2
                have hcat : t.text.size + x.text.size ≤ 9223372036854775807 := by omega
                have hcat2 : ¬ 9223372036854775807 < t.text.size + x.text.size := by omega
                clear hsz1 hsz2
                rw [← hx, ← hz2] at HI
                rw [← hx, ← hz2] at hL2
                replace hx := Lib.hid hx
                replace hz2 := Lib.hid hz2
                unfold lfV at HI
                go_wp2_with fail
                refine (HI.out).mono ?_
                rintro e w20 ⟨rfl, h20, k20⟩
                replace C := Lib.hid (C.out.call h20 k20)
                clear HI
                replace C := Lib.hid (C.out.alloc (lfO x) (a := w20.heap.size) rfl)
                obtain ⟨x0, x1, x2, x3, x4, x5, x6, xf⟩ := ct_box (C.out.var (i := 1) rfl)
                obtain ⟨q0, q1, q2, q3, q4, qf⟩ := nd_cells (C.out.var (i := 3) rfl)
                obtain ⟨b0, b1, b2, b3, b4, bf⟩ := nd_cells (C.out.var (i := 0) rfl)
                replace C := Lib.hid (C.out.lit [⟨m, ao1, cap1⟩] (by simp) (by simp) rfl (a := w20.heap.size + 1) (by simp) (n := 1) rfl)
                go_wp2_with fail
                refine (rMake_any C.out.ps (⟨#[109, 101, 109, 98, 101, 114]⟩ : ByteArray) (t.text ++ x.text) m.from_ _ _ _).mono ?_
                rintro e w21 ⟨rfl, hb21⟩
                replace C := Lib.hid (C.out.made hb21 (by simp) (⟨#[109, 101, 109, 98, 101, 114]⟩ : ByteArray) (t.text ++ x.text) m.from_)
                clear x0 x1 x2 x3 x4 x5 x6 xf q0 q1 q2 q3 q4 qf b0 b1 b2 b3 b4 bf
                have hcc := C.out.var (i := 3) rfl
                go_wp2_with (refine wpList_store_row rfl 50 _ _ rfl w.heap.size _ rfl rfl 50 _ hcc info_nd rfl (by simp [Value.oneCell']) ?_)
                go_roundg gk
                case measure => omega
                case rel => exact ⟨_, _, _, _, Lib.hid ((C.out.set (i := 3) rfl rfl _).weak mem1 (((List.Sublist.refl _).cons _).cons _)), hL2⟩
            · rw [if_neg p3] at hL2
              simp only [Bool.not_eq_true, Bool.or_eq_false_iff] at p3
              have HH := Lib.hid (rHas_any C.out.ps (⟨#[46]⟩ : ByteArray))
              rw [hasP_ok hbad.out, p3.1, if_neg (by simp)] at HH
              go_wp2_with fail
              refine (HH.out).mono ?_
              rintro e w8 ⟨rfl, h8, k8⟩
              replace C := Lib.hid (C.out.call h8 k8)
              clear HH
              have HH := Lib.hid (rHas_any C.out.ps (⟨#[45, 62]⟩ : ByteArray))
              rw [hasP_ok hbad.out, p3.2, if_neg (by simp)] at HH
              go_wp2_with fail
              refine (HH.out).mono ?_
              rintro e w9 ⟨rfl, h9, k9⟩
              replace C := Lib.hid (C.out.call h9 k9)
              clear HH
              by_cases p5 : (isP L z (⟨#[43, 43]⟩ : ByteArray) || isP L z (⟨#[45, 45]⟩ : ByteArray)) = true
              · rw [p5, if_pos rfl, ← ht.out] at hL2
                replace hL2 := Lib.hid hL2
                cases p6 : isP L z (⟨#[43, 43]⟩ : ByteArray) with
                | true =>
                  have HH := Lib.hid (rHas_any C.out.ps (⟨#[43, 43]⟩ : ByteArray))
                  rw [hasP_ok hbad.out, p6, if_pos rfl] at HH
                  go_wp2_with fail
                  refine (HH.out).mono ?_
                  rintro e w10 ⟨rfl, h10, k10⟩
                  replace C := Lib.hid (C.out.call h10 k10)
                  clear HH
                  obtain ⟨x0, x1, x2, x3, x4, x5, x6, xf⟩ := ct_box (C.out.var (i := 0) rfl)
                  obtain ⟨q0, q1, q2, q3, q4, qf⟩ := nd_cells (C.out.var (i := 2) rfl)
                  replace C := Lib.hid (C.out.lit [⟨m, ao1, cap1⟩] (by simp) (by simp) rfl (a := w10.heap.size) rfl (n := 1) rfl)
                  go_wp2_with fail
                  refine (rMake_any C.out.ps (⟨#[112, 111, 115, 116]⟩ : ByteArray) t.text m.from_ _ _ _).mono ?_
                  rintro e w20 ⟨rfl, hb20⟩
                  replace C := Lib.hid (C.out.made hb20 (by simp) (⟨#[112, 111, 115, 116]⟩ : ByteArray) t.text m.from_)
                  clear x0 x1 x2 x3 x4 x5 x6 xf q0 q1 q2 q3 q4 qf
                  have hcc := C.out.var (i := 2) rfl
                  go_wp2_with (refine wpList_store_row rfl 50 _ _ rfl w.heap.size _ rfl rfl 50 _ hcc info_nd rfl (by simp [Value.oneCell']) ?_)
                  go_roundg gk
                  case measure => omega
                  case rel => exact ⟨_, _, _, _, Lib.hid ((C.out.set (i := 2) rfl rfl _).weak mem1 ((List.Sublist.refl _).cons _)), hL2⟩
                | false =>
                  rw [p6, Bool.false_or] at p5
                  have HH := Lib.hid (rHas_any C.out.ps (⟨#[43, 43]⟩ : ByteArray))
                  rw [hasP_ok hbad.out, p6, if_neg (by simp)] at HH
                  go_wp2_with fail
                  refine (HH.out).mono ?_
                  rintro e w10 ⟨rfl, h10, k10⟩
                  replace C := Lib.hid (C.out.call h10 k10)
                  clear HH
                  have HH := Lib.hid (rHas_any C.out.ps (⟨#[45, 45]⟩ : ByteArray))
                  rw [hasP_ok hbad.out, p5, if_pos rfl] at HH
                  go_wp2_with fail
                  refine (HH.out).mono ?_
                  rintro e w11 ⟨rfl, h11, k11⟩
                  replace C := Lib.hid (C.out.call h11 k11)
                  clear HH
                  obtain ⟨x0, x1, x2, x3, x4, x5, x6, xf⟩ := ct_box (C.out.var (i := 0) rfl)
                  obtain ⟨q0, q1, q2, q3, q4, qf⟩ := nd_cells (C.out.var (i := 2) rfl)
                  replace C := Lib.hid (C.out.lit [⟨m, ao1, cap1⟩] (by simp) (by simp) rfl (a := w11.heap.size) rfl (n := 1) rfl)
                  go_wp2_with fail
                  refine (rMake_any C.out.ps (⟨#[112, 111, 115, 116]⟩ : ByteArray) t.text m.from_ _ _ _).mono ?_
                  rintro e w20 ⟨rfl, hb20⟩
                  replace C := Lib.hid (C.out.made hb20 (by simp) (⟨#[112, 111, 115, 116]⟩ : ByteArray) t.text m.from_)
                  clear x0 x1 x2 x3 x4 x5 x6 xf q0 q1 q2 q3 q4 qf
                  have hcc := C.out.var (i := 2) rfl
                  go_wp2_with (refine wpList_store_row rfl 50 _ _ rfl w.heap.size _ rfl rfl 50 _ hcc info_nd rfl (by simp [Value.oneCell']) ?_)
                  go_roundg gk
                  case measure => omega
                  case rel => exact ⟨_, _, _, _, Lib.hid ((C.out.set (i := 2) rfl rfl _).weak mem1 ((List.Sublist.refl _).cons _)), hL2⟩
              · rw [if_neg p5] at hL2
                obtain ⟨rfl, rfl⟩ := Prod.mk.inj (Option.some.inj hL2)
                clear hL2
                simp only [Bool.not_eq_true, Bool.or_eq_false_iff] at p5
                have HH := Lib.hid (rHas_any C.out.ps (⟨#[43, 43]⟩ : ByteArray))
                rw [hasP_ok hbad.out, p5.1, if_neg (by simp)] at HH
                go_wp2_with fail
                refine (HH.out).mono ?_
                rintro e w10 ⟨rfl, h10, k10⟩
                replace C := Lib.hid (C.out.call h10 k10)
                clear HH
                have HH := Lib.hid (rHas_any C.out.ps (⟨#[45, 45]⟩ : ByteArray))
                rw [hasP_ok hbad.out, p5.2, if_neg (by simp)] at HH
                go_wp2_with fail
                refine (HH.out).mono ?_
                rintro e w11 ⟨rfl, h11, k11⟩
                replace C := Lib.hid (C.out.call h11 k11)
                clear HH
                obtain ⟨q0, q1, q2, q3, q4, qf⟩ := nd_cells (C.out.var (i := 2) rfl)
                have hcc := C.out.var (i := 1) rfl
                go_wp2_with (refine wpList_store_row rfl 50 _ _ rfl (w.heap.size + 1) _ rfl rfl 50 _ hcc info_nd rfl (by simp [Value.oneCell']) ?_)
                refine bodyPost_ret (results_cell_row rfl _ _ (w.heap.size + 1) 50 _ (0, 0) _ rfl (setRow_heap _ _ _ _ _ _ hcc) Tryz.underlying50 rfl (by kernel_rfl)) rfl ?_
                exact ⟨_, _, rfl, (C.out.set (i := 1) rfl rfl _).outF (.head _)⟩
end Go.Proofs.YtllbbacnakoomaaGreatDoor

/- literal, cast. -/
namespace Go.Proofs.YtllbbacnakoomaaGreatDoor
open Go.RowKit
set_option linter.unusedVariables false

set_option maxRecDepth 100000 in
set_option maxHeartbeats 4000000 in
theorem literal_any {L : List Ct} {ta : Option Addr} {tc rb : Nat} {R : Rec} (G : Good L ta tc rb R) {w : World} {s : Ps} {fro : Int} {f : T} {ao : Option Addr} {cap nest : Nat} {n : T} {s' : Ps} {H : Nat → Prop} (h : PS L ta tc rb s w) (hH : ¬ H rb) (hf : Rep w H f (ndC f ao cap)) (hn : nest ≤ 1000) (hr : literalF L R fro f nest s = some (n, s')) :
    Calls Tryz.prog 251 #[.pointer (some ⟨rb, 0, none⟩), .int .i64 fro, ndV f ao cap, .int .i64 nest] w (NdRetF L ta tc rb H w n s') := by
  have C := Lib.hid (((Cx.startN h hH (ns := [⟨f, ao, cap⟩]) (by intro x hx; simp at hx; subst hx; exact hf)).alloc (bxO f ao cap) (a := w.heap.size) rfl).alloc nzO (a := w.heap.size + 1) (by simp))
  have hlt := h.lt
  unfold literalF at hr
  unfold ndV
  have HI := Lib.hid (rIs_any C.out.ps (⟨#[123]⟩ : ByteArray))
  obtain ⟨⟨b, z⟩, hb1, hb2⟩ := Option.bind_eq_some_iff.1 hr
  simp only at hb2
  replace hb1 := Lib.hid hb1
  replace hb2 := Lib.hid hb2
  clear hr
  cases p1 : isP L s (⟨#[123]⟩ : ByteArray) with
  | true =>
    rw [p1] at HI
    rw [p1, if_pos rfl] at hb1
    go_enter Tryz.func251, Tryz.ntmps251
    go_wp2_with fail
    refine (HI.out).mono ?_
    rintro e w5 ⟨rfl, hb5⟩
    replace C := Lib.hid (C.out.below hb5)
    go_wp2_with fail
    refine (G.init C.out.ps hn hb1.out).mono ?_
    rintro e w7 ⟨ao7, cap7, rfl, hn7, h7, k7⟩
    replace C := Lib.hid (C.out.ret hn7 h7 k7)
    unfold ndV
    replace C := Lib.hid (C.out.alloc (bxO b ao7 cap7) (a := w7.heap.size) rfl)
    obtain ⟨b0, b1, b2, b3, b4, bf⟩ := nd_cells (C.out.var (i := 0) rfl)
    obtain ⟨q0, q1, q2, q3, q4, qf⟩ := nd_cells (C.out.var (i := 2) rfl)
    replace C := Lib.hid (C.out.lit [⟨f, ao, cap⟩, ⟨b, ao7, cap7⟩] (by simp) (by simp) rfl (a := w7.heap.size + 1) (by simp) (n := 2) rfl)
    go_wp2_with fail
    refine (rMake_any C.out.ps (⟨#[108, 105, 116, 101, 114, 97, 108]⟩ : ByteArray) ⟨#[]⟩ fro _ _ _).mono ?_
    rintro e w9 ⟨rfl, hb9⟩
    replace C := Lib.hid (C.out.made hb9 (by simp) (⟨#[108, 105, 116, 101, 114, 97, 108]⟩ : ByteArray) ⟨#[]⟩ fro)
    clear b0 b1 b2 b3 b4 bf q0 q1 q2 q3 q4 qf
    go_wp2_with fail
    refine (postfix_any G C.out.ps C.out.nrb (C.out.nok _ (.head _)) hn hb2.out).mono ?_
    rintro e w10 ⟨ao10, cap10, rfl, hn10, h10, k10⟩
    replace C := Lib.hid (C.out.retF hn10 h10 k10)
    unfold ndV
    have hcc := C.out.var (i := 1) rfl
    go_wp2_with (refine wpList_store_row rfl 50 _ _ rfl (w.heap.size + 1) _ rfl rfl 50 _ hcc info_nd rfl (by simp [Value.oneCell']) ?_)
    refine bodyPost_ret (results_cell_row rfl _ _ (w.heap.size + 1) 50 _ (0, 0) _ rfl (setRow_heap _ _ _ _ _ _ hcc) Tryz.underlying50 rfl (by kernel_rfl)) rfl ?_
    exact ⟨_, _, rfl, (C.out.set (i := 1) rfl rfl _).outF (.head _)⟩
  | false =>
    rw [p1] at HI
    rw [p1, if_neg (by simp)] at hb1
    go_enter Tryz.func251, Tryz.ntmps251
    go_wp2_with fail
    refine (HI.out).mono ?_
    rintro e w5 ⟨rfl, hb5⟩
    replace C := Lib.hid (C.out.below hb5)
    go_wp2_with fail
    refine (rFail_any C.out.ps).mono ?_
    rintro e w6 ⟨rfl, h6, k6⟩
    replace C := Lib.hid (C.out.call h6 k6)
    go_wp2_with fail
    refine (G.init C.out.ps hn hb1.out).mono ?_
    rintro e w7 ⟨ao7, cap7, rfl, hn7, h7, k7⟩
    replace C := Lib.hid (C.out.ret hn7 h7 k7)
    unfold ndV
    replace C := Lib.hid (C.out.alloc (bxO b ao7 cap7) (a := w7.heap.size) rfl)
    obtain ⟨b0, b1, b2, b3, b4, bf⟩ := nd_cells (C.out.var (i := 0) rfl)
    obtain ⟨q0, q1, q2, q3, q4, qf⟩ := nd_cells (C.out.var (i := 2) rfl)
    replace C := Lib.hid (C.out.lit [⟨f, ao, cap⟩, ⟨b, ao7, cap7⟩] (by simp) (by simp) rfl (a := w7.heap.size + 1) (by simp) (n := 2) rfl)
    go_wp2_with fail
    refine (rMake_any C.out.ps (⟨#[108, 105, 116, 101, 114, 97, 108]⟩ : ByteArray) ⟨#[]⟩ fro _ _ _).mono ?_
    rintro e w9 ⟨rfl, hb9⟩
    replace C := Lib.hid (C.out.made hb9 (by simp) (⟨#[108, 105, 116, 101, 114, 97, 108]⟩ : ByteArray) ⟨#[]⟩ fro)
    clear b0 b1 b2 b3 b4 bf q0 q1 q2 q3 q4 qf
    go_wp2_with fail
    refine (postfix_any G C.out.ps C.out.nrb (C.out.nok _ (.head _)) hn hb2.out).mono ?_
    rintro e w10 ⟨ao10, cap10, rfl, hn10, h10, k10⟩
    replace C := Lib.hid (C.out.retF hn10 h10 k10)
    unfold ndV
    have hcc := C.out.var (i := 1) rfl
    go_wp2_with (refine wpList_store_row rfl 50 _ _ rfl (w.heap.size + 1) _ rfl rfl 50 _ hcc info_nd rfl (by simp [Value.oneCell']) ?_)
    refine bodyPost_ret (results_cell_row rfl _ _ (w.heap.size + 1) 50 _ (0, 0) _ rfl (setRow_heap _ _ _ _ _ _ hcc) Tryz.underlying50 rfl (by kernel_rfl)) rfl ?_
    exact ⟨_, _, rfl, (C.out.set (i := 1) rfl rfl _).outF (.head _)⟩

set_option maxRecDepth 100000 in
set_option maxHeartbeats 4000000 in
theorem cast_step {L : List Ct} {ta : Option Addr} {tc rb : Nat} {R : Rec} (G : Good L ta tc rb R) {w : World} {s : Ps} {nest : Nat} {n : T × Bool} {s' : Ps} (h : PS L ta tc rb s w) (hn : nest ≤ 1000) (hr : castF L R nest s = some (n, s')) :
    Calls Tryz.prog 234 #[.pointer (some ⟨rb, 0, none⟩), .int .i64 nest] w (NdRetB L ta tc rb w n s') := by
  have C := Lib.hid ((Cx.start h).alloc nzO (a := w.heap.size) rfl)
  have hlt := h.lt
  unfold castF at hr
  try clear c0 c1 c2 c3 cf
  obtain ⟨p4, he4, c0, c1, c2, c3, cf⟩ := C.out.ps.cells
  clear he4
  cases hbad : s.bad with
  | true =>
    rw [if_pos (.inl hbad)] at hr
    obtain ⟨⟨m, z⟩, hr1, hr2⟩ := Option.bind_eq_some_iff.1 hr
    simp only at hr2
    replace hr1 := Lib.hid hr1
    replace hr2 := Lib.hid hr2
    clear hr
    obtain ⟨rfl, rfl⟩ := Prod.mk.inj (Option.some.inj hr2.out)
    clear hr2
    rw [hbad] at c3
    go_enter Tryz.func234, Tryz.ntmps234
    go_wp2_with fail
    refine (G.unary C.out.ps hn hr1.out).mono ?_
    rintro e w1 ⟨ao1, cap1, rfl, hn1, h1, k1⟩
    replace C := Lib.hid (C.out.ret hn1 h1 k1)
    unfold ndV
    have hcc := C.out.var (i := 0) rfl
    go_wp2_with (refine wpList_store_row rfl 50 _ _ rfl w.heap.size _ rfl rfl 50 _ hcc info_nd rfl (by simp [Value.oneCell']) ?_)
    refine bodyPost_ret (results_row_tmp rfl _ _ w.heap.size 50 _ (0, 0) _ rfl (setRow_heap _ _ _ _ _ _ hcc) Tryz.underlying50 rfl (by kernel_rfl)) rfl ?_
    exact ⟨_, _, rfl, (C.out.set (i := 0) rfl rfl _).out (.head _)⟩
  | false =>
    rw [hbad] at c3
    have HB := Lib.hid (bracketed_any C.out.ps)
    cases hbr : bracketedP L s with
    | false =>
      rw [if_pos (.inr hbr)] at hr
      rw [hbr] at HB
      obtain ⟨⟨m, z⟩, hr1, hr2⟩ := Option.bind_eq_some_iff.1 hr
      simp only at hr2
      replace hr1 := Lib.hid hr1
      replace hr2 := Lib.hid hr2
      clear hr
      obtain ⟨rfl, rfl⟩ := Prod.mk.inj (Option.some.inj hr2.out)
      clear hr2
      go_enter Tryz.func234, Tryz.ntmps234
      go_wp2_with fail
      refine (HB.out).mono ?_
      rintro e w1 ⟨rfl, hb1⟩
      replace C := Lib.hid (C.out.below hb1)
      go_wp2_with fail
      refine (G.unary C.out.ps hn hr1.out).mono ?_
      rintro e w2 ⟨ao2, cap2, rfl, hn2, h2, k2⟩
      replace C := Lib.hid (C.out.ret hn2 h2 k2)
      unfold ndV
      have hcc := C.out.var (i := 0) rfl
      go_wp2_with (refine wpList_store_row rfl 50 _ _ rfl w.heap.size _ rfl rfl 50 _ hcc info_nd rfl (by simp [Value.oneCell']) ?_)
      refine bodyPost_ret (results_row_tmp rfl _ _ w.heap.size 50 _ (0, 0) _ rfl (setRow_heap _ _ _ _ _ _ hcc) Tryz.underlying50 rfl (by kernel_rfl)) rfl ?_
      exact ⟨_, _, rfl, (C.out.set (i := 0) rfl rfl _).out (.head _)⟩
    | true =>
      rw [if_neg (by rw [hbad, hbr]; simp)] at hr
      rw [hbr] at HB
      obtain ⟨⟨t, z1⟩, hr1, hr2⟩ := Option.bind_eq_some_iff.1 hr
      simp only at hr2
      replace hr1 := Lib.hid hr1
      replace hr2 := Lib.hid hr2
      clear hr
      replace hbad := Lib.hid hbad
      go_enter Tryz.func234, Tryz.ntmps234
      go_wp2_with fail
      refine (HB.out).mono ?_
      rintro e w1 ⟨rfl, hb1⟩
      replace C := Lib.hid (C.out.below hb1)
      try clear c0 c1 c2 c3 cf
      obtain ⟨p4, he4, c0, c1, c2, c3, cf⟩ := C.out.ps.cells
      clear he4
      go_wp2_with fail
      refine (inBrackets_any G C.out.ps hn hr1.out).mono ?_
      rintro e w2 ⟨ao2, cap2, rfl, hn2, h2, k2⟩
      replace C := Lib.hid (C.out.ret hn2 h2 k2)
      unfold ndV
      replace C := Lib.hid (C.out.alloc (bxO t ao2 cap2) (a := w2.heap.size) rfl)
      try clear c0 c1 c2 c3 cf
      obtain ⟨p4, he4, c0, c1, c2, c3, cf⟩ := C.out.ps.cells
      clear he4
      have hr := hr2.out
      have HI := Lib.hid (rIs_any C.out.ps (⟨#[123]⟩ : ByteArray))
      cases hb1 : z1.bad with
      | true =>
        rw [if_pos (.inl hb1)] at hr
        rw [hb1] at c3
        obtain ⟨⟨b, z⟩, hq1, hq2⟩ := Option.bind_eq_some_iff.1 hr
        simp only at hq2
        replace hq1 := Lib.hid hq1
        replace hq2 := Lib.hid hq2
        clear hr
        obtain ⟨rfl, rfl⟩ := Prod.mk.inj (Option.some.inj hq2.out)
        clear hq2
        obtain ⟨q0, q1, q2, q3, q4, qf⟩ := nd_cells (C.out.var (i := 0) rfl)
        go_wp2_with fail
        refine (literal_any G C.out.ps C.out.nrb (C.out.nok _ (.head _)) hn hq1.out).mono ?_
        rintro e w8 ⟨ao8, cap8, rfl, hn8, h8, k8⟩
        replace C := Lib.hid (C.out.retF hn8 h8 k8)
        unfold ndV
        clear q0 q1 q2 q3 q4 qf
        have hcc := C.out.var (i := 1) rfl
        go_wp2_with (refine wpList_store_row rfl 50 _ _ rfl w.heap.size _ rfl rfl 50 _ hcc info_nd rfl (by simp [Value.oneCell']) ?_)
        refine bodyPost_ret (results_row_tmp rfl _ _ w.heap.size 50 _ (0, 0) _ rfl (setRow_heap _ _ _ _ _ _ hcc) Tryz.underlying50 rfl (by kernel_rfl)) rfl ?_
        exact ⟨_, _, rfl, (C.out.set (i := 1) rfl rfl _).out (.head _)⟩
      | false =>
        rw [hb1] at c3
        cases p1 : isP L z1 (⟨#[123]⟩ : ByteArray) with
        | true =>
          rw [if_pos (.inr p1)] at hr
          rw [p1] at HI
          go_wp2_with fail
          refine (HI.out).mono ?_
          rintro e w7 ⟨rfl, hb7⟩
          replace C := Lib.hid (C.out.below hb7)
          obtain ⟨⟨b, z⟩, hq1, hq2⟩ := Option.bind_eq_some_iff.1 hr
          simp only at hq2
          replace hq1 := Lib.hid hq1
          replace hq2 := Lib.hid hq2
          clear hr
          obtain ⟨rfl, rfl⟩ := Prod.mk.inj (Option.some.inj hq2.out)
          clear hq2
          obtain ⟨q0, q1, q2, q3, q4, qf⟩ := nd_cells (C.out.var (i := 0) rfl)
          go_wp2_with fail
          refine (literal_any G C.out.ps C.out.nrb (C.out.nok _ (.head _)) hn hq1.out).mono ?_
          rintro e w8 ⟨ao8, cap8, rfl, hn8, h8, k8⟩
          replace C := Lib.hid (C.out.retF hn8 h8 k8)
          unfold ndV
          clear q0 q1 q2 q3 q4 qf
          have hcc := C.out.var (i := 1) rfl
          go_wp2_with (refine wpList_store_row rfl 50 _ _ rfl w.heap.size _ rfl rfl 50 _ hcc info_nd rfl (by simp [Value.oneCell']) ?_)
          refine bodyPost_ret (results_row_tmp rfl _ _ w.heap.size 50 _ (0, 0) _ rfl (setRow_heap _ _ _ _ _ _ hcc) Tryz.underlying50 rfl (by kernel_rfl)) rfl ?_
          exact ⟨_, _, rfl, (C.out.set (i := 1) rfl rfl _).out (.head _)⟩
        | false =>
          rw [if_neg (by rw [hb1, p1]; simp)] at hr
          rw [p1] at HI
          obtain ⟨⟨b, z⟩, hq1, hq2⟩ := Option.bind_eq_some_iff.1 hr
          simp only at hq2
          replace hq1 := Lib.hid hq1
          replace hq2 := Lib.hid hq2
          clear hr
          obtain ⟨rfl, rfl⟩ := Prod.mk.inj (Option.some.inj hq2.out)
          clear hq2
          go_wp2_with fail
          refine (HI.out).mono ?_
          rintro e w7 ⟨rfl, hb7⟩
          replace C := Lib.hid (C.out.below hb7)
          go_wp2_with fail
          refine (G.cast C.out.ps hn hq1.out).mono ?_
          rintro e w8 ⟨ao8, cap8, rfl, hn8, h8, k8⟩
          replace C := Lib.hid (C.out.ret hn8 h8 k8)
          unfold ndV
          replace C := Lib.hid (C.out.alloc (bxO b.1 ao8 cap8) (a := w8.heap.size) rfl)
          obtain ⟨b0, b1, b2, b3, b4, bf⟩ := nd_cells (C.out.var (i := 0) rfl)
          obtain ⟨q0, q1, q2, q3, q4, qf⟩ := nd_cells (C.out.var (i := 1) rfl)
          replace C := Lib.hid (C.out.lit [⟨t, ao2, cap2⟩, ⟨b.1, ao8, cap8⟩] (by simp) (by simp) rfl (a := w8.heap.size + 1) (by simp) (n := 2) rfl)
          go_wp2_with fail
          refine (rMake_any C.out.ps (⟨#[99, 97, 115, 116]⟩ : ByteArray) ⟨#[]⟩ s.at_ _ _ _).mono ?_
          rintro e w9 ⟨rfl, hb9⟩
          replace C := Lib.hid (C.out.made hb9 (by simp) (⟨#[99, 97, 115, 116]⟩ : ByteArray) ⟨#[]⟩ s.at_)
          clear b0 b1 b2 b3 b4 bf q0 q1 q2 q3 q4 qf
          have hcc := C.out.var (i := 2) rfl
          go_wp2_with (refine wpList_store_row rfl 50 _ _ rfl w.heap.size _ rfl rfl 50 _ hcc info_nd rfl (by simp [Value.oneCell']) ?_)
          refine bodyPost_ret (results_row_tmp rfl _ _ w.heap.size 50 _ (0, 0) _ rfl (setRow_heap _ _ _ _ _ _ hcc) Tryz.underlying50 rfl (by kernel_rfl)) rfl ?_
          exact ⟨_, _, rfl, (C.out.set (i := 2) rfl rfl _).out (.head _)⟩
end Go.Proofs.YtllbbacnakoomaaGreatDoor

/- size. -/
namespace Go.Proofs.YtllbbacnakoomaaGreatDoor
open Go.RowKit
set_option linter.unusedVariables false

set_option maxRecDepth 100000 in
set_option maxHeartbeats 4000000 in
theorem size_any {L : List Ct} {ta : Option Addr} {tc rb : Nat} {R : Rec} (G : Good L ta tc rb R) {w : World} {s : Ps} {fro : Int} {nest : Nat} {n : T} {s' : Ps} (h : PS L ta tc rb s w) (hn : nest ≤ 1000) (hr : sizeF L R fro nest s = some (n, s')) :
    Calls Tryz.prog 257 #[.pointer (some ⟨rb, 0, none⟩), .int .i64 fro, .int .i64 nest] w (NdRet L ta tc rb w n s') := by
  have C := Lib.hid ((Cx.start h).alloc nzO (a := w.heap.size) rfl)
  have hlt := h.lt
  unfold sizeF at hr
  have HB := Lib.hid (bracketed_any C.out.ps)
  cases hbr : bracketedP L s with
  | false =>
    rw [if_pos hbr] at hr
    rw [hbr] at HB
    obtain ⟨⟨m, z⟩, hr1, hr2⟩ := Option.bind_eq_some_iff.1 hr
    simp only at hr2
    replace hr1 := Lib.hid hr1
    replace hr2 := Lib.hid hr2
    clear hr
    obtain ⟨rfl, rfl⟩ := Prod.mk.inj (Option.some.inj hr2.out)
    clear hr2
    go_enter Tryz.func257, Tryz.ntmps257
    go_wp2_with fail
    refine (HB.out).mono ?_
    rintro e w1 ⟨rfl, hb1⟩
    replace C := Lib.hid (C.out.below hb1)
    go_wp2_with fail
    refine (G.unary C.out.ps hn hr1.out).mono ?_
    rintro e w2 ⟨ao2, cap2, rfl, hn2, h2, k2⟩
    replace C := Lib.hid (C.out.ret hn2 h2 k2)
    unfold ndV
    replace C := Lib.hid (C.out.alloc (bxO m ao2 cap2) (a := w2.heap.size) rfl)
    obtain ⟨b0, b1, b2, b3, b4, bf⟩ := nd_cells (C.out.var (i := 0) rfl)
    replace C := Lib.hid (C.out.lit [⟨m, ao2, cap2⟩] (by simp) (by simp) rfl (a := w2.heap.size + 1) (by simp) (n := 1) rfl)
    go_wp2_with fail
    refine (rMake_any C.out.ps (⟨#[115, 105, 122, 101, 111, 102]⟩ : ByteArray) ⟨#[]⟩ fro _ _ _).mono ?_
    rintro e w3 ⟨rfl, hb3⟩
    replace C := Lib.hid (C.out.made hb3 (by simp) (⟨#[115, 105, 122, 101, 111, 102]⟩ : ByteArray) ⟨#[]⟩ fro)
    clear b0 b1 b2 b3 b4 bf
    have hcc := C.out.var (i := 1) rfl
    go_wp2_with (refine wpList_store_row rfl 50 _ _ rfl w.heap.size _ rfl rfl 50 _ hcc info_nd rfl (by simp [Value.oneCell']) ?_)
    refine bodyPost_ret (results_cell_row rfl _ _ w.heap.size 50 _ (0, 0) _ rfl (setRow_heap _ _ _ _ _ _ hcc) Tryz.underlying50 rfl (by kernel_rfl)) rfl ?_
    exact ⟨_, _, rfl, (C.out.set (i := 1) rfl rfl _).out (.head _)⟩
  | true =>
    rw [if_neg (by rw [hbr]; simp)] at hr
    rw [hbr] at HB
    obtain ⟨⟨t, z1⟩, hr1, hr2⟩ := Option.bind_eq_some_iff.1 hr
    simp only at hr2
    replace hr1 := Lib.hid hr1
    replace hr2 := Lib.hid hr2
    clear hr
    go_enter Tryz.func257, Tryz.ntmps257
    go_wp2_with fail
    refine (HB.out).mono ?_
    rintro e w1 ⟨rfl, hb1⟩
    replace C := Lib.hid (C.out.below hb1)
    try clear c0 c1 c2 c3 cf
    obtain ⟨p4, he4, c0, c1, c2, c3, cf⟩ := C.out.ps.cells
    clear he4
    go_wp2_with fail
    refine (inBrackets_any G C.out.ps hn hr1.out).mono ?_
    rintro e w2 ⟨ao2, cap2, rfl, hn2, h2, k2⟩
    replace C := Lib.hid (C.out.ret hn2 h2 k2)
    unfold ndV
    replace C := Lib.hid (C.out.alloc (bxO t ao2 cap2) (a := w2.heap.size) rfl)
    try clear c0 c1 c2 c3 cf
    obtain ⟨p4, he4, c0, c1, c2, c3, cf⟩ := C.out.ps.cells
    clear he4
    have hr := hr2.out
    have HI := Lib.hid (rIs_any C.out.ps (⟨#[123]⟩ : ByteArray))
    cases hb1 : z1.bad with
    | true =>
      rw [if_pos (.inl hb1)] at hr
      rw [hb1] at c3
      obtain ⟨rfl, rfl⟩ := Prod.mk.inj (Option.some.inj hr)
      obtain ⟨b0, b1, b2, b3, b4, bf⟩ := nd_cells (C.out.var (i := 0) rfl)
      replace C := Lib.hid (C.out.lit [⟨t, ao2, cap2⟩] (by simp) (by simp) rfl (a := w2.heap.size + 1) (by simp) (n := 1) rfl)
      go_wp2_with fail
      refine (rMake_any C.out.ps (⟨#[115, 105, 122, 101, 111, 102, 116, 121, 112, 101]⟩ : ByteArray) ⟨#[]⟩ fro _ _ _).mono ?_
      rintro e w3 ⟨rfl, hb3⟩
      replace C := Lib.hid (C.out.made hb3 (by simp) (⟨#[115, 105, 122, 101, 111, 102, 116, 121, 112, 101]⟩ : ByteArray) ⟨#[]⟩ fro)
      clear b0 b1 b2 b3 b4 bf
      have hcc := C.out.var (i := 1) rfl
      go_wp2_with (refine wpList_store_row rfl 50 _ _ rfl w.heap.size _ rfl rfl 50 _ hcc info_nd rfl (by simp [Value.oneCell']) ?_)
      refine bodyPost_ret (results_cell_row rfl _ _ w.heap.size 50 _ (0, 0) _ rfl (setRow_heap _ _ _ _ _ _ hcc) Tryz.underlying50 rfl (by kernel_rfl)) rfl ?_
      exact ⟨_, _, rfl, (C.out.set (i := 1) rfl rfl _).out (.head _)⟩
    | false =>
      rw [hb1] at c3
      cases p1 : isP L z1 (⟨#[123]⟩ : ByteArray) with
      | false =>
        rw [if_pos (.inr p1)] at hr
        rw [p1] at HI
        obtain ⟨rfl, rfl⟩ := Prod.mk.inj (Option.some.inj hr)
        go_wp2_with fail
        refine (HI.out).mono ?_
        rintro e w7 ⟨rfl, hb7⟩
        replace C := Lib.hid (C.out.below hb7)
        obtain ⟨b0, b1, b2, b3, b4, bf⟩ := nd_cells (C.out.var (i := 0) rfl)
        replace C := Lib.hid (C.out.lit [⟨t, ao2, cap2⟩] (by simp) (by simp) rfl (a := w7.heap.size) rfl (n := 1) rfl)
        go_wp2_with fail
        refine (rMake_any C.out.ps (⟨#[115, 105, 122, 101, 111, 102, 116, 121, 112, 101]⟩ : ByteArray) ⟨#[]⟩ fro _ _ _).mono ?_
        rintro e w3 ⟨rfl, hb3⟩
        replace C := Lib.hid (C.out.made hb3 (by simp) (⟨#[115, 105, 122, 101, 111, 102, 116, 121, 112, 101]⟩ : ByteArray) ⟨#[]⟩ fro)
        clear b0 b1 b2 b3 b4 bf
        have hcc := C.out.var (i := 1) rfl
        go_wp2_with (refine wpList_store_row rfl 50 _ _ rfl w.heap.size _ rfl rfl 50 _ hcc info_nd rfl (by simp [Value.oneCell']) ?_)
        refine bodyPost_ret (results_cell_row rfl _ _ w.heap.size 50 _ (0, 0) _ rfl (setRow_heap _ _ _ _ _ _ hcc) Tryz.underlying50 rfl (by kernel_rfl)) rfl ?_
        exact ⟨_, _, rfl, (C.out.set (i := 1) rfl rfl _).out (.head _)⟩
      | true =>
        rw [if_neg (by rw [hb1, p1]; simp)] at hr
        rw [p1] at HI
        obtain ⟨⟨b, z⟩, hq1, hq2⟩ := Option.bind_eq_some_iff.1 hr
        simp only at hq2
        replace hq1 := Lib.hid hq1
        replace hq2 := Lib.hid hq2
        clear hr
        obtain ⟨rfl, rfl⟩ := Prod.mk.inj (Option.some.inj hq2.out)
        clear hq2
        go_wp2_with fail
        refine (HI.out).mono ?_
        rintro e w7 ⟨rfl, hb7⟩
        replace C := Lib.hid (C.out.below hb7)
        obtain ⟨b0, b1, b2, b3, b4, bf⟩ := nd_cells (C.out.var (i := 0) rfl)
        go_wp2_with fail
        refine (literal_any G C.out.ps C.out.nrb (C.out.nok _ (.head _)) hn hq1.out).mono ?_
        rintro e w8 ⟨ao8, cap8, rfl, hn8, h8, k8⟩
        replace C := Lib.hid (C.out.retF hn8 h8 k8)
        unfold ndV
        clear b0 b1 b2 b3 b4 bf
        have hcc := C.out.var (i := 0) rfl
        replace C := Lib.hid (C.out.set (i := 0) rfl rfl (rowA b ao8 cap8))
        obtain ⟨b0, b1, b2, b3, b4, bf⟩ := nd_cells (C.out.var (i := 0) rfl)
        replace C := Lib.hid (C.out.lit [⟨b, ao8, cap8⟩] (by simp) (by simp) rfl (a := w8.heap.size) (by simp [World.setRow]) (n := 1) rfl)
        go_wp2_with (refine wpList_store_row rfl 50 _ _ rfl w2.heap.size _ rfl rfl 50 _ hcc info_nd rfl (by simp [Value.oneCell']) ?_)
        refine (rMake_any C.out.ps (⟨#[115, 105, 122, 101, 111, 102]⟩ : ByteArray) ⟨#[]⟩ fro _ _ _).mono ?_
        rintro e w9 ⟨rfl, hb9⟩
        replace C := Lib.hid (C.out.made hb9 (by simp) (⟨#[115, 105, 122, 101, 111, 102]⟩ : ByteArray) ⟨#[]⟩ fro)
        clear b0 b1 b2 b3 b4 bf
        clear hcc
        have hcc := C.out.var (i := 1) rfl
        go_wp2_with (refine wpList_store_row rfl 50 _ _ rfl w.heap.size _ rfl rfl 50 _ hcc info_nd rfl (by simp [Value.oneCell']) ?_)
        refine bodyPost_ret (results_cell_row rfl _ _ w.heap.size 50 _ (0, 0) _ rfl (setRow_heap _ _ _ _ _ _ hcc) Tryz.underlying50 rfl (by kernel_rfl)) rfl ?_
        exact ⟨_, _, rfl, (C.out.set (i := 1) rfl rfl _).out (.head _)⟩

theorem Rep.span {w : World} {F : Nat → Prop} {n : T} {ao : Option Addr} {cap : Nat} (h : Rep w F n (ndC n ao cap)) (f o : Int) : Rep w F (.mk n.kind n.text f o n.kids) (ndC (.mk n.kind n.text f o n.kids) ao cap) := by
  cases n with
  | mk k t f' o' ks =>
    cases h with
    | mk hk hr hc => exact .mk hk hr hc

/-- a node of another span -/
theorem Cx.span {L : List Ct} {ta : Option Addr} {tc rb : Nat} {F : Nat → Prop} {O0 : Option Nat} {w0 : World} {s : Ps} {ns : List Nd} {vs : List (Nat × Obj)} {ks : List T} {v : Value} {w : World} (C : Cx L ta tc rb F O0 w0 s ns vs ks v w) {n : T} {ao : Option Addr} {cap : Nat} (h : (⟨n, ao, cap⟩ : Nd) ∈ ns) (f o : Int) : Cx L ta tc rb F O0 w0 s (⟨.mk n.kind n.text f o n.kids, ao, cap⟩ :: ns) vs ks v w :=
  C.retF (((C.nok _ h).span f o).wide fun k hk _ => .inl hk) C.ps (kp_refl _ _)

theorem Cx.leafT {L : List Ct} {ta : Option Addr} {tc rb : Nat} {F : Nat → Prop} {O0 : Option Nat} {w0 : World} {s : Ps} {ns : List Nd} {vs : List (Nat × Obj)} {ks : List T} {v : Value} {w : World} (C : Cx L ta tc rb F O0 w0 s ns vs ks v w) (z : Ps) (k : ByteArray) : Cx L ta tc rb F O0 w0 s (⟨leafP L z k, none, 0⟩ :: ns) vs ks v w := C.leaf _ _ _ _
end Go.Proofs.YtllbbacnakoomaaGreatDoor
