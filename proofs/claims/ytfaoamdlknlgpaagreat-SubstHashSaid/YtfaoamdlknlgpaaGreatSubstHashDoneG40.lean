/- Texts of this seat's proofs, laid into one file. -/
import Derived.Test.YtfaoamdlknlgpaaGreatSubstHashDoneG39
/- subst: glue, where two do not paste. -/
namespace Go.Proofs.YtfaoamdlknlgpaaGreat
open Go.RowKit
set_option linter.unusedVariables false

theorem new_tok (w : World) : (w.alloc (.cells #[.int .i64 0, .string ⟨#[]⟩, .bool false, .string ⟨#[]⟩, .int .i64 0, .int .i64 0, .bool false, .slice none 0 0] 34)).drew.heap[w.heap.size]? = some (.cells #[.int .i64 0, .string ⟨#[]⟩, .bool false, .string ⟨#[]⟩, .int .i64 0, .int .i64 0, .bool false, .slice none 0 0] 34 (0, 0)) := heap_alloc_new w _

/-- a piece of a row: its token's cells -/
theorem OwnZ.at {X : List Pz} {B n cap k : Nat} {ao : Option Addr} {x : Pz} {w : World} (h : OwnZ X B (.slice ao n cap) w) (hk : X[k]? = some x) : ∃ b sa sn sc, ao = some ⟨b, 0, none⟩ ∧ Own w B 66 5 (.slice sa sn sc) x.css ∧
    (w.cell? ⟨b, k * 11, none⟩ = some (.int .i64 x.t.kind) ∧ w.cell? ⟨b, k * 11 + 1, none⟩ = some (.string x.t.text) ∧ w.cell? ⟨b, k * 11 + 2, none⟩ = some (.bool x.t.sp) ∧ w.cell? ⟨b, k * 11 + 3, none⟩ = some (.string x.t.file) ∧ w.cell? ⟨b, k * 11 + 4, none⟩ = some (.int .i64 x.t.f) ∧ w.cell? ⟨b, k * 11 + 5, none⟩ = some (.int .i64 x.t.t) ∧ w.cell? ⟨b, k * 11 + 6, none⟩ = some (.bool x.t.made) ∧ w.cell? ⟨b, k * 11 + 7, none⟩ = some (.slice sa sn sc) ∧ w.cell? ⟨b, k * 11 + 8, none⟩ = some (.int .i64 x.par)) := by
  obtain ⟨T, h1, h2, h3⟩ := h
  obtain ⟨⟨p, v⟩, hp⟩ : ∃ p, T[k]? = some p := ⟨_, List.getElem?_eq_getElem (by rw [← List.length_map (f := (·.1)), h1]; exact (List.getElem?_eq_some_iff.1 hk).1)⟩
  have hpx : p = x := by
    have : (T.map (·.1))[k]? = some x := by rw [h1]; exact hk
    rw [List.getElem?_map, hp] at this
    exact Option.some.inj this
  subst hpx
  have e2 := h3 _ (List.mem_of_getElem? hp)
  obtain ⟨sa, sc, hv, _⟩ := e2.row
  simp only at hv
  subst hv
  obtain ⟨g, cap', hv, _⟩ := h2.cons_at (by intro e; simp at e; rw [e] at hp; simp at hp)
  simp only [Value.slice.injEq] at hv
  obtain ⟨rfl, _, _⟩ := hv
  obtain ⟨b, o, e, hat⟩ := h2.here (by intro e; simp at e; rw [e] at hp; simp at hp)
  simp only [Option.some.injEq, Addr.mk.injEq, and_true] at e
  obtain ⟨rfl, rfl⟩ := e
  have hc := fun j u (hj : (pzC p (.slice sa p.css.length sc))[j]? = some u) => hat.cell (i := k) (cs := pzC p (.slice sa p.css.length sc)) (by rw [List.getElem?_map, hp]; rfl) (j := j) (u := u) hj
  simp only [Nat.zero_add] at hc
  exact ⟨g, sa, _, sc, rfl, e2, hc 0 _ rfl, hc 1 _ rfl, hc 2 _ rfl, hc 3 _ rfl, hc 4 _ rfl, hc 5 _ rfl, hc 6 _ rfl, hc 7 _ rfl, hc 8 _ rfl⟩

set_option maxHeartbeats 2000000 in
set_option maxRecDepth 100000 in
theorem glue_none (a b : List Pz) (la nb : Nat) (x y : Pz) (hla : a.length = la + 1) (hx : a[la]? = some x) (hlb : b.length = nb) (hy : b[0]? = some y) (aa ba : Option Addr) (ac bc : Nat) (file : ByteArray) (f t : Int) (vd : Value) (ds : List Bad) (B : Nat) (hsz : x.t.text.size + y.t.text.size ≤ 1000) (hno : oneK (x.t.text ++ y.t.text).data.toList = none) (hln : a.length + b.length ≤ 1000000) (hld : ds.length ≤ 1000000) (w : World) (hB : B ≤ w.heap.size) (ha : OwnZ a B (.slice aa (la + 1) ac) w) (hb : OwnZ b B (.slice ba nb bc) w) (hd : Own w B 68 4 vd (ds.map badV)) (hkx : SitesOk x.css) :
    Calls Tryz.prog 86 #[.slice aa (la + 1) ac, .slice ba nb bc, .agg #[.string file, .int .i64 f, .int .i64 t], vd] w fun e w' => GluePost (a ++ b) (ds ++ [⟨10, file, f, t⟩]) (.slice aa (la + 1) ac) B w e w' := by
  obtain ⟨ga, xa, xn, xc, rfl, hox, hxc⟩ := ha.at hx
  obtain ⟨gb, ya, yn, yc, rfl, hoy, hyc⟩ := hb.at hy
  have hnb : 0 < nb := by rw [← hlb]; exact (List.getElem?_eq_some_iff.1 hy).1
  have hlan : la ≤ 1000000 := by omega
  have hnbn : nb ≤ 1000000 := by omega
  obtain ⟨W1, hW1⟩ : ∃ W1, W1 = w.alloc (.cells #[.string file, .int .i64 f, .int .i64 t] 31) := ⟨_, rfl⟩
  have b1 : Hid (Below w.heap.size w W1) := Lib.hid (by rw [hW1]; exact (Below.refl _ w).alloc (Nat.le_refl _) _)
  have hp1 : Hid (W1.heap[w.heap.size]? = some (.cells #[.string file, .int .i64 f, .int .i64 t] 31 (0, 0))) := Lib.hid (by rw [hW1]; exact heap_alloc_new w _)
  have ha1 := Lib.hid (ha.below b1.out)
  have hb1 := Lib.hid (hb.below b1.out)
  have hd1 := Lib.hid (hd.below b1.out)
  obtain ⟨dao, dn, dc, rfl⟩ : ∃ x n c, vd = .slice x n c := by obtain ⟨x, c, h, _⟩ := hd.row; exact ⟨x, _, c, h⟩
  have HF : Hid (∀ z, Below W1.heap.size W1 z → (z.cell? ⟨ga, la * 11, none⟩ = some (.int .i64 x.t.kind) ∧ z.cell? ⟨ga, la * 11 + 1, none⟩ = some (.string x.t.text) ∧ z.cell? ⟨ga, la * 11 + 2, none⟩ = some (.bool x.t.sp) ∧ z.cell? ⟨ga, la * 11 + 3, none⟩ = some (.string x.t.file) ∧ z.cell? ⟨ga, la * 11 + 4, none⟩ = some (.int .i64 x.t.f) ∧ z.cell? ⟨ga, la * 11 + 5, none⟩ = some (.int .i64 x.t.t) ∧ z.cell? ⟨ga, la * 11 + 6, none⟩ = some (.bool x.t.made) ∧ z.cell? ⟨ga, la * 11 + 7, none⟩ = some (.slice xa xn xc)) ∧ (z.cell? ⟨gb, 0, none⟩ = some (.int .i64 y.t.kind) ∧ z.cell? ⟨gb, 1, none⟩ = some (.string y.t.text) ∧ z.cell? ⟨gb, 2, none⟩ = some (.bool y.t.sp) ∧ z.cell? ⟨gb, 3, none⟩ = some (.string y.t.file) ∧ z.cell? ⟨gb, 4, none⟩ = some (.int .i64 y.t.f) ∧ z.cell? ⟨gb, 5, none⟩ = some (.int .i64 y.t.t) ∧ z.cell? ⟨gb, 6, none⟩ = some (.bool y.t.made) ∧ z.cell? ⟨gb, 7, none⟩ = some (.slice ya yn yc))) := Lib.hid fun z hz => by
    have hw : Below w.heap.size w z := b1.out.trans (hz.mono b1.out.size)
    obtain ⟨c0, c1, c2, c3, c4, c5, c6, c7, _⟩ := hxc
    obtain ⟨e0, e1, e2, e3, e4, e5, e6, e7, _⟩ := hyc
    simp only [Nat.zero_mul, Nat.zero_add] at e0 e1 e2 e3 e4 e5 e6 e7
    exact ⟨⟨kept_cell hw c0, kept_cell hw c1, kept_cell hw c2, kept_cell hw c3, kept_cell hw c4, kept_cell hw c5, kept_cell hw c6, kept_cell hw c7⟩, kept_cell hw e0, kept_cell hw e1, kept_cell hw e2, kept_cell hw e3, kept_cell hw e4, kept_cell hw e5, kept_cell hw e6, kept_cell hw e7⟩
  have HPs : Hid (∀ z, Below W1.heap.size W1 z → Calls Tryz.prog 33 #[.agg #[.int .i64 x.t.kind, .string x.t.text, .bool x.t.sp, .string x.t.file, .int .i64 x.t.f, .int .i64 x.t.t, .bool x.t.made, .slice xa xn xc], .agg #[.int .i64 y.t.kind, .string y.t.text, .bool y.t.sp, .string y.t.file, .int .i64 y.t.f, .int .i64 y.t.t, .bool y.t.made, .slice ya yn yc]] z fun e w' => e = .returned (.tuple #[.agg #[.int .i64 0, .string ⟨#[]⟩, .bool false, .string ⟨#[]⟩, .int .i64 0, .int .i64 0, .bool false, .slice none 0 0], .bool false]) ∧ Below W1.heap.size W1 w' ∧ Below z.heap.size z w') := Lib.hid fun z hz => by
    have hw : Below w.heap.size w z := b1.out.trans (hz.mono b1.out.size)
    refine (sPaste_any x.t y.t (.slice xa xn xc) (.slice ya yn yc) x.css hsz z (own_siteIn (hox.below hw) hkx) ⟨_, _, _, rfl⟩).mono ?_
    rintro e w' ⟨h1, h2⟩
    unfold PastePost at h1
    rw [hno] at h1
    exact ⟨h1, hz.trans (h2.mono hz.size), h2⟩
  have g1 : IntKind.i64.wrap ((la : Int) + 1 - 1) = (la : Int) := by rw [IntWalk.i64_in _ (by omega)]; omega
  have g2 : (((la : Int) + 1) == 0) = false := beq_false_of_ne (by omega)
  have g3 : ((nb : Int) == 0) = false := beq_false_of_ne (by omega)
  have g4 : (la : Int) < (la : Int) + 1 := by omega
  have g5 : (0 : Int) < nb := by omega
  have g6 : (0 : Int) ≤ (la : Int) := by omega
  replace hW1 := Lib.hid hW1
  clear ha hb hd hox hxc hoy hyc
  go_enter Tryz.func86, Tryz.ntmps86
  go_upto_region 1 with fail
  rw [← hW1.out]
  go_upto_region 4 with fail
  go_cut [11, 12] from 28 to 40 (fun s11 s12 wx => (∃ g, s11 = .pointer (some ⟨g, 0, none⟩)) ∧ s12 = .bool false ∧ Hid (Below W1.heap.size W1 wx))
  case first =>
    have hb0 := (Below.refl W1.heap.size W1).drew
    have hb0a := fun o => ((Below.refl W1.heap.size W1).alloc (Nat.le_refl _) o).drew
    have hx0a := fun o => HF.out _ (hb0a o)
    obtain ⟨⟨p0, p1, p2, p3, p4, p5, p6, p7⟩, q0, q1, q2, q3, q4, q5, q6, q7⟩ := HF.out _ hb0
    go_region_held3 (fun z : World => (z.cell? ⟨ga, la * 11, none⟩ = some (.int .i64 x.t.kind) ∧ z.cell? ⟨ga, la * 11 + 1, none⟩ = some (.string x.t.text) ∧ z.cell? ⟨ga, la * 11 + 2, none⟩ = some (.bool x.t.sp) ∧ z.cell? ⟨ga, la * 11 + 3, none⟩ = some (.string x.t.file) ∧ z.cell? ⟨ga, la * 11 + 4, none⟩ = some (.int .i64 x.t.f) ∧ z.cell? ⟨ga, la * 11 + 5, none⟩ = some (.int .i64 x.t.t) ∧ z.cell? ⟨ga, la * 11 + 6, none⟩ = some (.bool x.t.made) ∧ z.cell? ⟨ga, la * 11 + 7, none⟩ = some (.slice xa xn xc)) ∧ (z.cell? ⟨gb, 0, none⟩ = some (.int .i64 y.t.kind) ∧ z.cell? ⟨gb, 1, none⟩ = some (.string y.t.text) ∧ z.cell? ⟨gb, 2, none⟩ = some (.bool y.t.sp) ∧ z.cell? ⟨gb, 3, none⟩ = some (.string y.t.file) ∧ z.cell? ⟨gb, 4, none⟩ = some (.int .i64 y.t.f) ∧ z.cell? ⟨gb, 5, none⟩ = some (.int .i64 y.t.t) ∧ z.cell? ⟨gb, 6, none⟩ = some (.bool y.t.made) ∧ z.cell? ⟨gb, 7, none⟩ = some (.slice ya yn yc))) (first | with_reducible exact ⟨⟨p0, p1, p2, p3, p4, p5, p6, p7⟩, q0, q1, q2, q3, q4, q5, q6, q7⟩ | with_reducible exact hx0a _ | with_reducible exact hx5 | with_reducible exact hx5a _ | with_reducible exact hx8) (first | (go_at_call 33; refine (HPs.out _ hb0).mono ?_; rintro e w5 ⟨rfl, hb5, hbx5⟩; have hb5a := fun o => hb5.alloc hb5.size o; have hx5 := HF.out _ hb5; have hx5a := fun o => HF.out _ (hb5a o); have hb8 := hb5) | (go_at_call 33; refine (HPs.out _ (hb0a _)).mono ?_; rintro e w5 ⟨rfl, hb5, hbx5⟩; have hb5a := fun o => hb5.alloc hb5.size o; have hz5 := (hbx5.block W1.heap.size (by simp)).trans (new_tok W1); have fr := fun j => Lib.frozen_of_heap hz5 j; obtain ⟨r0, r1, r2, r3, r4, r5, r6, r7⟩ := cells8x hz5; have hx5 := HF.out _ hb5; have hb8 := set8_below (T := W1.heap.size) (b0 := .int .i64 0) (b1 := .string ⟨#[]⟩) (b2 := .bool false) (b3 := .string ⟨#[]⟩) (b4 := .int .i64 0) (b5 := .int .i64 0) (b6 := .bool false) (b7 := .slice none 0 0) hb5 (Nat.le_refl _); have hx8 := HF.out _ hb8; unfold set8 at hx8; replace hb8 := Lib.hid hb8))
    all_goals
      go_wp2_with fail
      go_meet
      case rel => exact ⟨⟨_, rfl⟩, rfl, Lib.hid (by first | exact hb8.out | exact hb5a _)⟩
  case rest =>
    obtain ⟨⟨g, rfl⟩, rfl, hbc⟩ := hcut
    have hg2 : GQ a b (.slice (some ⟨ga, 0, none⟩) (la + 1) ac) (.slice (some ⟨gb, 0, none⟩) nb bc) (.slice dao dn dc) (ds.map badV) file f t w.heap.size B w wc := by
      have hw1 : Below w.heap.size w wc := b1.out.trans (hbc.out.mono b1.out.size)
      exact ⟨ha1.out.below hbc.out, hb1.out.below hbc.out, hd1.out.below hbc.out, (hbc.out.block _ (lt_of_block hp1.out)).trans hp1.out, (Below.refl B w).trans (hw1.mono hB), fun Y u h _ => h.below hw1, hw1.size, hB⟩
    have hq0 := Lib.hid hg2.drew
    have hq1 := Lib.hid (fun o => (hg2.alloc o).drew)
    have hk0 := hg2.drew.cells
    have hk1 := fun o => ((hg2.alloc o).drew).cells
    have hlit : ∀ cs, (wc.alloc (.cells cs 68)).drew.heap[wc.heap.size]? = some (.cells cs 68 (0, 0)) := fun cs => heap_alloc_new wc (.cells cs 68)
    obtain ⟨rl, hrl⟩ : ∃ rl, (a ++ b).length = rl := ⟨_, rfl⟩
    replace hrl := Lib.hid hrl
    have hld' : (ds.map badV).length ≤ 1000000 := by rw [List.length_map]; exact hld
    obtain ⟨s0, s1, s2⟩ := hk0
    replace hg2 := Lib.hid hg2
    go_upto_region 6 with fail
    go_region_held3 (fun z : World => z.cell? ⟨w.heap.size, 0, none⟩ = some (.string file) ∧ z.cell? ⟨w.heap.size, 1, none⟩ = some (.int .i64 f) ∧ z.cell? ⟨w.heap.size, 2, none⟩ = some (.int .i64 t)) (first | with_reducible exact ⟨s0, s1, s2⟩ | with_reducible exact hk1 _ | with_reducible exact hk6 | with_reducible exact hk6a _ | with_reducible exact hk7 | (trace_state; fail))
      (first
        | (refine step_glueA rfl rfl rfl hq0.out rfl rfl hln ?_; intro v6 w6 hA6 hlit6; obtain ⟨ao6, cp6, hv6, _⟩ := hA6.r.len; rw [hrl.out] at hv6; subst hv6; have hk6 := hA6.cells; have hk6a := fun o => (hA6.alloc o).cells)
        | (refine step_glueA rfl rfl rfl (hq1.out _) rfl rfl hln ?_; intro v6 w6 hA6 hlit6; obtain ⟨ao6, cp6, hv6, _⟩ := hA6.r.len; rw [hrl.out] at hv6; subst hv6; have hk6 := hA6.cells; have hl6 := hlit6 _ _ _ _ (hlit _) (by decide))
        | (refine step_glueE rfl rfl rfl (hA6.alloc _) rfl rfl (heap_alloc_new _ _) rfl (by simp [Value.oneCell']) hld' ?_; intro v7 w7 hA7; have hk7 := hA7.cells)
        | (refine step_glueE rfl rfl rfl hA6 rfl rfl hl6 rfl (by simp [Value.oneCell']) hld' ?_; intro v7 w7 hA7; have hk7 := hA7.cells)
        | (refine step_glueD rfl rfl rfl (hq1.out _) rfl rfl (hlit _) rfl (by simp [Value.oneCell']) hld' ?_; intro v6 w6 hD6; have hk6 := hD6.cells)
        | (refine step_glueA rfl rfl rfl hD6 rfl rfl hln ?_; intro v7 w7 hA7 hlit7; have hk7 := hA7.cells))
    all_goals
      go_wp2
      go_ret2
      exact ⟨_, _, rfl, hA7.r, by rw [List.map_append]; exact hA7.d, hA7.low, hA7.oth⟩
end Go.Proofs.YtfaoamdlknlgpaaGreat

/- subst: glue, where two paste. -/
namespace Go.Proofs.YtfaoamdlknlgpaaGreat
open Go.RowKit
set_option linter.unusedVariables false

theorem row_of_heap {w : World} {g sz : Nat} {news : List Value} {e : TypeId} {fz : Nat × Nat} (h : w.heap[g]? = some (.cells news.toArray e fz)) : Row w sz (some ⟨g, 0, none⟩) [news] := by
  refine fun _ => ⟨g, 0, rfl, fun i cs hi j u hj => ?_⟩
  cases i with
  | zero =>
    simp only [List.getElem?_cons_zero, Option.some.injEq] at hi
    subst hi
    rw [Nat.zero_mul, Nat.zero_add, Lib.cell_of_heap h]
    simpa using hj
  | succ i => simp at hi

section
variable {a0 b r : List Pz} {x y : Pz} {va vb vd v' : Value} {dss : List (List Value)} {file : ByteArray} {f t : Int} {sb B : Nat} {w z : World}

theorem own_set8 {w : World} {B e sz T : Nat} {v : Value} {css : List (List Value)} {b0 b1 b2 b3 b4 b5 b6 b7 : Value} (h : Own w B e sz v css) (hT : T < B) : Own (set8 w T b0 b1 b2 b3 b4 b5 b6 b7) B e sz v css := by
  unfold set8
  exact (((((((h.setBelow hT _).setBelow hT _).setBelow hT _).setBelow hT _).setBelow hT _).setBelow hT _).setBelow hT _).setBelow hT _

theorem step_glueB {P : Program} (hP : P = Tryz.prog) {ops : Array Oper} {o : Oper} {ac : Act} {K : Act → World → Prop} {Q : Exit → Act → World → Prop} {Z : Prop}
    (hgd : o.guard = none) {s e : Operand} (ho : o.op = .call { callee := .builtin .append, args := #[s, e], argTypes := #[113, 113] })
    {la cp ga : Nat} (hG : GQ (a0 ++ [x]) b (.slice (some ⟨ga, 0, none⟩) (la + 1) cp) vb vd dss file f t sb B w z) (hs : ac.eval s = .slice (some ⟨ga, 0, none⟩) la cp) {g c : Nat} {p : Pz} {u : Value} (hx : ac.eval e = .slice (some ⟨g, 0, none⟩) 1 c) (hl : z.heap[g]? = some (.cells (pzC p u).toArray 118 (0, 0))) (hu : Own z B 66 5 u p.css) (hn : a0.length ≤ 1000000) (hap : vb.ownBlock = none ∨ vb.ownBlock ≠ some ga)
    (h : ∀ v' w', GA (a0 ++ [p]) (.slice (some ⟨ga, 0, none⟩) (la + 1) cp) v' vd dss file f t sb B w w' → OwnZ b B vb w' → (∀ (g : Nat) (c : Array Value) (T : TypeId) (fz : Nat × Nat), z.heap[g]? = some (Obj.cells c T fz) → 118 ≠ T → w'.heap[g]? = some (Obj.cells c T fz)) → K (ac.put o.dst v') w') :
    if Region.wanted o (yielded ops ac.tmps) = true then Oper.wp P o ac z K Q else Z := by
  subst hP
  obtain ⟨T, l1, o1, r1⟩ := hG.a
  obtain ⟨T0, px, rfl⟩ : ∃ T0 px, T = T0 ++ [px] := by
    rcases List.eq_nil_or_concat T with h0 | ⟨T0, px, h0⟩
    · rw [h0] at l1; simp at l1
    · exact ⟨T0, px, by simpa using h0⟩
  rw [List.map_append, List.map_cons, List.map_nil] at l1 o1
  have l0 : T0.map (·.1) = a0 := (List.append_inj' l1 rfl).1
  have o0 := o1.init
  have e1 : a0.length = T0.length := by rw [← l0, List.length_map]
  have hone : ∀ cs ∈ [pzC p u], ∀ q ∈ cs, q.oneCell' = true := by
    have := OwnZ.one (T := [(p, u)]) (w := z) (B := B) (by intro q hq; simp only [List.mem_singleton] at hq; subst hq; exact hu)
    exact this
  refine step_appendA E118 hgd ho o0 hs hx (css2 := [pzC p u]) rfl (by simp) (row_of_heap hl) (by intro cs hcs; simp only [List.mem_singleton] at hcs; subst hcs; rfl) hone (by rw [List.length_map]; omega) (by decide) (Nat.le_trans hG.hB hG.sz) ?_
  intro v' w' hown hg h4
  refine h v' w' ⟨⟨T0 ++ [(p, u)], by rw [List.map_append, l0]; rfl, by rw [List.map_append]; exact hown, ?_⟩, hG.d.kept hg (own_apart hG.d o0 (by decide)), grown_block hg hG.s (own_ne o0 hG.s (by decide)), hG.low.grown hg (Nat.le_trans hG.hB hG.sz) hG.a.ge, fun Y q h1 h2 => ⟨(hG.oth Y q h1 h2).keptZ hG.a hg h2, (hG.oth Y q h1 h2).newNe h2 h4⟩, Nat.le_trans hG.sz hg.size, hG.hB⟩ (hG.b.keptZ hG.a hg hap) (fun g c T' fz hc hT => grown_block hg hc (own_ne o0 hc hT))
  intro q hq
  rcases List.mem_append.1 hq with hq | hq
  · have := r1 q (List.mem_append.2 (.inl hq))
    exact this.kept hg (piece_apart this o0)
  · simp only [List.mem_singleton] at hq
    subst hq
    exact hu.kept hg (piece_apart hu o0)

theorem step_glueC {P : Program} (hP : P = Tryz.prog) {ops : Array Oper} {o : Oper} {ac : Act} {K : Act → World → Prop} {Q : Exit → Act → World → Prop} {Z : Prop}
    (hgd : o.guard = none) {s e : Operand} (ho : o.op = .call { callee := .builtin .append, args := #[s, e], argTypes := #[113, 113] })
    (hG : GA r va v' vd dss file f t sb B w z) (hs : ac.eval s = v') {gb nb bc : Nat} (hb : OwnZ (y :: b) B (.slice (some ⟨gb, 0, none⟩) nb bc) z) {ad : Addr} {n2 c2 : Nat} (hx : ac.eval e = .slice (some ad) n2 c2) (hn2 : b.length = n2) (had : b = [] ∨ ad = ⟨gb, 11, none⟩) (hn : r.length + b.length ≤ 1000000)
    (h : ∀ v2 w', GA (r ++ b) va v2 vd dss file f t sb B w w' → (∀ (g : Nat) (c : Array Value) (T : TypeId) (fz : Nat × Nat), z.heap[g]? = some (Obj.cells c T fz) → 118 ≠ T → w'.heap[g]? = some (Obj.cells c T fz)) → K (ac.put o.dst v2) w') :
    if Region.wanted o (yielded ops ac.tmps) = true then Oper.wp P o ac z K Q else Z := by
  subst hP
  have hr := hG.r
  obtain ⟨T, l1, o1, r1⟩ := hG.r
  obtain ⟨T2, l2, o2, r2⟩ := hb
  cases T2 with
  | nil => simp at l2
  | cons q T2 =>
    rw [List.map_cons, List.cons.injEq] at l2
    have e1 : r.length = T.length := by rw [← l1, List.length_map]
    have e2 : b.length = T2.length := by rw [← l2.2, List.length_map]
    have hrow : Row z 11 (some ad) (T2.map pzV) := by
      intro hne
      rcases had with h0 | h0
      · exfalso
        apply hne
        rw [h0] at e2
        rw [List.map_eq_nil_iff]
        exact List.eq_nil_of_length_eq_zero e2.symm
      · obtain ⟨b', o', e', hat⟩ := o2.here (by simp)
        simp only [Option.some.injEq, Addr.mk.injEq, and_true] at e'
        obtain ⟨rfl, rfl⟩ := e'
        refine ⟨gb, 11, by rw [h0], ?_⟩
        have := hat.drop 1
        simpa using this
    refine step_appendA E118 hgd ho o1 hs hx (css2 := T2.map pzV) (by rw [List.length_map, ← e2, hn2]) (by simp) hrow (fun cs hcs => o2.2 cs (by rw [List.map_cons]; exact List.mem_cons_of_mem _ hcs)) (OwnZ.one fun p hp => r2 p (List.mem_cons_of_mem _ hp)) (by rw [List.length_map]; omega) (by decide) (Nat.le_trans hG.hB hG.sz) ?_
    intro v2 w' hown hg h4
    refine h v2 w' ⟨⟨T ++ T2, by rw [List.map_append, l1, l2.2], by rw [List.map_append]; exact hown, ?_⟩, hG.d.kept hg (own_apart hG.d o1 (by decide)), grown_block hg hG.s (own_ne o1 hG.s (by decide)), hG.low.grown hg (Nat.le_trans hG.hB hG.sz) hr.ge, fun Y q h1 h2 => ⟨(hG.oth Y q h1 h2).1.keptZ hr hg (hG.oth Y q h1 h2).2, (hG.oth Y q h1 h2).1.newNe (hG.oth Y q h1 h2).2 h4⟩, Nat.le_trans hG.sz hg.size, hG.hB⟩ (fun g c T' fz hc hT => grown_block hg hc (own_ne o1 hc hT))
    intro p hp
    rcases List.mem_append.1 hp with hp | hp
    · exact (r1 p hp).kept hg (piece_apart (r1 p hp) o1)
    · have := r2 p (List.mem_cons_of_mem _ hp)
      exact this.kept hg (piece_apart this o1)
end

set_option maxHeartbeats 2000000 in
set_option maxRecDepth 100000 in
theorem glue_some (a0 b' : List Pz) (la nb k : Nat) (x y : Pz) (hla : a0.length = la) (hlb : b'.length + 1 = nb) (ga gb : Nat) (hgab : gb ≠ ga) (ac bc : Nat) (hac : la + 1 ≤ ac) (hbc : nb ≤ bc) (file : ByteArray) (f t : Int) (vd : Value) (ds : List Bad) (B : Nat) (s : ByteArray) (hs : s = x.t.text ++ y.t.text) (hsz : x.t.text.size + y.t.text.size ≤ 1000) (hno : oneK s.data.toList = some k) (hln : la + nb ≤ 1000000) (hld : ds.length ≤ 1000000) (w : World) (hB : B ≤ w.heap.size) (ha : OwnZ (a0 ++ [x]) B (.slice (some ⟨ga, 0, none⟩) (la + 1) ac) w) (hb : OwnZ (y :: b') B (.slice (some ⟨gb, 0, none⟩) nb bc) w) (hd : Own w B 68 4 vd (ds.map badV)) (hkx : SitesOk x.css) :
    Calls Tryz.prog 86 #[.slice (some ⟨ga, 0, none⟩) (la + 1) ac, .slice (some ⟨gb, 0, none⟩) nb bc, .agg #[.string file, .int .i64 f, .int .i64 t], vd] w fun e w' => GluePost (a0 ++ [⟨⟨k, s, x.t.sp, x.t.file, x.t.f, x.t.t, true⟩, x.css, -1, 0, false⟩] ++ b') ds (.slice (some ⟨ga, 0, none⟩) (la + 1) ac) B w e w' := by
  obtain ⟨ga', xa, xn, xc, ega, hox, hxc⟩ := ha.at (k := la) (x := x) (by rw [List.getElem?_append_right (by omega), hla]; simp)
  simp only [Option.some.injEq, Addr.mk.injEq, and_true] at ega
  subst ega
  obtain ⟨gb', ya, yn, yc, egb, hoy, hyc⟩ := hb.at (k := 0) (x := y) rfl
  simp only [Option.some.injEq, Addr.mk.injEq, and_true] at egb
  subst egb
  have hnb : 0 < nb := by omega
  have hlan : la ≤ 1000000 := by omega
  have hnbn : nb ≤ 1000000 := by omega
  obtain ⟨W1, hW1⟩ : ∃ W1, W1 = w.alloc (.cells #[.string file, .int .i64 f, .int .i64 t] 31) := ⟨_, rfl⟩
  have b1 : Hid (Below w.heap.size w W1) := Lib.hid (by rw [hW1]; exact (Below.refl _ w).alloc (Nat.le_refl _) _)
  have hp1 : Hid (W1.heap[w.heap.size]? = some (.cells #[.string file, .int .i64 f, .int .i64 t] 31 (0, 0))) := Lib.hid (by rw [hW1]; exact heap_alloc_new w _)
  have ha1 := Lib.hid (ha.below b1.out)
  have hb1 := Lib.hid (hb.below b1.out)
  have hd1 := Lib.hid (hd.below b1.out)
  obtain ⟨dao, dn, dc, rfl⟩ : ∃ x n c, vd = .slice x n c := by obtain ⟨x, c, h, _⟩ := hd.row; exact ⟨x, _, c, h⟩
  have HF : Hid (∀ z, Below W1.heap.size W1 z → (z.cell? ⟨ga, la * 11, none⟩ = some (.int .i64 x.t.kind) ∧ z.cell? ⟨ga, la * 11 + 1, none⟩ = some (.string x.t.text) ∧ z.cell? ⟨ga, la * 11 + 2, none⟩ = some (.bool x.t.sp) ∧ z.cell? ⟨ga, la * 11 + 3, none⟩ = some (.string x.t.file) ∧ z.cell? ⟨ga, la * 11 + 4, none⟩ = some (.int .i64 x.t.f) ∧ z.cell? ⟨ga, la * 11 + 5, none⟩ = some (.int .i64 x.t.t) ∧ z.cell? ⟨ga, la * 11 + 6, none⟩ = some (.bool x.t.made) ∧ z.cell? ⟨ga, la * 11 + 7, none⟩ = some (.slice xa xn xc)) ∧ (z.cell? ⟨gb, 0, none⟩ = some (.int .i64 y.t.kind) ∧ z.cell? ⟨gb, 1, none⟩ = some (.string y.t.text) ∧ z.cell? ⟨gb, 2, none⟩ = some (.bool y.t.sp) ∧ z.cell? ⟨gb, 3, none⟩ = some (.string y.t.file) ∧ z.cell? ⟨gb, 4, none⟩ = some (.int .i64 y.t.f) ∧ z.cell? ⟨gb, 5, none⟩ = some (.int .i64 y.t.t) ∧ z.cell? ⟨gb, 6, none⟩ = some (.bool y.t.made) ∧ z.cell? ⟨gb, 7, none⟩ = some (.slice ya yn yc))) := Lib.hid fun z hz => by
    have hw : Below w.heap.size w z := b1.out.trans (hz.mono b1.out.size)
    obtain ⟨c0, c1, c2, c3, c4, c5, c6, c7, _⟩ := hxc
    obtain ⟨e0, e1, e2, e3, e4, e5, e6, e7, _⟩ := hyc
    simp only [Nat.zero_mul, Nat.zero_add] at e0 e1 e2 e3 e4 e5 e6 e7
    exact ⟨⟨kept_cell hw c0, kept_cell hw c1, kept_cell hw c2, kept_cell hw c3, kept_cell hw c4, kept_cell hw c5, kept_cell hw c6, kept_cell hw c7⟩, kept_cell hw e0, kept_cell hw e1, kept_cell hw e2, kept_cell hw e3, kept_cell hw e4, kept_cell hw e5, kept_cell hw e6, kept_cell hw e7⟩
  have HPs : Hid (∀ z, Below W1.heap.size W1 z → Calls Tryz.prog 33 #[.agg #[.int .i64 x.t.kind, .string x.t.text, .bool x.t.sp, .string x.t.file, .int .i64 x.t.f, .int .i64 x.t.t, .bool x.t.made, .slice xa xn xc], .agg #[.int .i64 y.t.kind, .string y.t.text, .bool y.t.sp, .string y.t.file, .int .i64 y.t.f, .int .i64 y.t.t, .bool y.t.made, .slice ya yn yc]] z fun e w' => (∃ va vn vc, e = .returned (.tuple #[.agg #[.int .i64 k, .string s, .bool x.t.sp, .string x.t.file, .int .i64 x.t.f, .int .i64 x.t.t, .bool true, .slice va vn vc], .bool true]) ∧ Own w' z.heap.size 66 5 (.slice va vn vc) x.css) ∧ Below W1.heap.size W1 w' ∧ Below z.heap.size z w') := Lib.hid fun z hz => by
    have hw : Below w.heap.size w z := b1.out.trans (hz.mono b1.out.size)
    refine (sPaste_any x.t y.t (.slice xa xn xc) (.slice ya yn yc) x.css hsz z (own_siteIn (hox.below hw) hkx) ⟨_, _, _, rfl⟩).mono ?_
    rintro e w' ⟨h1, h2⟩
    unfold PastePost at h1
    rw [← hs, hno] at h1
    obtain ⟨v', h3, h4⟩ := h1
    obtain ⟨va, vc, rfl, _⟩ := h4.row
    exact ⟨⟨va, _, vc, h3, h4⟩, hz.trans (h2.mono hz.size), h2⟩
  have g1 : IntKind.i64.wrap ((la : Int) + 1 - 1) = (la : Int) := by rw [IntWalk.i64_in _ (by omega)]; omega
  have g2 : (((la : Int) + 1) == 0) = false := beq_false_of_ne (by omega)
  have g3 : ((nb : Int) == 0) = false := beq_false_of_ne (by omega)
  have g4 : (la : Int) < (la : Int) + 1 := by omega
  have g5 : (0 : Int) < nb := by omega
  have g6 : (0 : Int) ≤ (la : Int) := by omega
  replace hW1 := Lib.hid hW1
  replace hs := Lib.hid hs
  clear ha hb hd hox hxc hoy hyc
  go_enter Tryz.func86, Tryz.ntmps86
  go_upto_region 1 with fail
  rw [← hW1.out]
  go_upto_region 4 with fail
  go_cut [11, 12] from 28 to 40 (fun s11 s12 wx => ∃ g ua un uc, s11 = .pointer (some ⟨g, 0, none⟩) ∧ s12 = .bool true ∧ Hid (wx.heap[g]? = some (.cells #[.int .i64 k, .string s, .bool x.t.sp, .string x.t.file, .int .i64 x.t.f, .int .i64 x.t.t, .bool true, .slice ua un uc] 34 (0, 0))) ∧ Hid (Own wx W1.heap.size 66 5 (.slice ua un uc) x.css) ∧ Hid (Below W1.heap.size W1 wx))
  case first =>
    have hb0 := (Below.refl W1.heap.size W1).drew
    have hb0a := fun o => ((Below.refl W1.heap.size W1).alloc (Nat.le_refl _) o).drew
    have hx0a := fun o => HF.out _ (hb0a o)
    obtain ⟨⟨p0, p1, p2, p3, p4, p5, p6, p7⟩, q0, q1, q2, q3, q4, q5, q6, q7⟩ := HF.out _ hb0
    go_region_held3 (fun z : World => (z.cell? ⟨ga, la * 11, none⟩ = some (.int .i64 x.t.kind) ∧ z.cell? ⟨ga, la * 11 + 1, none⟩ = some (.string x.t.text) ∧ z.cell? ⟨ga, la * 11 + 2, none⟩ = some (.bool x.t.sp) ∧ z.cell? ⟨ga, la * 11 + 3, none⟩ = some (.string x.t.file) ∧ z.cell? ⟨ga, la * 11 + 4, none⟩ = some (.int .i64 x.t.f) ∧ z.cell? ⟨ga, la * 11 + 5, none⟩ = some (.int .i64 x.t.t) ∧ z.cell? ⟨ga, la * 11 + 6, none⟩ = some (.bool x.t.made) ∧ z.cell? ⟨ga, la * 11 + 7, none⟩ = some (.slice xa xn xc)) ∧ (z.cell? ⟨gb, 0, none⟩ = some (.int .i64 y.t.kind) ∧ z.cell? ⟨gb, 1, none⟩ = some (.string y.t.text) ∧ z.cell? ⟨gb, 2, none⟩ = some (.bool y.t.sp) ∧ z.cell? ⟨gb, 3, none⟩ = some (.string y.t.file) ∧ z.cell? ⟨gb, 4, none⟩ = some (.int .i64 y.t.f) ∧ z.cell? ⟨gb, 5, none⟩ = some (.int .i64 y.t.t) ∧ z.cell? ⟨gb, 6, none⟩ = some (.bool y.t.made) ∧ z.cell? ⟨gb, 7, none⟩ = some (.slice ya yn yc))) (first | with_reducible exact ⟨⟨p0, p1, p2, p3, p4, p5, p6, p7⟩, q0, q1, q2, q3, q4, q5, q6, q7⟩ | with_reducible exact hx0a _ | with_reducible exact hx5 | with_reducible exact hx5a _ | with_reducible exact hx8) (first | (go_at_call 33; refine (HPs.out _ hb0).mono ?_; rintro e w5 ⟨⟨ua, un, uc, rfl, ho5⟩, hb5, hbx5⟩; have hb5a := fun o => hb5.alloc hb5.size o; have hx5 := HF.out _ hb5; have hx5a := fun o => HF.out _ (hb5a o); have hT := heap_alloc_new w5 (.cells #[.int .i64 k, .string s, .bool x.t.sp, .string x.t.file, .int .i64 x.t.f, .int .i64 x.t.t, .bool true, .slice ua un uc] 34); have hO := (ho5.alloc (.cells #[.int .i64 k, .string s, .bool x.t.sp, .string x.t.file, .int .i64 x.t.f, .int .i64 x.t.t, .bool true, .slice ua un uc] 34)).mono (B' := W1.heap.size) (Nat.le_refl _); have hZ := hb5a (.cells #[.int .i64 k, .string s, .bool x.t.sp, .string x.t.file, .int .i64 x.t.f, .int .i64 x.t.t, .bool true, .slice ua un uc] 34); replace hT := Lib.hid hT; replace hO := Lib.hid hO; replace hZ := Lib.hid hZ) | (go_at_call 33; refine (HPs.out _ (hb0a _)).mono ?_; rintro e w5 ⟨⟨ua, un, uc, rfl, ho5⟩, hb5, hbx5⟩; have hz5 := (hbx5.block W1.heap.size (by simp)).trans (new_tok W1); have fr := fun j => Lib.frozen_of_heap hz5 j; obtain ⟨r0, r1, r2, r3, r4, r5, r6, r7⟩ := cells8x hz5; have hx5 := HF.out _ hb5; have hT := set8_at (b0 := .int .i64 k) (b1 := .string s) (b2 := .bool x.t.sp) (b3 := .string x.t.file) (b4 := .int .i64 x.t.f) (b5 := .int .i64 x.t.t) (b6 := .bool true) (b7 := .slice ua un uc) hz5; have hZ := set8_below (T := W1.heap.size) (b0 := .int .i64 k) (b1 := .string s) (b2 := .bool x.t.sp) (b3 := .string x.t.file) (b4 := .int .i64 x.t.f) (b5 := .int .i64 x.t.t) (b6 := .bool true) (b7 := .slice ua un uc) hb5 (Nat.le_refl _); have hO := own_set8 (T := W1.heap.size) (b0 := .int .i64 k) (b1 := .string s) (b2 := .bool x.t.sp) (b3 := .string x.t.file) (b4 := .int .i64 x.t.f) (b5 := .int .i64 x.t.t) (b6 := .bool true) (b7 := .slice ua un uc) ho5 (by simp); have hx8 := HF.out _ hZ; unfold set8 at hx8; replace hT := Lib.hid hT; replace hO := Lib.hid (hO.mono (B' := W1.heap.size) (by simp)); replace hZ := Lib.hid hZ))
    all_goals
      go_wp2_with fail
      go_meet
      case rel => exact ⟨_, ua, un, uc, rfl, rfl, hT, hO, hZ⟩
  case rest =>
    obtain ⟨g, ua, un, uc, rfl, rfl, hT, hO, hbc⟩ := hcut
    have hg2 : GQ (a0 ++ [x]) (y :: b') (.slice (some ⟨ga, 0, none⟩) (la + 1) ac) (.slice (some ⟨gb, 0, none⟩) nb bc) (.slice dao dn dc) (ds.map badV) file f t w.heap.size B w wc := by
      have hw1 : Below w.heap.size w wc := b1.out.trans (hbc.out.mono b1.out.size)
      exact ⟨ha1.out.below hbc.out, hb1.out.below hbc.out, hd1.out.below hbc.out, (hbc.out.block _ (lt_of_block hp1.out)).trans hp1.out, (Below.refl B w).trans (hw1.mono hB), fun Y u h _ => h.below hw1, hw1.size, hB⟩
    obtain ⟨p', hp'⟩ : ∃ p' : Pz, p' = ⟨⟨k, s, x.t.sp, x.t.file, x.t.f, x.t.t, true⟩, x.css, -1, 0, false⟩ := ⟨_, rfl⟩
    have hpc : pzC p' (.slice ua un uc) = [.int .i64 k, .string s, .bool x.t.sp, .string x.t.file, .int .i64 x.t.f, .int .i64 x.t.t, .bool true, .slice ua un uc, .int .i64 (-1), .int .i64 0, .bool false] := by rw [hp']; rfl
    have hq1 := Lib.hid (fun o => (hg2.alloc o).drew)
    have hlit : ∀ cs, (wc.alloc (.cells cs 118)).drew.heap[wc.heap.size]? = some (.cells cs 118 (0, 0)) := fun cs => heap_alloc_new wc (.cells cs 118)
    have hO1 : Hid (∀ o, Own (wc.alloc o).drew B 66 5 (.slice ua un uc) p'.css) := Lib.hid fun o => by
      rw [hp']
      exact (hO.out.alloc o).mono (Nat.le_trans hB b1.out.size)
    have hla' : a0.length ≤ 1000000 := by omega
    have hgab' : (Value.slice (some ⟨gb, 0, none⟩) nb bc).ownBlock = none ∨ (Value.slice (some ⟨gb, 0, none⟩) nb bc).ownBlock ≠ some ga := .inr (by simp [Value.ownBlock, hgab])
    have hlr : (a0 ++ [p']).length + b'.length ≤ 1000000 := by simp; omega
    have hTd : wc.drew.heap[g]? = some (.cells #[.int .i64 k, .string s, .bool x.t.sp, .string x.t.file, .int .i64 x.t.f, .int .i64 x.t.t, .bool true, .slice ua un uc] 34 (0, 0)) := hT.out
    obtain ⟨k0, k1, k2, k3, k4, k5, k6, k7⟩ := cells8 hTd
    replace hTd := Lib.hid hTd
    have g7 : (la : Int) ≤ (ac : Int) := by omega
    have g8 : (1 : Int) ≤ (nb : Int) := by omega
    have hb'1 : b'.length = nb - 1 := by omega
    replace hg2 := Lib.hid hg2
    replace hpc := Lib.hid hpc
    replace hlit := Lib.hid hlit
    have hlit2 : (wc.alloc (.cells #[.int .i64 k, .string s, .bool x.t.sp, .string x.t.file, .int .i64 x.t.f, .int .i64 x.t.t, .bool true, .slice ua un uc, .int .i64 (-1), .int .i64 0, .bool false] 118)).drew.heap[wc.heap.size]? = some (.cells (pzC p' (.slice ua un uc)).toArray 118 (0, 0)) := by rw [hpc.out]; exact hlit.out _
    replace hlit2 := Lib.hid hlit2
    have hT1 : Hid (∀ o, (wc.alloc o).drew.heap[g]? = some (.cells #[.int .i64 k, .string s, .bool x.t.sp, .string x.t.file, .int .i64 x.t.f, .int .i64 x.t.t, .bool true, .slice ua un uc] 34 (0, 0))) := Lib.hid fun o => (Lib.alloc_old _ _ _ (lt_of_block hT.out)).trans hT.out
    have hk1 := fun o => cells8 (hT1.out o)
    obtain ⟨r1, hr1⟩ : ∃ r1, (a0 ++ [p']).length = r1 := ⟨_, rfl⟩
    obtain ⟨r2, hr2⟩ : ∃ r2, (a0 ++ [p'] ++ b').length = r2 := ⟨_, rfl⟩
    replace hr1 := Lib.hid hr1
    replace hr2 := Lib.hid hr2
    go_upto_region 7 with fail
    by_cases hbc1 : bc = 1
    case' pos =>
      have had : Hid (b' = [] ∨ (⟨gb, 0, none⟩ : Addr) = ⟨gb, 11, none⟩) := Lib.hid (.inl (List.eq_nil_of_length_eq_zero (by omega)))
    case' neg =>
      have had : Hid (b' = [] ∨ (⟨gb, 11, none⟩ : Addr) = ⟨gb, 11, none⟩) := Lib.hid (.inr rfl)
    all_goals
      go_region_held3 (fun z : World => z.cell? ⟨g, 0, none⟩ = some (.int .i64 k) ∧ z.cell? ⟨g, 1, none⟩ = some (.string s) ∧ z.cell? ⟨g, 2, none⟩ = some (.bool x.t.sp) ∧ z.cell? ⟨g, 3, none⟩ = some (.string x.t.file) ∧ z.cell? ⟨g, 4, none⟩ = some (.int .i64 x.t.f) ∧ z.cell? ⟨g, 5, none⟩ = some (.int .i64 x.t.t) ∧ z.cell? ⟨g, 6, none⟩ = some (.bool true) ∧ z.cell? ⟨g, 7, none⟩ = some (.slice ua un uc)) (first | with_reducible exact ⟨k0, k1, k2, k3, k4, k5, k6, k7⟩ | with_reducible exact hk1 _ | with_reducible exact hk6 | with_reducible exact hk7 | fail) (first
        | (refine step_glueB rfl rfl rfl (hq1.out _) rfl rfl hlit2.out (hO1.out _) hla' hgab' ?_; intro v6 w6 hA6 hb6 hl6; obtain ⟨ao6, cp6, hv6, _⟩ := hA6.r.len; rw [hr1.out] at hv6; subst hv6; have hT6 := hl6 _ _ _ _ (hT1.out _) (by decide); have hk6 := cells8 hT6)
        | (refine step_glueC rfl rfl rfl hA6 rfl hb6 rfl hb'1 had.out hlr ?_; intro v7 w7 hA7 hl7; obtain ⟨ao7, cp7, hv7, _⟩ := hA7.r.len; rw [hr2.out] at hv7; subst hv7; have hk7 := cells8 (hl7 _ _ _ _ hT6 (by decide))))
      all_goals
        go_wp2
        go_ret2
        exact ⟨_, _, rfl, by have := hA7.r; rw [hp'] at this; simpa using this, hA7.d, hA7.low, hA7.oth⟩
end Go.Proofs.YtfaoamdlknlgpaaGreat

/- subst: glue, whole. -/
namespace Go.Proofs.YtfaoamdlknlgpaaGreat
open Go.RowKit
set_option linter.unusedVariables false

theorem getLast_snoc {α : Type} {a : List α} {x : α} (h : a.getLast? = some x) : ∃ a0, a = a0 ++ [x] ∧ a.dropLast = a0 := by
  rcases List.eq_nil_or_concat a with h0 | ⟨a0, y, h0⟩
  · rw [h0] at h; simp at h
  · have h1 : a = a0 ++ [y] := by simpa using h0
    rw [h1] at h
    simp at h
    subst h
    exact ⟨a0, h1, by rw [h1]; simp⟩

theorem sGlue_any (a b : List Pz) (va vb : Value) (file : ByteArray) (f t : Int) (vd : Value) (ds : List Bad) (B : Nat) (res : List Pz × Bool) (hg : glueZ a b = some res) (hln : a.length + b.length ≤ 1000000) (hld : ds.length ≤ 1000000) (w : World) (hB : B ≤ w.heap.size) (ha : OwnZ a B va w) (hb : OwnZ b B vb w) (hd : Own w B 68 4 vd (ds.map badV)) (hap : va.ownBlock = none ∨ va.ownBlock ≠ vb.ownBlock) (hka : ∀ p ∈ a, SitesOk p.css) :
    Calls Tryz.prog 86 #[va, vb, .agg #[.string file, .int .i64 f, .int .i64 t], vd] w fun e w' => GluePost res.1 (if res.2 then ds ++ [⟨10, file, f, t⟩] else ds) va B w e w' := by
  unfold glueZ at hg
  cases hx : a.getLast? with
  | none =>
    rw [hx] at hg
    simp only [Option.some.injEq] at hg
    subst hg
    exact glue_empty a b va vb file f t vd ds B (.inl (by simpa using hx)) hln w hB ha hb hd
  | some x =>
    cases b with
    | nil =>
      rw [hx] at hg
      simp only [Option.some.injEq] at hg
      subst hg
      exact glue_empty a [] va vb file f t vd ds B (.inr rfl) hln w hB ha hb hd
    | cons y b =>
      rw [hx] at hg
      simp only at hg
      obtain ⟨a0, h1, h2⟩ := getLast_snoc hx
      obtain ⟨aa, ac, hva, hac⟩ := ha.len
      obtain ⟨ba, bc, hvb, hbc⟩ := hb.len
      have hl : a.length = a0.length + 1 := by rw [h1]; simp
      have hkx : SitesOk x.css := hka x (by rw [h1]; simp)
      split at hg
      · cases hg
      · rename_i hsz
        cases hk : oneK (x.t.text ++ y.t.text).data.toList with
        | none =>
          rw [hk] at hg
          simp only [Option.some.injEq] at hg
          subst hg
          rw [hl] at hva
          subst hva hvb
          exact glue_none a (y :: b) a0.length (y :: b).length x y hl (by rw [h1, List.getElem?_append_right (Nat.le_refl _)]; simp) rfl rfl aa ba ac bc file f t vd ds B (by omega) hk hln hld w hB ha hb hd hkx
        | some k =>
          rw [hk] at hg
          simp only [Option.some.injEq] at hg
          subst hg
          rw [hl] at hva
          subst hva hvb
          rw [h2]
          subst h1
          obtain ⟨ga, _, _, _, ega, _⟩ := ha.at (k := a0.length) (x := x) (by rw [List.getElem?_append_right (Nat.le_refl _)]; simp)
          obtain ⟨gb, _, _, _, egb, _⟩ := hb.at (k := 0) (x := y) rfl
          subst ega egb
          have hne : gb ≠ ga := by
            rcases hap with h | h
            · simp [Value.ownBlock] at h
            · simp [Value.ownBlock] at h
              exact fun e => h e.symm
          have := glue_some a0 b a0.length (y :: b).length k x y rfl rfl ga gb hne ac bc (by rw [hl] at hac; exact hac) hbc file f t vd ds B (x.t.text ++ y.t.text) rfl (by omega) hk (by rw [hl] at hln; omega) hld w hB ha hb hd hkx
          simpa using this

/-! ## the sites of what comes -/

def ZOk (l : List Pz) : Prop := ∀ p ∈ l, SitesOk p.css

theorem glue_ok {a b : List Pz} {res : List Pz × Bool} (hg : glueZ a b = some res) (ha : ZOk a) (hb : ZOk b) : ZOk res.1 := by
  have hab : ZOk (a ++ b) := by
    intro p hp
    rcases List.mem_append.1 hp with hp | hp
    · exact ha p hp
    · exact hb p hp
  unfold glueZ at hg
  cases hx : a.getLast? with
  | none => rw [hx] at hg; simp only [Option.some.injEq] at hg; subst hg; exact hab
  | some x =>
    cases b with
    | nil => rw [hx] at hg; simp only [Option.some.injEq] at hg; subst hg; exact hab
    | cons y b =>
      rw [hx] at hg
      simp only at hg
      obtain ⟨a0, h1, h2⟩ := getLast_snoc hx
      split at hg
      · cases hg
      · split at hg
        · simp only [Option.some.injEq] at hg; subst hg; exact hab
        · simp only [Option.some.injEq] at hg
          subst hg
          intro p hp
          rw [h2] at hp
          simp only [List.mem_append, List.mem_cons] at hp
          rcases hp with hp | rfl | hp
          · exact ha p (by rw [h1]; simp [hp])
          · exact ha x (by rw [h1]; simp)
          · exact hb p (by simp [hp])

theorem arg_ok {sp : Bool} {p : Nat} {full : Bool} : ∀ {X : List Tf} {k : Nat}, (∀ x ∈ X, SitesOk x.2) → ZOk (argZ sp p full k X)
  | [], k, _ => by intro q hq; simp [argZ] at hq
  | x :: r, k, h => by
    intro q hq
    simp only [argZ, List.mem_cons] at hq
    rcases hq with rfl | hq
    · exact h x (by simp)
    · exact arg_ok (fun y hy => h y (by simp [hy])) q hq

theorem thing_ok {m : Mac} {RR FF : List (List Tf)} {S : List (List Value)} {i : Nat} {t : Tm} {l : List Pz} (h : (thingZ m RR FF S i t).1 = .body l) (hS : SitesOk S) (hR : ArgsOk RR) (hF : ArgsOk FF) : ZOk l := by
  unfold thingZ at h
  split at h
  · cases h
  · split at h
    · simp only [Thg.body.injEq] at h
      subst h
      intro p hp
      simp only [List.mem_singleton] at hp
      subst hp
      exact hS
    · split at h
      · simp only [Thg.body.injEq] at h
        subst h
        intro p hp
        simp only [List.mem_singleton] at hp
        subst hp
        exact hS
      · simp only [Thg.body.injEq] at h
        subst h
        refine arg_ok ?_
        unfold argOf
        split
        · exact fun x hx => ((hR.at _).2 x hx).2
        · exact fun x hx => ((hF.at _).2 x hx).2

/-- how long what comes of two is -/
theorem glue_len {a b : List Pz} {res : List Pz × Bool} (hg : glueZ a b = some res) : a.length + b.length ≤ res.1.length + 1 := by
  unfold glueZ at hg
  cases hx : a.getLast? with
  | none => rw [hx] at hg; simp only [Option.some.injEq] at hg; subst hg; simp
  | some x =>
    cases b with
    | nil => rw [hx] at hg; simp only [Option.some.injEq] at hg; subst hg; simp
    | cons y b =>
      rw [hx] at hg
      simp only at hg
      obtain ⟨a0, h1, h2⟩ := getLast_snoc hx
      split at hg
      · cases hg
      · split at hg
        · simp only [Option.some.injEq] at hg; subst hg; simp
        · simp only [Option.some.injEq] at hg
          subst hg
          rw [h2, h1]
          simp
          omega
end Go.Proofs.YtfaoamdlknlgpaaGreat
