/- Paths: the program's Clean. -/
import Derived.Test.YtekbilieddficaaDoorPa8
import Derived.Test.YtekbilieddficaaDoorPa9
namespace Go.Proofs.YtekbilieddficaaDoor
open Go.RowKit Go.Shelf
set_option linter.unusedVariables false
attribute [local go_sem] Oper.semAt_some

/-- 'out = append(out, x)' in a round, out of the call's own: x's cells have just been laid into a new block. -/
theorem wpListIn_append1 {F : Fence} {m : Nat} {P : Program} {w : World} {ops : Array Oper} {rest : List Oper} {o : Oper} {a : Act} {Q : Exit → Act → World → Prop} {t e : TypeId} {z : Value} {size bytes : Nat} (E : EI P t e z size bytes)
    (hgd : o.guard = none) {s x : Operand} (ho : o.op = .call { callee := .builtin .append, args := #[s, x], argTypes := #[t, t] })
    {B : Nat} {v : Value} {css : List (List Value)} (hown : Own w B e size v css) (hs : a.eval s = v)
    {news : List Value} {c g : Nat} (hx : a.eval x = .slice (some ⟨g, 0, none⟩) 1 c) (hg : g = w.heap.size) (hl : news.length = size) (h1 : ∀ u ∈ news, u.oneCell' = true)
    (hn : css.length + 1 ≤ 1000000000) (hbytes : bytes ≤ 1000) (hbase : B ≤ w.heap.size)
    (h : ∀ v' w', Own w' B e size v' (css ++ [news]) → w.grownBy w' v.ownBlock → wpListIn F m P ops Q rest (a.put o.dst v') w') :
    wpListIn F m P ops Q (o :: rest) a (w.alloc (.cells news.toArray e)) := by
  subst hg
  obtain ⟨i, hi, hz0, hz1, hz2⟩ := info_parts E.info
  have hb : (css.length + 1) * bytes ≤ 140737488355328 := by
    calc (css.length + 1) * bytes ≤ 1000000000 * 1000 := Nat.mul_le_mul hn hbytes
      _ ≤ 140737488355328 := by decide
  refine wpListIn_append_own _ hgd s x t ho B e i z size bytes E.under hi hz0 hz1 hz2 E.zs E.pos v css.length css.flatten hs (hown.1.alloc _) ⟨w.heap.size, 0, none⟩ 1 c news hx (by simpa using hl) (cells_new w news e) h1 (by unfold maxLen; omega) hb (by simp; omega) ?_
  intro v' w' h2 h3 _
  refine h v' w' ⟨by simpa using h2, ?_⟩ (grown_trans (World.grownBy_alloc w _ _) h3)
  intro c hc
  rcases List.mem_append.1 hc with hc | hc
  · exact hown.2 c hc
  · simp at hc; subst hc; exact hl

/-- what has been collected: it stands in a cell of its own -/
def ClOuts (p : List UInt8) (bl B : Nat) (pre : List ByteArray) (W : World) : Prop :=
  ∃ outs v, W.heap[bl]? = some (.cells #[v] 22 (0, 0)) ∧ Own W B 9 1 v (strs outs) ∧ Hid (CleanAt p pre.length (txs outs))

theorem clOuts_from (p : List UInt8) (bl B B' : Nat) : OwnFrom B' (ClOuts p bl B) := by
  rintro s A C row ⟨outs, v, hc, ho, hcl⟩ hg hr
  refine ⟨outs, v, (hg.block bl (lt_of_block hc) ?_).trans hc, ho.kept hg ?_, hcl⟩
  · intro e
    obtain ⟨_, o, ho, hno⟩ := hr bl e.symm
    rw [hc] at ho
    cases ho
    cases hno
  · rcases hv : v.ownBlock with _ | g
    · exact .inl rfl
    · refine .inr ?_
      intro e
      obtain ⟨c, fz, hgc⟩ := ho.size_lt g hv
      obtain ⟨_, o, ho', hno⟩ := hr g e.symm
      rw [hgc] at ho'
      cases ho'
      cases hno

/-- what is known at the label behind all -/
def BadJ (s : ByteArray) (w : World) (a1 : Act) (w1 : World) : Prop :=
  ∃ D, a1 = { tmps := #[.string s, undef, .string ⟨#[]⟩, .int .i64 0, .pointer (some ⟨w.heap.size, 0, none⟩), .string ⟨#[]⟩, undef, .string s, .func (.func 87) #[] #[.pointer (some ⟨w.heap.size + 1 + 1, 0, none⟩), .pointer (some ⟨w.heap.size + 1, 0, none⟩), .pointer (some ⟨w.heap.size + 1 + 2, 0, none⟩)], undef, undef, undef, undef, undef, undef, undef, undef, undef, undef, undef, undef, undef, undef, undef, undef, undef, undef, undef, undef, undef, undef, undef, undef, undef, undef, undef, undef, undef], defers := [{ target := .collected D, args := #[] }] } ∧
    cleanP s.data.toList = none ∧ Below w.heap.size w w1 ∧ w1.heap[D]? = some (.deferred (some [])) ∧ w.heap.size + 4 ≤ D

theorem bsl_get {p : List UInt8} {pre : List ByteArray} {x : ByteArray} (h : (pre ++ [x]) <+: bsl (partsL p)) : (partsL p)[pre.length]? = some x.data.toList := by
  obtain ⟨r, hr⟩ := h
  have h1 : (bsl (partsL p))[pre.length]? = some x := by rw [← hr]; simp
  unfold bsl at h1
  rw [List.getElem?_map] at h1
  cases hg : (partsL p)[pre.length]? with
  | none => rw [hg] at h1; simp at h1
  | some l =>
    rw [hg] at h1
    simp only [Option.map_some, Option.some.injEq] at h1
    rw [← h1]

set_option maxRecDepth 100000 in
set_option maxHeartbeats 4000000 in
theorem pclean_any (s : ByteArray) (hs : s.size ≤ 90000) (w : World) : Calls Tryd.prog 60 #[.string s] w fun e w' => CleanOf s.data.toList e ∧ Below w.heap.size w w' := by
  have HS : Hid (s.data.toList.length = s.size) := Lib.hid (Lib.size_eq s).symm
  refine (callsIn_wide (n := 2)).1 ?_
  refine callsIn_of_wp_marks Tryd.func60 rfl trivial ?_ rfl
  simp only [Tryd.ntmps60, List.size_toArray, List.length_cons, List.length_nil, Nat.reduceAdd, Nat.reduceSub, Array.replicate_succ, Array.replicate_zero, List.push_toArray, List.append_toArray, List.nil_append, List.cons_append]
  refine wpIn_wide.2 ?_
  have HSp := Lib.hid (splitSeq_any s (w.alloc (.cells #[.slice none 0 0] 22)))
  go_wp2_with fail
  refine wp_scope_jumps 0 (BadJ s w) (fun _ _ => 0) rfl ?first ?pass
  case first =>
    go_wp2_with fail
    refine HSp.out.mono ?_
    rintro e W0 ⟨rfl, hW0⟩
    have hsz0 : W0.heap.size = w.heap.size + 4 := by rw [hW0]; simp
    have hB0 : Below w.heap.size w W0 := by rw [hW0]; exact below_three w _ _ _ _
    have hc0 : W0.heap[w.heap.size]? = some (.cells #[.slice none 0 0] 22 (0, 0)) := by
      rw [hW0]
      exact (Lib.alloc_old _ _ _ (by simp <;> omega)).trans ((Lib.alloc_old _ _ _ (by simp <;> omega)).trans ((Lib.alloc_old _ _ _ (by simp)).trans (heap_alloc_new w _)))
    have hA0 : SeqAt (w.heap.size + 1) s W0 := by
      rw [hW0]
      refine ⟨?_, ?_, ?_⟩
      · refine (Lib.alloc_old _ _ _ (by simp <;> omega)).trans ((Lib.alloc_old _ _ _ (by simp)).trans ?_)
        have := heap_alloc_new (w.alloc (.cells #[.slice none 0 0] 22)) (.cells #[.string s] 9)
        simpa using this
      · refine (Lib.alloc_old _ _ _ (by simp)).trans ?_
        have := heap_alloc_new ((w.alloc (.cells #[.slice none 0 0] 22)).alloc (.cells #[.string s] 9)) (.cells #[.string ⟨#[47]⟩] 9)
        simpa using this
      · have := heap_alloc_new (((w.alloc (.cells #[.slice none 0 0] 22)).alloc (.cells #[.string s] 9)).alloc (.cells #[.string ⟨#[47]⟩] 9)) (.cells #[.int .i64 0] 3)
        simpa using this
    have hcs := split_self s (by omega) (w.heap.size + 1) W0 hA0
    rw [World.size_alloc]
    replace hW0 := Lib.hid hW0
    replace hA0 := Lib.hid hA0
    replace hsz0 := Lib.hid hsz0
    go_wp2_with fail
    refine (wpIn_wide (n := 2)).1 ?_
    refine wp_rangeFunc_self (gf := 87) rfl (enters_of Tryd.func87 (by kernel_rfl) rfl) (by rw [hsz0.out]; omega) hcs (fun _ => rfl)
      (fun pre W => ClOuts s.data.toList w.heap.size (w.heap.size + 4) pre W ∧ Below w.heap.size w W)
      (fun c pre W => (c = .goto 0 ∧ cleanP s.data.toList = none) ∧ Below w.heap.size w W)
      (OwnFrom.and (clOuts_from _ _ _ _) (ownFrom_below (Nat.le_refl _) (by rw [hsz0.out]; omega)))
      (fun c => OwnFrom.and (fun _ _ _ _ hs _ _ => hs) (ownFrom_below (Nat.le_refl _) (by rw [hsz0.out]; omega)))
      (fun pre A u h => ⟨by
        obtain ⟨outs, v, hc, ho, hcl⟩ := h.1
        exact ⟨outs, v, (Below.heap_setCell _ _ _ _ (by simp)).trans hc, ho.setBelow (by omega) u, hcl⟩, h.2.setCell (by simp) _⟩)
      ⟨⟨[], _, hc0, Own.nil _ _ _ _, Lib.hid (CleanAt.zero _)⟩, hB0⟩
      (fun x => { tmps := #[.string s, undef, .string ⟨#[]⟩, .int .i64 0, .pointer (some ⟨w.heap.size, 0, none⟩), .string ⟨#[]⟩, .string x, .string s, .func (.func 87) #[] #[.pointer (some ⟨w.heap.size + 1 + 1, 0, none⟩), .pointer (some ⟨w.heap.size + 1, 0, none⟩), .pointer (some ⟨w.heap.size + 1 + 2, 0, none⟩)], .string x, undef, undef, undef, undef, undef, undef, undef, undef, undef, undef, undef, undef, undef, undef, undef, undef, undef, undef, undef, undef, undef, undef, undef, undef, undef, undef, undef, undef], defers := [] }) ?assign ?body ?done ?stop
    case assign =>
      intro l x W K hK
      gi_wp2
      exact hK
    case body =>
      rintro l pre x W ⟨⟨outs, v, hcl, hown, hat⟩, hB⟩ hpre hlt
      have hxk := bsl_get hpre
      have hlen : outs.length ≤ 100000 := by
        have h1 := hat.out.cost
        have h2 := costP_len (txs outs)
        rw [HS.out] at h1
        have h3 : (txs outs).length = outs.length := by simp [txs]
        omega
      replace hpre := Lib.hid hpre
      replace hcs := Lib.hid hcs
      rw [hsz0.out] at hlt
      have hcell : W.cell? ⟨w.heap.size, 0, none⟩ = some v := by simpa using Lib.cell_of_heap hcl 0
      have hfz : W.frozen? ⟨w.heap.size, 0, none⟩ = false := Lib.frozen_of_heap hcl 0
      replace hcl := Lib.hid hcl
      by_cases h1 : x.data.toList = []
      · obtain rfl := str_lit h1
        have hn1 := Lib.hid (hat.out.skip hxk (.inl rfl))
        clear hxk h1 hat
        gi_wp2
        exact ⟨KeepsOthers.refl _, Kept3.refl _ _, ⟨outs, v, hcl.out, hown, by rw [List.length_append]; exact hn1⟩, hB⟩
      · by_cases h2 : x.data.toList = [46]
        · obtain rfl := str_lit h2
          have hn1 := Lib.hid (hat.out.skip hxk (.inr rfl))
          clear hxk h1 h2 hat
          gi_wp2
          exact ⟨KeepsOthers.refl _, Kept3.refl _ _, ⟨outs, v, hcl.out, hown, by rw [List.length_append]; exact hn1⟩, hB⟩
        · by_cases h3 : x.data.toList = [46, 46]
          · obtain rfl := str_lit h3
            by_cases h0 : outs = []
            · subst h0
              have hf := Lib.hid (hat.out.fail hxk rfl)
              obtain ⟨bo, bc, rfl, hbc, _, _, _⟩ := hown.rown (n := 0) (by simp [strs])
              clear hxk h1 h2 h3 hat
              gi_wp2
              refine wpIn_goto ?_
              exact ⟨KeepsOthers.refl _, ⟨rfl, hf.out⟩, hB⟩
            · have hn1 := Lib.hid (hat.out.up hxk rfl (by intro h; apply h0; simpa [txs] using h))
              obtain ⟨m, hm⟩ : ∃ m, outs.length = m + 1 := ⟨outs.length - 1, by have := List.length_pos_iff.2 h0; omega⟩
              obtain ⟨g, bc, rfl, hgb⟩ : ∃ g bc, v = .slice (some ⟨g, 0, none⟩) (m + 1) bc ∧ m + 1 ≤ bc ∧ bc ≤ maxLen := by
                rcases hown.1.2 with ⟨_, h⟩ | ⟨g, bc, cur, hv, _, _, h4, h5, _⟩
                · rw [strs_len, hm] at h; omega
                · rw [strs_len, hm] at hv h4; exact ⟨g, bc, hv, h4, h5⟩
              obtain ⟨hgb1, hgb2⟩ := hgb
              have hop := own_pop hown
              rw [← strs_drop] at hop
              rw [← txs_drop] at hn1
              clear hxk h1 h2 h3 hat hm h0 hown
              unfold maxLen at hgb2
              gi_wp2
              exact ⟨KeepsOthers.setCell _ _ _, fun k k1 _ => Below.heap_setCell _ _ _ _ (by simp only; omega), ⟨outs.dropLast, _, one_setCell hcl.out, hop.setBelow (by omega) _, by rw [List.length_append]; exact hn1⟩, hB.setCell (by simp) _⟩
          · have hn1 := hat.out.more hxk h1 h2 h3
            rw [← Lib.toList_data] at h1 h2 h3
            have e1 : x.toList.isEmpty = false := by simpa using h1
            have e2 : (x.toList == [46]) = false := by simpa using h2
            have e3 : (x.toList == [46, 46]) = false := by simpa using h3
            have hlenO : (strs outs).length + 1 ≤ 1000000000 := by rw [strs_len]; omega
            have hWs : w.heap.size + 4 ≤ W.heap.size := hlt
            replace hn1 := Lib.hid hn1
            obtain ⟨m, hm⟩ : ∃ m, m = outs.length := ⟨_, rfl⟩
            have HM : Hid (outs.length = m) := Lib.hid hm.symm
            obtain ⟨bo, bc, rfl, hbc, hbm, _, _⟩ := hown.rown (n := m) (by rw [strs_len, hm])
            clear hxk hat hm
            gi_wp2_with (gi_at_builtin; go_must (refine wpListIn_append1 E9 rfl rfl hown rfl rfl (news := [.string x]) (by simp) rfl (by simp [Value.oneCell']) hlenO (by decide) hWs ?_); intro v9 w9 hown9 hg9; obtain ⟨bo9, bc9, rfl, _, _, _, _⟩ := hown9.rown (n := m + 1) (by rw [List.length_append, strs_len, HM.out]; rfl); have hcl9 := (hg9.block w.heap.size (by omega) (fun e => by have := hown.ge _ e.symm; omega)).trans hcl.out; have c9 := cell_of_one hcl9; have z9 := free_of_one hcl9; replace hcl9 := Lib.hid hcl9)
            have hown10 : Own w9 (w.heap.size + 4) 9 1 (.slice bo9 (m + 1) bc9) (strs (outs ++ [x])) := by rw [strs_app]; exact hown9
            refine ⟨(KeepsOthers.of_grownBy hg9 ?_).trans (KeepsOthers.setCell _ _ _), fun k k1 k2 => (Below.heap_setCell _ _ _ _ (by simp only; omega)).trans (hg9.block k (by omega) (fun e => by have := hown.ge _ e.symm; omega)), ⟨outs ++ [x], _, one_setCell hcl9.out, hown10.setBelow (by omega) _, by rw [List.length_append, txs_app]; exact hn1⟩, (hB.grown hg9 (by omega) (fun k e => by have := hown.ge _ e; omega)).setCell (by simp) _⟩
            intro j o' ej ho'
            obtain ⟨c, fz, hgc⟩ := hown.size_lt j ej
            rw [hgc] at ho'
            cases ho'
            rfl
    case done =>
      rintro D W hD ⟨⟨outs, v, hcl, hown, hat⟩, hB⟩ hK
      have hcell : W.cell? ⟨w.heap.size, 0, none⟩ = some v := by simpa using Lib.cell_of_heap hcl 0
      replace hcs := Lib.hid hcs
      replace hcl := Lib.hid hcl
      obtain ⟨m, hm⟩ : ∃ m, m = outs.length := ⟨_, rfl⟩
      have HM : Hid (outs.length = m) := Lib.hid hm.symm
      obtain ⟨bo, bc, rfl, hbc, hbm, hrw, _⟩ := hown.rown (n := m) (by rw [strs_len, hm])
      have hcost := hat.out.cost
      rw [HS.out] at hcost
      have hfin := hat.out.done (by simp [bsl])
      have HJ := Lib.hid (sjoin_any outs (by omega) bo m bc HM.out hbc hbm W hrw)
      have hjl := joinP_cost (txs outs)
      replace hfin := Lib.hid hfin
      rw [hsz0.out] at hD
      have hDW := lt_of_block hK
      clear hat hm hown hrw
      go_wp2_with fail
      refine HJ.out.mono ?_
      rintro e W5 ⟨⟨r, rfl, hr⟩, hb5⟩
      have hrz : r.size ≤ 100000 := by rw [Lib.size_eq, hr]; omega
      have HV := pvalid_any r hrz W5
      obtain ⟨b, hbb⟩ : ∃ b, b = decide (ValidP r.data.toList) := ⟨_, rfl⟩
      rw [← hbb] at HV
      replace HV := Lib.hid HV
      have hres : Hid (cleanP s.data.toList = if b = true then some r.data.toList else none) := Lib.hid (by rw [hfin.out, ← hr, hbb]; simp)
      replace hbb := Lib.hid hbb
      replace hr := Lib.hid hr
      clear hcell
      go_wp2_with fail
      refine HV.out.mono ?_
      rintro e W6 ⟨rfl, hb6⟩
      have hb7 := hb5.trans (hb6.mono hb5.size)
      have hK6 := (hb7.block D hDW).trans hK
      have hB6 := hB.trans (hb7.mono hB.size)
      have hBf := hB6.trans (belowK_b (w := w) (Nat.le_refl _) W6 D _ (.deferred none) (by omega) hK6 rfl rfl)
      cases b with
      | true =>
        go_wp2
        refine ⟨by simp, .inl ⟨_, _, rfl, run_takeDeferred hK6, ?_⟩⟩
        exact ⟨_, results_tmp2 rfl _ _ _, ⟨r, 0, rfl, .inl ⟨hres.out, rfl⟩⟩, hBf⟩
      | false =>
        go_wp2
        refine wp_label ?_
        go_wp2
        refine ⟨by simp, .inl ⟨_, _, rfl, run_takeDeferred hK6, ?_⟩⟩
        exact ⟨_, results_tmp2 rfl _ _ _, ⟨⟨#[]⟩, 1, rfl, .inr ⟨hres.out, rfl, rfl⟩⟩, hBf⟩
    case stop =>
      rintro D c pre W hD hpre ⟨⟨rfl, hin⟩, hB⟩ hK
      refine wpIn_wide.2 ?_
      replace hcs := Lib.hid hcs
      replace hpre := Lib.hid hpre
      rw [hsz0.out] at hD
      go_wp2_with fail
      refine wp_goto ?_
      exact ⟨rfl, D, rfl, hin, hB, hK, hD⟩
  case pass =>
    rintro a1 w1 ⟨D, rfl, hn, hB, hK, hD⟩
    replace hn := Lib.hid hn
    go_wp2
    refine ⟨by simp, .inl ⟨_, _, rfl, run_takeDeferred hK, ?_⟩⟩
    exact ⟨_, results_tmp2 rfl _ _ _, ⟨⟨#[]⟩, 1, rfl, .inr ⟨hn.out, rfl, rfl⟩⟩, hB.trans (belowK_b (w := w) (Nat.le_refl _) w1 D _ _ (by omega) hK rfl rfl)⟩
end Go.Proofs.YtekbilieddficaaDoor
