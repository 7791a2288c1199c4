/- Trees: Size, Leaves. -/
import Derived.Test.YtcafiaoinonpgaaTree4
import Derived.Deep.AppendLies
import Derived.Deep.RegionLaw
namespace Go.Proofs.Ytcafiaoinonpgaa
open Go.RowKit
set_option linter.unusedVariables false

theorem own_kt0 {w w' : World} {B e e' sz : Nat} {v : Value} {css : List (List Value)} (h : Own w B e sz v css) (he : e ≠ e') (hk : Lib.OthersKept e' none w w') : Own w' B e sz v css := by
  refine ⟨⟨h.1.1, ?_⟩, h.2⟩
  rcases h.1.2 with h0 | ⟨g, cap, cur, hv, hg1, hg, r⟩
  · exact .inl h0
  · refine .inr ⟨g, cap, cur, hv, hg1, hk g _ hg (by simp) ?_, r⟩
    intro c fz e1
    injection e1 with _ e2 _
    exact he e2

def SizeI (c : Nat) (done : List T) (w : World) : Prop := w.heap[c]? = some (.cells #[.int .i64 done.length] 3 (0, 0))

set_option maxRecDepth 100000 in
theorem size_does (W : World) (B c : Nat) (hc : B ≤ c) : Does W B c 34 (SizeI c) where
  cell := by
    intro done w h x fz e
    unfold SizeI at h
    rw [h] at e
    simp at e
  keeps := by
    intro done w w' h _ hk
    exact hk c _ h (by simp) (by simp)
  call := by
    intro done x cx pb po w hn hI hk hrep hp
    have hcell : w.cell? ⟨c, 0, none⟩ = some (.int .i64 done.length) := Lib.cell_of_heap hI 0
    have hnf : w.frozen? ⟨c, 0, none⟩ = false := free_of_one hI
    go_enter Try.func34, Try.ntmps34
    go_wp2
    go_end0
    refine ⟨rfl, ?_, (Below.refl _ _).setCell hc _, Lib.OthersKept.setCell (b := c) (Lib.OthersKept.refl _ _ _) ⟨c, 0, none⟩ rfl _⟩
    have := one_setCell (u := .int .i64 ((done ++ [x]).length : Nat)) hI
    simpa [SizeI] using this

theorem good_new (w : World) (t : T) (cs : List Value) (F : Nat → Prop) (hr : Rep w F t cs) (o : Obj) (c : Nat) : Good ((w.alloc (.cells cs.toArray 40)).alloc o) (w.heap.size + 1) c (w.heap.size, 0) t := by
  refine ⟨cs, (hr.wide (G := (· < w.heap.size + 1)) (fun k _ hk => by omega)).later (KeptOn.of_below (two_new w _ _)), fun w' hk j u hu => ?_⟩
  rw [hk.below.cell (p := ⟨w.heap.size, 0 + j, none⟩) (Nat.lt_succ_self _), Nat.zero_add]
  exact kept_cell ((Below.refl _ (w.alloc (.cells cs.toArray 40))).alloc (Nat.le_refl _) _) (cell_new w cs _ hu)

set_option maxHeartbeats 2000000 in
set_option maxRecDepth 100000 in
theorem tSize_any (t : T) (cs : List Value) (F : Nat → Prop) (w : World) (hrep : Rep w F t cs) (hs : (T.pre t).length ≤ 1000000) :
    Calls Try.prog 20 #[.agg cs.toArray] w fun e w' => e = .returned (.int .i64 (T.size t)) ∧ Below w.heap.size w w' := by
  have hg := fun o => good_new w t cs F hrep o (w.heap.size + 1)
  have hE := each_Size ((w.alloc (.cells cs.toArray 40)).alloc (.cells #[.int .i64 0] 3)) (w.heap.size + 1) (w.heap.size + 1) (SizeI (w.heap.size + 1)) (size_does _ _ _ (Nat.le_refl _)) (by simp) t w.heap.size 0 (hg _) (by
    have := heap_alloc_new (w.alloc (.cells cs.toArray 40)) (.cells #[.int .i64 0] 3)
    simpa [SizeI] using this) hs
  have HE := Lib.hid hE
  have HT := Lib.hid (two_new w)
  have HZ := Lib.hid (T.size_pre t)
  clear hE hg
  cases hrep with
  | @mk k x f o ks ao cap css hks hrow hc =>
    clear hks hrow
    go_enter Try.func20, Try.ntmps20
    go_wp2_with fail
    refine HE.out.mono ?_
    rintro e w2 ⟨rfl, hi2, hb2⟩
    have hcell : w2.cell? ⟨w.heap.size + 1, 0, none⟩ = some (.int .i64 (T.pre (.mk k x f o ks)).length) := cell_of_one hi2
    have hnf : w2.frozen? ⟨w.heap.size + 1, 0, none⟩ = false := free_of_one hi2
    have hi3 := one_setCell (u := .int .i64 (T.pre (.mk k x f o ks)).length) hi2
    have hcell3 := cell_of_one hi3
    go_wp2
    refine bodyPost_ret (v := .int .i64 (T.pre (.mk k x f o ks)).length) (by simp [results, go_sem, hcell3]) rfl ?_
    refine ⟨by rw [HZ.out], ?_⟩
    have h1 : Below w.heap.size w w2 := (HT.out _ _).trans (hb2.mono (by omega))
    exact h1.setCell (by simp) _

/-- an append of one element at a step of a region that draws its order; its cells lie in a block of their own -/
theorem step_append1 {P : Program} {w : World} {ops : Array Oper} {o : Oper} {a : Act} {K : Act → World → Prop} {Q : Exit → Act → World → Prop} {Z : Prop} {t e : TypeId} {z : Value} {size bytes : Nat} (E : EI P t e z size bytes)
    (hgd : o.guard = none) {s x : Operand} (ho : o.op = .call { callee := .builtin .append, args := #[s, x], argTypes := #[t, t] })
    {B : Nat} {v : Value} {css : List (List Value)} (hown : Own w B e size v css) (hs : a.eval s = v)
    {news : List Value} {c g : Nat} (hx : a.eval x = .slice (some ⟨g, 0, none⟩) 1 c) (hg : w.heap[g]? = some (.cells news.toArray e (0, 0))) (hl : news.length = size) (h1 : ∀ u ∈ news, u.oneCell' = true)
    (hn : css.length + 1 ≤ 1000000000) (hbytes : bytes ≤ 1000) (hbase : B ≤ w.heap.size)
    (h : ∀ v' w', Own w' B e size v' (css ++ [news]) → w.grownBy w' v.ownBlock → K (a.put o.dst v') w') :
    if Region.wanted o (yielded ops a.tmps) = true then Oper.wp P o a w K Q else Z := by
  obtain ⟨i, hi, hz0, hz1, hz2⟩ := info_parts E.info
  have hb : (css.length + 1) * bytes ≤ 140737488355328 := by
    calc (css.length + 1) * bytes ≤ 1000000000 * 1000 := Nat.mul_le_mul hn hbytes
      _ ≤ 140737488355328 := by decide
  refine step_append_lies w hgd s x t ho B e i z size bytes E.under hi hz0 hz1 hz2 E.zs E.pos v css.length css.flatten hs hown.1 ⟨g, 0, none⟩ 1 c news hx (by simpa using hl) ?_ h1 (by decide) (by unfold maxLen; omega) hb hbase _ rfl ?_
  · intro j u hj
    rw [Addr.add_lit, Lib.cell_of_heap hg]
    simpa using hj
  · intro g' cap w' h2 h3 _ _
    refine h _ w' ⟨by simpa using h2, ?_⟩ h3
    intro c hc
    rcases List.mem_append.1 hc with hc | hc
    · exact hown.2 c hc
    · simp at hc; subst hc; exact hl

theorem leaf_step {w w2 : World} {c : Nat} {o o1 : Obj} {r : Option Nat} (h : w.heap[c]? = some o1) (hne : r ≠ some c) (hg : (w.drew.alloc o).grownBy w2 r) : w2.heap[c]? = some o1 := by
  have hlt : c < w.heap.size := lt_of_block h
  rw [hg.block c (by simp; exact Nat.lt_succ_of_lt hlt) (fun e => hne e.symm)]
  exact (Lib.alloc_old w.drew o c hlt).trans h

theorem Own.setOther {w : World} {B e t sz c : Nat} {v : Value} {css : List (List Value)} (h : Own w B e sz v css) {x : Array Value} {fz : Nat × Nat} (hc : w.heap[c]? = some (.cells x t fz)) (hte : t ≠ e) (j : Nat) (u : Value) : Own (w.setCell ⟨c, j, none⟩ u) B e sz v css := by
  refine ⟨ownsRow_setCell_other h.1 ?_ _, h.2⟩
  intro hk
  obtain ⟨y, fz', hy⟩ := h.size_lt c hk
  rw [hc] at hy
  simp at hy
  exact hte hy.2.1

def LeafI (B c : Nat) (done : List T) (w : World) : Prop := ∃ v, w.heap[c]? = some (.cells #[v] 48 (0, 0)) ∧ Own w B 3 1 v ((done.flatMap T.leaf).map fun i => [.int .i64 i])

theorem E3 : EI Try.prog 48 3 (.int .i64 0) 1 8 := ⟨Try.underlying48, by kernel_rfl, rfl, by decide⟩

theorem leaf_len (l : List T) : (l.flatMap T.leaf).length ≤ l.length := by
  induction l with
  | nil => simp
  | cons x l ih =>
    have : (T.leaf x).length ≤ 1 := by unfold T.leaf; split <;> simp
    rw [List.flatMap_cons, List.length_append, List.length_cons]; omega

set_option maxHeartbeats 2000000 in
set_option maxRecDepth 100000 in
theorem leaf_does (W : World) (B c : Nat) (hc : B ≤ c) : Does W B c 38 (LeafI B c) where
  cell := by
    rintro done w ⟨v, h, _⟩ x fz e
    rw [h] at e
    simp at e
  keeps := by
    rintro done w w' ⟨v, h, ho⟩ _ hk
    exact ⟨v, hk c _ h (by simp) (by simp), own_kt0 ho (by decide) hk⟩
  call := by
    rintro done x cx pb po w hn ⟨v, h, ho⟩ hk hrep hp
    have hcell : w.cell? ⟨c, 0, none⟩ = some v := cell_of_one h
    have hnf : w.frozen? ⟨c, 0, none⟩ = false := free_of_one h
    have hll := leaf_len done
    obtain ⟨kk, tt, ff, oo, ks⟩ := x
    cases hrep with
    | @mk _ _ _ _ _ ao5 cap5 css5 hks hrow5 hc5 =>
      have c1 := hp 1 _ rfl
      have c2 := hp 2 _ rfl
      have c4 := hp 4 _ rfl
      clear hks hrow5 hp hk
      by_cases h0 : ks.length = 0
      · have hks : ks = [] := List.eq_nil_of_length_eq_zero h0
        subst hks
        clear h0
        simp only [List.length_nil] at c4
        by_cases h1 : tt.size = 0
        · have hte : tt.toList.isEmpty = true := by rw [bempty]; simpa using h1
          go_enter Try.func38, Try.ntmps38
          go_wp2
          go_end0
          refine ⟨rfl, ⟨v, h, ?_⟩, Below.refl _ _, Lib.OthersKept.refl _ _ _⟩
          simpa [T.leaf, T.kids, T.text, h1] using ho
        · have hte : tt.toList.isEmpty = false := by rw [bempty]; simpa using h1
          have hne : v.ownBlock ≠ some c := by
            intro hk
            obtain ⟨y, fz, hy⟩ := ho.size_lt c hk
            rw [h] at hy
            simp at hy
          have hwc : c < w.heap.size := lt_of_block h
          have hBw : B ≤ w.heap.size := by omega
          go_enter Try.func38, Try.ntmps38
          go_wp2_with fail
          go_region_law (refine step_append1 E3 rfl rfl (ho.drew.alloc _) rfl rfl (heap_alloc_new _ _) rfl (by simp [Value.oneCell']) (by rw [List.length_map]; omega) (by decide) (by simp; omega) ?_; intro v2 w2 hown2 hg2; have h2 := leaf_step h hne hg2; have hc2 := cell_of_one h2; have hf2 := free_of_one h2; have h3 := fun u => one_setCell (u := u) h2; obtain ⟨ao2, cap2, rfl, _⟩ := hown2.row)
          all_goals (go_wp2; go_end0)
          all_goals
            refine ⟨rfl, ⟨_, h3 _, ?_⟩, ?_, ?_⟩
            · refine ⟨ownsRow_setCell_other ?_ ?_ _, ?_⟩
              · simpa [T.leaf, T.kids, T.text, T.from_, h1] using hown2.1
              · intro hk2
                obtain ⟨y, fz, hy⟩ := hown2.size_lt c (by cases ao2 <;> first | exact hk2 | (simp [Value.ownBlock] at hk2))
                rw [h2] at hy
                simp at hy
              · simpa [T.leaf, T.kids, T.text, T.from_, h1] using hown2.2
            · exact (bapp (((Below.refl B w).drew).alloc hBw _) (ho.drew.alloc _) hg2 (by simp; omega)).setCell hc _
            · exact Lib.OthersKept.setCell (b := c) (((Lib.OthersKept.refl _ _ w).drew.alloc _).grown hg2 (ho.drew.alloc _).size_lt) ⟨c, 0, none⟩ rfl _
      · have h0' : ((ks.length : Int) == 0) = false := by simp; exact fun e => h0 (by simp [e])
        go_enter Try.func38, Try.ntmps38
        go_wp2
        go_end0
        refine ⟨rfl, ⟨v, h, ?_⟩, Below.refl _ _, Lib.OthersKept.refl _ _ _⟩
        simpa [T.leaf, T.kids, T.text, h0] using ho

set_option maxHeartbeats 2000000 in
set_option maxRecDepth 100000 in
theorem tLeaves_any (t : T) (cs : List Value) (F : Nat → Prop) (w : World) (hrep : Rep w F t cs) (hs : (T.pre t).length ≤ 1000000) :
    Calls Try.prog 24 #[.agg cs.toArray] w fun e w' => ∃ v, e = .returned v ∧ Own w' w.heap.size 3 1 v ((T.leaves t).map fun i => [.int .i64 i]) ∧ Below w.heap.size w w' := by
  have hg := fun o => good_new w t cs F hrep o (w.heap.size + 1)
  have hE := each_Leaves ((w.alloc (.cells cs.toArray 40)).alloc (.cells #[.slice none 0 0] 48)) (w.heap.size + 1) (w.heap.size + 1) (LeafI (w.heap.size + 1) (w.heap.size + 1)) (leaf_does _ _ _ (Nat.le_refl _)) (by simp) t w.heap.size 0 (hg _) ⟨_, by
    have := heap_alloc_new (w.alloc (.cells cs.toArray 40)) (.cells #[.slice none 0 0] 48)
    simpa using this, Own.nil _ _ _ _⟩ hs
  have HE := Lib.hid hE
  have HT := Lib.hid (two_new w)
  have HZ := Lib.hid (T.leaves_pre t)
  clear hE hg
  cases hrep with
  | @mk k x f o ks ao cap css hks hrow hc =>
    clear hks hrow
    go_enter Try.func24, Try.ntmps24
    go_wp2_with fail
    refine HE.out.mono ?_
    rintro e w2 ⟨rfl, ⟨v, hi2, ho2⟩, hb2⟩
    obtain ⟨N, hN⟩ : ∃ N, ((T.pre (.mk k x f o ks)).flatMap T.leaf |>.map fun i => [Value.int .i64 i]).length = N := ⟨_, rfl⟩
    obtain ⟨ao2, cap2, rfl, _⟩ := ho2.rown hN
    clear hN
    have hcell := cell_of_one hi2
    have hnf := free_of_one hi2
    have hi3 := fun u => one_setCell (u := u) hi2
    have hcell3 := fun u => cell_of_one (hi3 u)
    go_wp2
    refine bodyPost_ret (v := _) (by simp [results, go_sem, hcell3]; rfl) rfl ?_
    refine ⟨_, rfl, ?_, ?_⟩
    · rw [HZ.out]
      exact (ho2.setOther hi2 (by decide) 0 _).mono (B := w.heap.size + 1) (Nat.le_succ _)
    · have h1 : Below w.heap.size w w2 := (HT.out _ _).trans (hb2.mono (by omega))
      exact h1.setCell (by simp) _
end Go.Proofs.Ytcafiaoinonpgaa
