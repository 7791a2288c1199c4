/- Trees: At. -/
import Derived.Test.YtcafiaoinonpgaaTree5
namespace Go.Proofs.Ytcafiaoinonpgaa
open Go.RowKit
set_option linter.unusedVariables false

open Classical in
theorem wp_scope_ghost {P : Program} {a : Act} {w : World} {Q : Exit → Act → World → Prop} {c rest : Code} (l : Nat) (J : Nat → Act → World → Prop) (hf : findLabel c l = some (.seq .skip rest))
    (first : (Hid (∀ n a w, J n a w → rest.wp P (Exit.jump l (fun a w => ∃ n, J n a w) Q) a w)) → c.wp P (Exit.jump l (fun a w => ∃ n, J n a w) Q) a w)
    (pass : ∀ n a w, J n a w → rest.wp P (Exit.jump l (fun a' w' => ∃ n', n' < n ∧ J n' a' w') Q) a w) : (Code.scope c).wp P Q a w := by
  refine wp_scope_loop l (fun a w => ∃ n, J n a w) (fun a w => leastOf (fun n => J n a w)) hf ?_ ?_
  · intro h
    exact first (Lib.hid (fun n a w hj => h.out a w ⟨n, hj⟩))
  · rintro a w hj
    have hl := leastOf_spec hj
    refine Code.wp_mono ?_ (pass _ a w hl.1)
    intro e a' w' q
    cases e <;> first
      | exact q
      | exact ⟨q.1, ⟨_, q.2.choose_spec.2⟩, Nat.lt_of_le_of_lt ((leastOf_spec ⟨_, q.2.choose_spec.2⟩).2 _ q.2.choose_spec.2) q.2.choose_spec.1⟩

set_option maxRecDepth 100000 in
theorem tHas_any (x : T) (cs : List Value) (F : Nat → Prop) (w : World) (b : Nat) (tok : Int) (hrep : Rep w F x cs) (hb : w.cell? ⟨b, 0, none⟩ = some (.int .i64 tok)) :
    Calls Try.prog 36 #[.agg cs.toArray, .pointer (some ⟨b, 0, none⟩)] w fun e w' => e = .returned (.bool (decide (x.has tok))) ∧ Below w.heap.size w w' := by
  cases hrep with
  | @mk k t f o ks ao cap css hks hrow hc =>
    have hb1 := fun o => kept_cell ((Below.refl _ w).alloc (Nat.le_refl _) o) hb
    clear hks hrow
    by_cases h1 : f ≤ tok
    · by_cases h2 : tok < o
      · go_enter Try.func36, Try.ntmps36
        go_wp2
        go_ret
        refine ⟨by simp [T.has, T.from_, T.to_, h1, h2], (Below.refl _ w).alloc (Nat.le_refl _) _⟩
      · go_enter Try.func36, Try.ntmps36
        go_wp2
        go_ret
        refine ⟨by simp [T.has, T.from_, T.to_, h1, h2], (Below.refl _ w).alloc (Nat.le_refl _) _⟩
    · go_enter Try.func36, Try.ntmps36
      go_wp2
      go_ret
      have hd : decide ((T.mk k t f o ks).has tok) = false := decide_eq_false (fun h => by have := h.1; simp only [T.from_] at this; omega)
      refine ⟨by rw [hd]; rfl, (Below.refl _ w).alloc (Nat.le_refl _) _⟩

/-- what IndexFunc gives -/
def FirstHas (tok : Int) (xs : List T) (r : Int) : Prop := (r = -1 ∧ ∀ y ∈ xs, ¬ y.has tok) ∨ ∃ (i : Nat) (y : T), r = i ∧ xs[i]? = some y ∧ y.has tok ∧ ∀ j z, j < i → xs[j]? = some z → ¬ z.has tok

set_option maxHeartbeats 2000000 in
set_option maxRecDepth 100000 in
theorem tindex_any (xs : List T) (F : Nat → Prop) (w : World) (ao : Option Addr) (ca : Nat) (css : List (List Value)) (ha : Reps w F xs css) (hra : RowF w F 5 ao css) (n : Nat) (h1 : xs.length = n) (hn : n ≤ 1000000000) (b : Nat) (tok : Int) (hb : w.cell? ⟨b, 0, none⟩ = some (.int .i64 tok)) :
    Calls Try.prog 37 #[.slice ao n ca, .func (.func 36) #[] #[.pointer (some ⟨b, 0, none⟩)]] w fun e w' => ∃ r, e = .returned (.int .i64 r) ∧ FirstHas tok xs r ∧ Below w.heap.size w w' := by
  have H1 := Lib.hid h1
  clear h1
  go_enter Try.func37, Try.ntmps37
  go_wp2
  go_loopg [8] n (fun k i wr => ∃ j : Nat, j ≤ n ∧ k = n - j ∧ i = .int .i64 j ∧ Hid (∀ m z, m < j → xs[m]? = some z → ¬ z.has tok) ∧ Below w.heap.size w wr)
  case atStart => exact ⟨0, Nat.zero_le _, rfl, rfl, Lib.hid (fun m z hm => (Nat.not_lt_zero _ hm).elim), Below.refl _ _⟩
  case round =>
    obtain ⟨j, hj, rfl, rfl, hs, hbw⟩ := hrel
    by_cases hlt : j < n
    · obtain ⟨x, hx⟩ : ∃ x, xs[j]? = some x := ⟨xs[j]'(by rw [H1.out]; exact hlt), by simp⟩
      obtain ⟨xc, hxc, hxr⟩ := ha.at hx
      obtain ⟨kb, ko, rfl, _, hat⟩ := hra.later (KeptOn.of_below hbw) (by intro h0; have := ha.len; rw [h0, H1.out] at this; simp at this; omega)
      have hxr := hxr.later (KeptOn.of_below hbw)
      have c := fun (i : Nat) (u : Value) (h : xc[i]? = some u) => hat.cell hxc h
      have HX := Lib.hid hx
      clear hx ha hra
      have hT := tHas_any x xc F wr b tok hxr (kept_cell hbw hb)
      have HT := Lib.hid hT
      clear hT
      cases hxr with
      | @mk k1 t1 f1 o1 ks1 ao1 cap1 css1 hk1 hr1 hc1 =>
        clear hk1 hr1 hat hxc
        have c0 := c 0 _ rfl
        have c1 := c 1 _ rfl
        have c2 := c 2 _ rfl
        have c3 := c 3 _ rfl
        have c4 := c 4 _ rfl
        clear c
        simp only [Nat.add_zero] at c0
        by_cases hh : (T.mk k1 t1 f1 o1 ks1).has tok
        · go_wp2_with fail
          refine (HT.out).mono ?_
          rintro e w3 ⟨rfl, hb3⟩
          have hd : decide ((T.mk k1 t1 f1 o1 ks1).has tok) = true := decide_eq_true hh
          rw [hd]
          clear hd
          go_wp2
          go_ret
          exact ⟨_, rfl, .inr ⟨j, _, rfl, HX.out, hh, hs.out⟩, bstep hbw hb3 hbw.size⟩
        · go_wp2_with fail
          refine (HT.out).mono ?_
          rintro e w3 ⟨rfl, hb3⟩
          have hd : decide ((T.mk k1 t1 f1 o1 ks1).has tok) = false := decide_eq_false hh
          rw [hd]
          clear hd
          go_wp2_with fail
          go_roundg (n - (j + 1))
          case measure => omega
          case rel =>
            refine ⟨j + 1, by omega, rfl, by go_num, Lib.hid ?_, bstep hbw hb3 hbw.size⟩
            intro m z hm hz
            by_cases hmj : m = j
            · rw [hmj, HX.out] at hz
              obtain rfl := Option.some.inj hz
              exact hh
            · exact hs.out m z (by omega) hz
    · go_wp2_with fail
      go_ret
      refine ⟨-1, rfl, .inl ⟨rfl, ?_⟩, hbw⟩
      intro y hy
      obtain ⟨i, hi, rfl⟩ := List.getElem_of_mem hy
      exact hs.out i _ (by have := H1.out; omega) (List.getElem?_eq_getElem hi)

theorem T.kid_size {k t : ByteArray} {f o : Int} {ks : List T} {i : Nat} {z : T} (h : ks[i]? = some z) : T.size z < T.size (.mk k t f o ks) := by
  have h1 : ∀ (l : List T) (i : Nat), l[i]? = some z → T.size z ≤ T.sizes l := by
    intro l
    induction l with
    | nil => intro i h; simp at h
    | cons a l ih =>
      intro i h
      cases i with
      | zero => simp at h; subst h; simp [T.sizes]
      | succ i => have := ih i (by simpa using h); simp [T.sizes]; omega
  have := h1 ks i h
  simp [T.size]; omega

theorem Own.setRowOther {w : World} {B e t sz c : Nat} {v : Value} {css : List (List Value)} (h : Own w B e sz v css) {x : Array Value} {fz : Nat × Nat} (hc : w.heap[c]? = some (.cells x t fz)) (hte : t ≠ e) (cs : Array Value) : Own (w.setRow c cs) B e sz v css := by
  refine ⟨⟨h.1.1, ?_⟩, h.2⟩
  rcases h.1.2 with h0 | ⟨g, cap, cur, hv, hg1, hg, r⟩
  · exact .inl h0
  · refine .inr ⟨g, cap, cur, hv, hg1, ?_, r⟩
    rw [setRow_other]
    · exact hg
    · rintro rfl
      rw [hc] at hg
      simp at hg
      exact hte hg.2.1

theorem Below.row {B g : Nat} {a w : World} (h : Below B a w) (hg : B ≤ g) (cs : Array Value) : Below B a (w.setRow g cs) :=
  h.trans ⟨rfl, rfl, rfl, by simp, fun k hk => setRow_other _ _ _ _ (by omega)⟩

theorem info_node : ((Try.prog).info? 40).map (·.size) = some 5 := by kernel_rfl

theorem cell4 {w : World} {b : Nat} {a0 a1 a2 a3 a4 : Value} {e : TypeId} {fz : Nat × Nat} (h : w.heap[b]? = some (.cells [a0, a1, a2, a3, a4].toArray e fz)) : w.cell? ⟨b, 4, none⟩ = some a4 := by
  have := Lib.cell_of_heap h 4
  simpa using this

theorem E9 : EI Try.prog 45 9 (.string ⟨#[]⟩) 1 16 := ⟨Try.underlying45, by kernel_rfl, rfl, by decide⟩

set_option maxHeartbeats 2000000 in
set_option maxRecDepth 100000 in
theorem tAt_any (t : T) (cs : List Value) (F : Nat → Prop) (w : World) (tok : Int) (hrep : Rep w F t cs) (hs : T.size t ≤ 1000000) :
    Calls Try.prog 22 #[.agg cs.toArray, .int .i64 tok] w fun e w' => ∃ v l, e = .returned v ∧ Own w' w.heap.size 9 1 v (l.map fun k => [.string k]) ∧ (t.has tok → Way tok t l) ∧ (¬ t.has tok → l = []) ∧ Below w.heap.size w w' := by
  have HT := Lib.hid (two_new w)
  have hrw := hrep.wide (G := (· < w.heap.size)) (fun k _ hk => hk)
  have HR := Lib.hid (fun a b => hrw.later (KeptOn.of_below (two_new w a b)))
  have HH := Lib.hid (fun (w' : World) (b' : Nat) h => tHas_any t cs _ w' b' tok (hrw.later (KeptOn.of_below (h : Below w.heap.size w w'))))
  clear hrw
  have hcs0 : ∀ w0 : World, (w0.alloc (.cells cs.toArray 40)).heap[w0.heap.size]? = some (.cells cs.toArray 40 (0, 0)) := fun w0 => heap_alloc_new w0 _
  cases hrep with
  | @mk k x f o ks ao cap css hks hrow hc =>
    clear hks hrow
    go_enter Try.func22, Try.ntmps22
    go_wp2_with fail
    refine wp_scope_ghost 0 (fun n a' wr => ∃ (y : T) (cy : List Value) (l : List ByteArray) (v u6 u7 u8 u9 u10 u11 u12 u13 u14 u15 u16 u17 u18 u19 u20 u21 u22 u23 u24 u25 u26 u27 u28 : Value), a' = { tmps := #[.agg #[Value.string k, .string x, .int .i64 f, .int .i64 o, .slice ao ks.length cap], .int .i64 tok, .pointer (some ⟨w.heap.size, 0, none⟩), .pointer (some ⟨w.heap.size + 1, 0, none⟩), v, .func (.func 36) #[] #[.pointer (some ⟨w.heap.size + 1, 0, none⟩)], u6, u7, u8, u9, u10, u11, u12, u13, u14, u15, u16, u17, u18, u19, u20, u21, u22, u23, u24, u25, u26, u27, u28], defers := [] } ∧
      n = T.size y ∧ wr.heap[w.heap.size]? = some (.cells cy.toArray 40 (0, 0)) ∧ wr.heap[w.heap.size + 1]? = some (.cells #[.int .i64 tok] 3 (0, 0)) ∧ Rep wr (· < w.heap.size) y cy ∧ Own wr w.heap.size 9 1 v (l.map fun k => [.string k]) ∧ (y.has tok ∧ (T.mk k x f o ks).has tok) ∧ Hid (l.length + T.size y ≤ 1000000) ∧ Hid (∀ l', Way tok y l' → Way tok (T.mk k x f o ks) (l ++ l')) ∧ Below w.heap.size w wr) rfl ?_ ?_
    · intro Rst
      go_wp2_with fail
      refine (HH.out _ (w.heap.size + 1) (HT.out _ _) (cell_of_one (by simpa using heap_alloc_new (w.alloc (.cells #[Value.string k, .string x, .int .i64 f, .int .i64 o, .slice ao ks.length cap] 40)) (.cells #[.int .i64 tok] 3)))).mono ?_
      rintro e w2 ⟨rfl, hb2⟩
      by_cases hh : (T.mk k x f o ks).has tok
      · have hd : decide ((T.mk k x f o ks).has tok) = true := decide_eq_true hh
        rw [hd]
        clear hd
        go_wp2_with fail
        go_step3
        go_step
        go_step
        refine Rst.out (T.size (T.mk k x f o ks)) _ _ ?_
        refine ⟨T.mk k x f o ks, [.string k, .string x, .int .i64 f, .int .i64 o, .slice ao ks.length cap], [], _, _, _, _, _, _, _, _, _, _, _, _, _, _, _, _, _, _, _, _, _, _, _, _, rfl, rfl, ?_, ?_, ?_, Own.nil _ _ _ _, ⟨hh, hh⟩, Lib.hid (by simpa using hs), Lib.hid (fun l' h => h), (HT.out _ _).trans (hb2.mono (by simp; omega))⟩
        · rw [hb2.block _ (by simp; omega), Lib.alloc_old _ _ _ (by simp)]
          exact hcs0 w
        · rw [hb2.block _ (by simp)]
          simpa using heap_alloc_new (w.alloc (.cells #[Value.string k, .string x, .int .i64 f, .int .i64 o, .slice ao ks.length cap] 40)) (.cells #[.int .i64 tok] 3)
        · exact (HR.out _ _).later (KeptOn.of_below hb2)
      · have hd : decide ((T.mk k x f o ks).has tok) = false := decide_eq_false hh
        rw [hd]
        clear hd
        go_wp2
        simp only [Exit.jump]
        go_ret
        exact ⟨_, [], rfl, Own.nil _ _ _ _, fun h => (hh h).elim, fun _ => rfl, (HT.out _ _).trans (hb2.mono (by simp; omega))⟩
    · rintro n a' wr ⟨y, cy, l, v, u6, u7, u8, u9, u10, u11, u12, u13, u14, u15, u16, u17, u18, u19, u20, u21, u22, u23, u24, u25, u26, u27, u28, rfl, rfl, hb0, hb1, hry, hown, hhas, hlen, hway, hbw⟩
      have HRY := Lib.hid hry
      cases hry with
      | @mk ky ty fy oy ksy aoy capy cssy hksy hrowy hcy =>
        have HB0 := Lib.hid hb0
        have c0 := Lib.cell_of_heap hb0 0
        simp only [List.getElem?_toArray, List.getElem?_cons_zero] at c0
        go_wp2_with (at_builtin; go_must (refine wpList_append1 E9 rfl rfl hown rfl rfl (news := [.string ky]) rfl rfl (by simp [Value.oneCell']) (by rw [List.length_map]; have := hlen.out; omega) (by decide) hbw.size ?_); intro v7 w7 hown7 hg7; have hb07 := (others_app hown hg7) _ _ hb0 (by simp) (by simp); have hb17 := (others_app hown hg7) _ _ hb1 (by simp) (by simp); have d4 := (cell4 hb07))
        have hkp : Below w.heap.size wr w7 := bapp (Below.refl _ wr) hown hg7 hbw.size
        have hko : KeptOn (· < w.heap.size) wr w7 := fun k hk _ => hkp.block k hk
        refine (tindex_any ksy (· < w.heap.size) w7 aoy capy cssy (hksy.later hko) (hrowy.later hko) _ rfl hcy.2 (w.heap.size + 1) tok (cell_of_one hb17)).mono ?_
        rintro e w8 ⟨r, rfl, hfh, hb8⟩
        have hb08 := (hb8.block _ (lt_of_block hb07)).trans hb07
        have hb18 := (hb8.block _ (lt_of_block hb17)).trans hb17
        have hbw8 : Below w.heap.size w w8 := bstep (hbw.trans hkp) hb8 (Nat.le_trans hbw.size hkp.size)
        have hown8 := hown7.below hb8
        have d4 := cell4 hb08
        rcases hfh with ⟨rfl, hno⟩ | ⟨i, z, rfl, hz, hzt, hfirst⟩
        · go_wp2
          simp only [Exit.jump]
          go_ret
          refine ⟨v7, l ++ [ky], rfl, by simpa using hown8, fun _ => hway.out _ (Way.stop hno), fun h => (h hhas.2).elim, hbw8⟩
        · obtain ⟨zc, hzc, hzr⟩ := (hksy.later hko).at hz
          have hzr := hzr.later (KeptOn.of_below hb8)
          obtain ⟨kb, ko, rfl, hkB, hat⟩ := (hrowy.later hko).later (KeptOn.of_below hb8) (by intro h0; have := hksy.len; rw [h0] at this; have h9 := List.getElem?_eq_some_iff.1 hz; obtain ⟨h9, _⟩ := h9; simp at this; omega)
          have hi : i < ksy.length := (List.getElem?_eq_some_iff.1 hz).1
          have c := fun (j : Nat) (u : Value) (h : zc[j]? = some u) => hat.cell hzc h
          have HW : Hid (∀ l', Way tok z l' → Way tok (T.mk k x f o ks) ((l ++ [ky]) ++ l')) := Lib.hid (fun l' h => by rw [List.append_assoc]; exact hway.out _ (Way.go (x := T.mk ky ty fy oy ksy) i hz hzt hfirst h))
          have HZ := Lib.hid hzt
          have HR2 := Lib.hid hzr
          have HS : Hid (T.size z < T.size (T.mk ky ty fy oy ksy)) := Lib.hid (T.kid_size hz)
          clear hz hzt hfirst hway
          cases hzr with
          | @mk k1 t1 f1 o1 ks1 ao1 cap1 css1 hk1 hr1 hc1 =>
            clear hk1 hr1 hat hzc
            have c0 := c 0 _ rfl
            have c1 := c 1 _ rfl
            have c2 := c 2 _ rfl
            have c3 := c 3 _ rfl
            have c4 := c 4 _ rfl
            clear c
            simp only [Nat.add_zero] at c0
            go_wp2_with (refine wpList_store_row rfl 40 (.tmp 2) (.tmp 27) rfl w.heap.size _ rfl rfl 40 _ hb08 info_node rfl (by simp [Value.oneCell']) ?_)
            go_step3
            simp only [Act.put]
            refine ⟨rfl, _, HS.out, T.mk k1 t1 f1 o1 ks1, [.string k1, .string t1, .int .i64 f1, .int .i64 o1, .slice ao1 ks1.length cap1], l ++ [ky], v7, _, _, _, _, _, _, _, _, _, _, _, _, _, _, _, _, _, _, _, _, _, _, _, rfl, rfl, setRow_heap _ _ _ _ _ _ hb08, ?_, HR2.out.later ?_, ?_, ⟨HZ.out, hhas.2⟩, Lib.hid ?_, HW, Below.row hbw8 (Nat.le_refl _) _⟩
            · rw [setRow_other _ _ _ _ (Nat.succ_ne_self _)]
              exact hb18
            · intro k hk _
              exact setRow_other _ _ _ _ (Nat.ne_of_lt hk)
            · rw [List.map_append]
              exact hown8.setRowOther hb08 (by decide) _
            · have := hlen.out
              have := HS.out
              rw [List.length_append, List.length_cons, List.length_nil]
              omega
end Go.Proofs.Ytcafiaoinonpgaa
