/- Texts of this seat's proofs, laid into one file. -/
import Derived.Test.YthbicbfdldpemaaMacroFormsDoneG14
import Derived.Test.YthbicbfdldpemaaMacroFormsDoneG8
import Derived.Deep.LoopGhost
import Derived.Lib.SliceRun
/- macro: tokens in new memory: slices.Clone of sites, direct.Own. -/
namespace Go.Proofs.Ythbicbfdldpemaa
open Go.RowKit
set_option linter.unusedVariables false

theorem E126 : EI Try.prog 41 126 (.agg #[.string ⟨#[]⟩, .string ⟨#[]⟩, .int .i64 0, .int .i64 0, .bool false]) 5 56 := ⟨Try.underlying41, by kernel_rfl, rfl, by decide⟩

/-- a token's sites as they come: nothing but that they can be read -/
def SiteIn (w : World) (v : Value) (css : List (List Value)) : Prop :=
  ∃ ao cap, v = .slice ao css.length cap ∧ css.length ≤ 1000000 ∧ (ao = none → css = [] ∧ cap = 0) ∧ Row w 5 ao css ∧ (∀ c ∈ css, c.length = 5) ∧ ∀ u ∈ css.flatten, u.oneCell' = true

theorem SiteIn.nil (w : World) : SiteIn w (.slice none 0 0) [] := ⟨none, 0, rfl, by simp, fun _ => ⟨rfl, rfl⟩, Row.nil _ _ _, by simp, by simp⟩

set_option maxRecDepth 100000 in
theorem mClone_any (v : Value) (css : List (List Value)) (B : Nat) (w : World) (hB : B ≤ w.heap.size) (h : SiteIn w v css) :
    Calls Try.prog 70 #[v] w fun e w' => ∃ v', e = .returned v' ∧ Below w.heap.size w w' ∧ Own w' B 126 5 v' css ∧ (v = .slice none 0 0 → v' = .slice none 0 0) := by
  obtain ⟨ao, cap, rfl, hn, h0, hrow, hc5, h1⟩ := h
  have hq : ∀ (w : World) (a : Option Addr) (n c n' c' : Nat), (binOp .eql 41 (.slice a n c) (.slice none n' c')).run Try.prog w = .ok (.bool a.isNone) w := fun w a n c n' c' => Lib.run_eql_slice_nil w _ _ a n c n' c' Try.underlying41
  cases ao with
  | none =>
    obtain ⟨rfl, rfl⟩ := h0 rfl
    clear h0 hrow hc5 h1 hn
    simp only [List.length_nil]
    go_enter Try.func70, Try.ntmps70
    go_wp2
    go_ret
    exact ⟨_, rfl, Below.refl _ _, Own.nil _ _ _ _, fun _ => rfl⟩
  | some a =>
    obtain ⟨n, hnn⟩ : ∃ n, n = css.length := ⟨_, rfl⟩
    rw [← hnn]
    replace hnn := Lib.hid hnn
    replace h0 := Lib.hid h0
    replace hrow := Lib.hid hrow
    replace hc5 := Lib.hid hc5
    replace h1 := Lib.hid h1
    go_enter Try.func70, Try.ntmps70
    have hnews : ∀ j u, css.flatten[j]? = some u → (w.alloc (.cells #[] 126)).cell? (a.add j) = some u := by
      intro j u hj
      have hne : css ≠ [] := by rintro rfl; simp at hj
      obtain ⟨b, o, e, hat⟩ := hrow.out hne
      injection e with e
      subst e
      refine kept_cell ((Below.refl _ w).alloc (Nat.le_refl _) _) ?_
      rw [Addr.add_lit]
      have hl := flatten_len hc5.out
      have hj2 : j < css.length * 5 := by rw [← hl]; exact (List.getElem?_eq_some_iff.1 hj).1
      obtain ⟨c, hc⟩ : ∃ c, css[j / 5]? = some c := ⟨_, List.getElem?_eq_getElem (by omega)⟩
      have hcl : c.length = 5 := hc5.out c (List.mem_of_getElem? hc)
      obtain ⟨v, hv⟩ : ∃ v, c[j % 5]? = some v := ⟨_, List.getElem?_eq_getElem (by omega)⟩
      have h3 := flatten_at hc5.out hc hv
      rw [show j / 5 * 5 + j % 5 = j by omega, hj] at h3
      injection h3 with h3
      rw [h3]
      have h4 := hat _ _ hc _ _ hv
      rwa [show o + j / 5 * 5 + j % 5 = o + j by omega] at h4
    replace hnews := Lib.hid hnews
    obtain ⟨ti, hi, hz0, hz1, hz2⟩ := info_parts E126.info
    have hnl : css.flatten.length = n * 5 := by rw [flatten_len hc5.out, hnn.out]
    have hn' : n ≤ 1000000 := by rw [hnn.out]; exact hn
    replace hnl := Lib.hid hnl
    go_wp2_with (at_builtin; go_must (refine wpList_append_own _ rfl _ _ 41 rfl B 126 ti _ 5 56 E126.under hi hz0 hz1 hz2 E126.zs E126.pos _ 0 [] rfl (World.ownsRow_lit w #[] 0 hB (Nat.zero_le _) rfl) a n cap css.flatten rfl hnl.out hnews.out h1.out (by unfold maxLen; omega) (by omega) (by simp; omega) ?_); intro v' w' hown hg hnil)
    go_ret
    refine ⟨v', rfl, ?_, ⟨?_, hc5.out⟩, fun e => by simp at e⟩
    · exact ((Below.refl _ w).alloc (Nat.le_refl _) _).grown hg (by simp) (by intro k hk; have hk' : some w.heap.size = some k := hk; injection hk' with hk'; omega)
    · rw [← hnn.out]
      simpa using hown

theorem SiteIn.below {w w' : World} {v : Value} {css : List (List Value)} (h : SiteIn w v css) (hb : Below w.heap.size w w') : SiteIn w' v css := by
  obtain ⟨ao, cap, h1, h2, h3, h4, h5⟩ := h
  exact ⟨ao, cap, h1, h2, h3, h4.below hb, h5⟩

theorem Own.cons_at {w : World} {B e sz : Nat} {v : Value} {css : List (List Value)} (h : Own w B e sz v css) (hne : css ≠ []) : ∃ g cap, v = .slice (some ⟨g, 0, none⟩) css.length cap ∧ css.length ≤ cap := by
  rcases h.1.2 with ⟨_, h0⟩ | ⟨g, cap, cur, hv, _, _, hn, _⟩
  · exact absurd (List.eq_nil_of_length_eq_zero h0) hne
  · exact ⟨g, cap, hv, hn⟩

def tvC (p : Tm × Value) : List Value := tmC p.1 p.2

theorem tok8 {w : World} {rb o : Nat} {t : Tm} {v : Value} {css : List (List Value)} (h : RowAt w 8 rb o (tmC t v :: css)) :
    w.cell? ⟨rb, o, none⟩ = some (.int .i64 t.kind) ∧ w.cell? ⟨rb, o + 1, none⟩ = some (.string t.text) ∧ w.cell? ⟨rb, o + 2, none⟩ = some (.bool t.sp) ∧ w.cell? ⟨rb, o + 3, none⟩ = some (.string t.file) ∧ w.cell? ⟨rb, o + 4, none⟩ = some (.int .i64 t.f) ∧ w.cell? ⟨rb, o + 5, none⟩ = some (.int .i64 t.t) ∧ w.cell? ⟨rb, o + 6, none⟩ = some (.bool t.made) ∧ w.cell? ⟨rb, o + 7, none⟩ = some v := by
  have := fun j u hj => h 0 _ rfl j u hj
  simp only [Nat.zero_mul, Nat.add_zero] at this
  exact ⟨this 0 _ rfl, this 1 _ rfl, this 2 _ rfl, this 3 _ rfl, this 4 _ rfl, this 5 _ rfl, this 6 _ rfl, this 7 _ rfl⟩

theorem RowAt.drop {w : World} {sz b o : Nat} {css : List (List Value)} (h : RowAt w sz b o css) (i : Nat) : RowAt w sz b (o + i * sz) (css.drop i) := by
  intro k cs hk j u hj
  rw [List.getElem?_drop] at hk
  have := h (i + k) cs hk j u hj
  rw [show o + i * sz + k * sz + j = o + (i + k) * sz + j by rw [Nat.add_mul]; omega]
  exact this

theorem tok_at {w : World} {rb o : Nat} {T : List (Tm × Value)} (h : RowAt w 8 rb o (T.map tvC)) {i : Nat} {p : Tm × Value} (hi : T[i]? = some p) : RowAt w 8 rb (o + i * 8) (tmC p.1 p.2 :: (T.drop (i + 1)).map tvC) := by
  have := h.drop i
  rw [← List.map_drop] at this
  have e : T.drop i = p :: T.drop (i + 1) := by
    rw [List.drop_eq_getElem_cons (List.getElem?_eq_some_iff.1 hi).1, (List.getElem?_eq_some_iff.1 hi).2]
  rw [e] at this
  exact this

theorem Own.setAt {w w2 : World} {B e sz : Nat} {v : Value} {css : List (List Value)} (h : Own w B e sz v css) (hb : Below w.heap.size w w2) {g : Nat} (hg : w.heap.size ≤ g) (j : Nat) (u : Value) : Own (w2.setCell ⟨g, j, none⟩ u) B e sz v css :=
  ⟨ownsRow_setCell_other (h.below hb).1 (by intro e1; obtain ⟨c, fz, hx⟩ := h.size_lt _ e1; have := lt_of_block hx; simp only at this; omega) _, h.2⟩

theorem Own.setType {w : World} {B e e' sz : Nat} {v : Value} {css : List (List Value)} {x : Array Value} {fz : Nat × Nat} (h : Own w B e sz v css) {g : Nat} (hx : w.heap[g]? = some (.cells x e' fz)) (he : e ≠ e') (j : Nat) (u : Value) : Own (w.setCell ⟨g, j, none⟩ u) B e sz v css :=
  ⟨ownsRow_setCell_other h.1 (by
    intro e1
    obtain ⟨c, fz', hc⟩ := h.size_lt _ e1
    simp only at hc
    rw [hx] at hc
    simp only [Option.some.injEq, Obj.cells.injEq] at hc
    exact he hc.2.1.symm) _, h.2⟩

/-- tokens that were copied: the same but for their sites, which are the call's own -/
structure OwnJ (T T' : List (Tm × Value)) (B : Nat) (v : Value) (w : World) : Prop where
  own : Own w B 43 8 v (T'.map tvC)
  same : T'.map (·.1) = (T.take T'.length).map (·.1)
  sites : ∀ p ∈ T', ∃ css, Own w B 126 5 p.2 css
  nils : (∀ p ∈ T, p.2 = .slice none 0 0) → ∀ p ∈ T', p.2 = .slice none 0 0

set_option maxRecDepth 100000 in
theorem mOwn_any (T : List (Tm × Value)) (ao : Option Addr) (cap : Nat) (hn : T.length ≤ 1000000) (hcap : T.length ≤ cap) (w : World) (hrow : Row w 8 ao (T.map tvC)) (hs : ∀ p ∈ T, ∃ css, SiteIn w p.2 css) :
    Calls Try.prog 44 #[.slice ao T.length cap] w fun e w' => ∃ v T', e = .returned v ∧ OwnJ T T' w.heap.size v w' ∧ T'.length = T.length ∧ Below w.heap.size w w' := by
  obtain ⟨n, hnn⟩ : ∃ n, n = T.length := ⟨_, rfl⟩
  have HN : Hid (T.length = n) := Lib.hid hnn.symm
  rw [← hnn] at hn hcap ⊢
  have HS := Lib.hid hs
  clear hs hnn
  have hz0 := Nat.le_refl w.heap.size
  go_enter Try.func44, Try.ntmps44
  go_wp2
  go_loopg [2, 7] n (fun u v i wr => ∃ T' : List (Tm × Value), u = n - T'.length ∧ T'.length ≤ n ∧ i = .int .i64 T'.length ∧ OwnJ T T' w.heap.size v wr ∧ Below w.heap.size w wr)
  case atStart => exact ⟨[], rfl, Nat.zero_le _, rfl, ⟨Own.nil _ _ _ _, rfl, by simp, by simp⟩, Below.refl _ _⟩
  case round =>
    obtain ⟨T', rfl, hk, rfl, hJ, hb⟩ := hrel
    obtain ⟨k, hkk⟩ : ∃ k, k = T'.length := ⟨_, rfl⟩
    have HK : Hid (T'.length = k) := Lib.hid hkk.symm
    rw [← hkk] at hk ⊢
    clear hkk
    by_cases hlt : k < n
    · obtain ⟨⟨t, v⟩, hp⟩ : ∃ p, T[k]? = some p := ⟨T[k]'(by rw [HN.out]; exact hlt), by simp⟩
      obtain ⟨rb, o, rfl, hat⟩ := (hrow.below hb) (by intro h; simp at h; subst h; simp at hp)
      obtain ⟨t0, t1, t2, t3, t4, t5, t6, t7⟩ := tok8 (tok_at hat hp)
      obtain ⟨css, hsi⟩ := HS.out _ (List.mem_of_getElem? hp)
      have HC := fun w' (h : Below w.heap.size w w') => mClone_any v css w.heap.size w' h.size (hsi.below h)
      obtain ⟨sao, scap, hv, _⟩ := hsi
      simp only at hv t7
      subst hv
      replace HC := Lib.hid HC
      replace hp := Lib.hid hp
      replace hJ := Lib.hid hJ
      clear hat hrow
      go_wp2_with fail
      have hb1 : Below w.heap.size w (wr.alloc (.cells #[.int .i64 t.kind, .string t.text, .bool t.sp, .string t.file, .int .i64 t.f, .int .i64 t.t, .bool t.made, .slice sao css.length scap] 43)) := hb.alloc hb.size _
      refine (HC.out _ hb1).mono ?_
      rintro e w2 ⟨v2, rfl, hb2, hown2, hnil2⟩
      obtain ⟨sao2, scap2, rfl, _, _, _, _⟩ := hown2.rown (n := css.length) rfl
      have hb3 := hb1.trans (hb2.mono hb1.size)
      have hc2 := (hb2.block wr.heap.size (by simp)).trans (heap_alloc_new wr _)
      obtain ⟨m0, m1, m2, m3, m4, m5, m6, m7⟩ := cells8 hc2
      have f2 := fun j => Lib.frozen_of_heap hc2 j
      have hbx : Below wr.heap.size wr w2 := ((Below.refl _ wr).alloc (Nat.le_refl _) _).trans (hb2.mono (by simp))
      have hownT := hJ.out.own.setAt hbx (Nat.le_refl _) 7 (.slice sao2 css.length scap2)
      have hownS := hown2.setType hc2 (by decide) 7 (.slice sao2 css.length scap2)
      have hownA : Hid (∀ p ∈ T', ∃ css', Own (w2.setCell ⟨wr.heap.size, 7, none⟩ (.slice sao2 css.length scap2)) w.heap.size 126 5 p.2 css') := Lib.hid (fun p hp => by
        obtain ⟨css', h⟩ := hJ.out.sites p hp
        exact ⟨css', h.setAt hbx (Nat.le_refl _) 7 _⟩)
      have hb4 : Below w.heap.size w (w2.setCell ⟨wr.heap.size, 7, none⟩ (.slice sao2 css.length scap2)) := hb3.setCell (p := ⟨wr.heap.size, 7, none⟩) hb.size _
      have hlen : (T'.map tvC).length + 1 ≤ 1000000000 := by rw [List.length_map, HK.out]; omega
      replace hnil2 := Lib.hid hnil2
      clear hb2 hown2 hc2 hbx t0 t1 t2 t3 t4 t5 t6 t7
      go_wp2_with (at_builtin; go_must (refine wpList_append1 E43 rfl rfl hownT rfl (g := w2.heap.size) rfl (news := [.int .i64 t.kind, .string t.text, .bool t.sp, .string t.file, .int .i64 t.f, .int .i64 t.t, .bool t.made, .slice sao2 css.length scap2]) (by simp) rfl (by simp [Value.oneCell']) hlen (by decide) hb4.size ?_); intro v5 w5 hown5 hg5)
      go_roundg (n - (k + 1))
      case measure => (have := HK.out; omega)
      case rel =>
        refine ⟨T' ++ [(t, .slice sao2 css.length scap2)], by rw [List.length_append, HK.out]; rfl, by rw [List.length_append, HK.out]; exact hlt, by rw [List.length_append, HK.out]; go_num, ⟨?_, ?_, ?_, ?_⟩, bapp hb4 hownT hg5 hb4.size⟩
        · rw [List.map_append]; exact hown5
        · have hs := hJ.out.same
          rw [HK.out] at hs
          rw [List.map_append, hs, List.length_append, HK.out, List.length_singleton, List.take_add_one, hp.out]
          simp
        · intro p hp
          rcases List.mem_append.1 hp with h | h
          · obtain ⟨css', h'⟩ := hownA.out p h
            exact ⟨css', h'.kept hg5 (own_apart h' hownT (by decide))⟩
          · simp at h; subst h
            exact ⟨css, hownS.kept hg5 (own_apart hownS hownT (by decide))⟩
        · intro h p hp'
          rcases List.mem_append.1 hp' with h' | h'
          · exact hJ.out.nils h p h'
          · simp at h'; subst h'
            exact hnil2.out (h _ (List.mem_of_getElem? hp.out))
    · have hkn : k = n := by omega
      subst hkn
      replace hJ := Lib.hid hJ
      go_wp2
      go_ret
      exact ⟨_, T', rfl, hJ.out, HK.out, hb⟩
end Go.Proofs.Ythbicbfdldpemaa

/- macro's Same: are two definitions alike? -/
namespace Go.Proofs.Ythbicbfdldpemaa
open Go.RowKit
set_option linter.unusedVariables false

def alikeP (a b : Tm) : Bool := decide (a.kind = b.kind) && decide (a.text = b.text) && (a.sp == b.sp)
def bodyEq : List Tm → List Tm → Bool
  | [], [] => true
  | a :: A, b :: B => alikeP a b && bodyEq A B
  | _, _ => false

set_option maxRecDepth 100000 in
theorem mAlike_any (a b : Tm) (v u : Value) (w : World) :
    Calls Try.prog 48 #[.agg (tmC a v).toArray, .agg (tmC b u).toArray] w fun e w' => e = .returned (.bool (alikeP a b)) ∧ Below w.heap.size w w' := by
  unfold alikeP
  rw [← beq_text2]
  unfold tmC
  go_enter Try.func48, Try.ntmps48
  have hB : ∀ o o', Below w.heap.size w ((w.alloc o).alloc o') := fun o o' => ((Below.refl _ w).alloc (Nat.le_refl _) o).alloc (by simp) o'
  by_cases hk : a.kind = b.kind
  · have hkb : (a.kind == b.kind) = true := by simpa using hk
    cases ht : (a.text.toList == b.text.toList) with
    | true =>
      have htb : decide (a.text = b.text) = true := by rw [← beq_text2]; exact ht
      replace hk := Lib.hid hk
      go_wp2
      go_ret
      exact ⟨by simp [hk.out], hB _ _⟩
    | false =>
      replace hk := Lib.hid hk
      go_wp2
      go_ret
      exact ⟨by simp, hB _ _⟩
  · have hkb : (a.kind == b.kind) = false := by simpa using hk
    go_wp2
    go_ret
    exact ⟨by simp [hk], hB _ _⟩

set_option maxRecDepth 100000 in
theorem mEqualFunc_any (A B : List (Tm × Value)) (a1 a2 : Option Addr) (c d : Nat) (hA : A.length ≤ 1000000) (hB : B.length ≤ 1000000) (hAc : A.length ≤ c) (hBd : B.length ≤ d) (w : World) (hrA : Row w 8 a1 (A.map tvC)) (hrB : Row w 8 a2 (B.map tvC))
    (hsA : ∀ p ∈ A, ∃ a n c, p.2 = .slice a n c) (hsB : ∀ p ∈ B, ∃ a n c, p.2 = .slice a n c) :
    Calls Try.prog 47 #[.slice a1 A.length c, .slice a2 B.length d, .func (.func 48) #[] #[]] w fun e w' => e = .returned (.bool (bodyEq (A.map (·.1)) (B.map (·.1)))) ∧ Below w.heap.size w w' := by
  obtain ⟨R, hR⟩ : ∃ R, R = bodyEq (A.map (·.1)) (B.map (·.1)) := ⟨_, rfl⟩
  rw [← hR]
  have HAL := fun (a b : Tm) (v u : Value) (w : World) => mAlike_any a b v u w
  unfold tmC at HAL
  replace HAL := Lib.hid HAL
  obtain ⟨n, hn⟩ : ∃ n, n = A.length := ⟨_, rfl⟩
  obtain ⟨m, hm⟩ : ∃ m, m = B.length := ⟨_, rfl⟩
  rw [← hn] at hA hAc ⊢
  rw [← hm] at hB hBd ⊢
  have HN : Hid (A.length = n) := Lib.hid hn.symm
  have HM : Hid (B.length = m) := Lib.hid hm.symm
  replace hsA := Lib.hid hsA
  replace hsB := Lib.hid hsB
  replace hR := Lib.hid hR
  clear hn hm
  by_cases hnm : n = m
  · subst hnm
    go_enter Try.func47, Try.ntmps47
    go_wp2
    go_loopg [17] n (fun u i wr => ∃ k : Nat, u = n - k ∧ k ≤ n ∧ i = .int .i64 k ∧ Below w.heap.size w wr ∧ Hid (R = bodyEq ((A.map (·.1)).drop k) ((B.map (·.1)).drop k)))
    case atStart => exact ⟨0, rfl, Nat.zero_le _, rfl, Below.refl _ _, hR⟩
    case round =>
      obtain ⟨k, rfl, hk, rfl, hb, HR⟩ := hrel
      by_cases hlt : k < n
      · obtain ⟨⟨t, v⟩, hp⟩ : ∃ p, A[k]? = some p := ⟨A[k]'(by rw [HN.out]; exact hlt), by simp⟩
        obtain ⟨⟨s, u⟩, hq⟩ : ∃ p, B[k]? = some p := ⟨B[k]'(by rw [HM.out]; exact hlt), by simp⟩
        obtain ⟨va, vn, vc, hv⟩ := hsA.out _ (List.mem_of_getElem? hp)
        obtain ⟨ua, un, uc, hu⟩ := hsB.out _ (List.mem_of_getElem? hq)
        simp only at hv hu
        subst hv hu
        obtain ⟨rb, o, rfl, hat⟩ := (hrA.below hb) (by intro h; simp at h; subst h; simp at hp)
        obtain ⟨rb2, o2, rfl, hat2⟩ := (hrB.below hb) (by intro h; simp at h; subst h; simp at hq)
        have hat2' := hat2.below ((Below.refl _ wr).alloc (Nat.le_refl _) (.cells #[.int .i64 t.kind, .string t.text, .bool t.sp, .string t.file, .int .i64 t.f, .int .i64 t.t, .bool t.made, .slice va vn vc] 43))
        obtain ⟨t0, t1, t2, t3, t4, t5, t6, t7⟩ := tok8 (tok_at hat hp)
        obtain ⟨s0, s1, s2, s3, s4, s5, s6, s7⟩ := tok8 (tok_at hat2' hq)
        have HR2 : Hid (R = (alikeP t s && bodyEq ((A.map (·.1)).drop (k + 1)) ((B.map (·.1)).drop (k + 1)))) := Lib.hid (by
          rw [HR.out]
          have h1 : (A.map (·.1))[k]? = some t := by simp [hp]
          have h2 : (B.map (·.1))[k]? = some s := by simp [hq]
          rw [List.drop_eq_getElem_cons (List.getElem?_eq_some_iff.1 h1).1, (List.getElem?_eq_some_iff.1 h1).2, List.drop_eq_getElem_cons (List.getElem?_eq_some_iff.1 h2).1, (List.getElem?_eq_some_iff.1 h2).2]
          rfl)
        obtain ⟨y, hy⟩ : ∃ y, y = alikeP t s := ⟨_, rfl⟩
        have HAL2 := fun v u w => HAL.out t s v u w
        rw [← hy] at HR2
        simp only [← hy] at HAL2
        replace HAL2 := Lib.hid HAL2
        replace hy := Lib.hid hy
        replace hp := Lib.hid hp
        replace hq := Lib.hid hq
        clear hat hat2 hat2' HR
        go_wp2_with fail
        refine (HAL2.out _ _ _).mono ?_
        rintro e w2 ⟨rfl, hb2⟩
        have hb3 := ((hb.alloc hb.size (.cells #[.int .i64 t.kind, .string t.text, .bool t.sp, .string t.file, .int .i64 t.f, .int .i64 t.t, .bool t.made, .slice va vn vc] 43)).alloc (by have := hb.size; simp; omega) (.cells #[.int .i64 s.kind, .string s.text, .bool s.sp, .string s.file, .int .i64 s.f, .int .i64 s.t, .bool s.made, .slice ua un uc] 43)).trans (hb2.mono (by have := hb.size; simp; omega))
        cases y with
        | true =>
          go_wp2_with fail
          go_roundg (n - (k + 1))
          case measure => omega
          case rel => exact ⟨k + 1, rfl, by omega, by go_num, hb3, Lib.hid (HR2.out.trans (by simp))⟩
        | false =>
          go_wp2
          go_ret
          exact ⟨by rw [HR2.out]; rfl, hb3⟩
      · have hRt : R = true := by rw [HR.out, List.drop_eq_nil_of_le (by rw [List.length_map, HN.out]; omega), List.drop_eq_nil_of_le (by rw [List.length_map, HM.out]; omega)]; rfl
        replace hRt := Lib.hid hRt
        go_wp2
        go_ret
        exact ⟨by rw [hRt.out]; rfl, hb⟩
  · have hne : ((n : Int) == m) = false := by simp; omega
    have hRf : R = false := by
      rw [hR.out]
      have : ∀ (X Y : List Tm), X.length ≠ Y.length → bodyEq X Y = false := by
        intro X
        induction X with
        | nil => intro Y h; cases Y with | nil => simp at h | cons => rfl
        | cons a X ih => intro Y h; cases Y with | nil => rfl | cons b Y => simp only [bodyEq, ih Y (by simpa using h), Bool.and_false]
      exact this _ _ (by simp [HN.out, HM.out, hnm])
    replace hRf := Lib.hid hRf
    go_enter Try.func47, Try.ntmps47
    go_wp2
    go_ret
    exact ⟨by rw [hRf.out]; rfl, Below.refl _ _⟩

theorem mEqStr_any (xs ys : List ByteArray) (a1 a2 : Option Addr) (c d : Nat) (hx : xs.length ≤ 1000000000) (hy : ys.length ≤ 1000000000) (w : World) (hrx : Row w 1 a1 (xs.map fun p => [.string p])) (hry : Row w 1 a2 (ys.map fun p => [.string p])) :
    Calls Try.prog 46 #[.slice a1 xs.length c, .slice a2 ys.length d] w fun e w' => e = .returned (.bool (decide (xs = ys))) ∧ Below w.heap.size w w' := by
  have hcells : ∀ (zs : List ByteArray) (b o : Nat), RowAt w 1 b o (zs.map fun p => [.string p]) → ∀ j, j < zs.length → w.cell? ⟨b, o + j, none⟩ = some (.string (zs.getD j ByteArray.empty)) := by
    intro zs b o hat j hj
    have := hat.cell (i := j) (cs := [.string (zs.getD j ByteArray.empty)]) (by rw [List.getElem?_map, List.getElem?_eq_getElem hj]; simp [List.getD_eq_getElem?_getD, List.getElem?_eq_getElem hj]) (j := 0) (u := .string (zs.getD j ByteArray.empty)) rfl
    simpa using this
  match xs, ys, hx, hy, hrx, hry with
  | [], ys, hx, hy, hrx, hry =>
    refine (Try.slices_Equal_string_empty a1 a2 c ys.length d w (by omega)).mono ?_
    rintro e w' ⟨rfl, rfl⟩
    refine ⟨?_, Below.refl _ _⟩
    cases ys <;> simp
  | x :: xs, [], hx, hy, hrx, hry =>
    refine (Try.slices_Equal_string_lens a1 a2 (x :: xs).length c 0 d w (by simp)).mono ?_
    rintro e w' ⟨rfl, rfl⟩
    exact ⟨by simp, Below.refl _ _⟩
  | x :: xs, y :: ys, hx, hy, hrx, hry =>
    obtain ⟨b1, o1, rfl, hat1⟩ := hrx (by simp)
    obtain ⟨b2, o2, rfl, hat2⟩ := hry (by simp)
    refine (Try.slices_Equal_string b1 o1 (x :: xs).length c b2 o2 (y :: ys).length d (x :: xs) (y :: ys) w (Nat.le_refl _) (Nat.le_refl _) (by omega) (by omega) (hcells _ _ _ hat1) (hcells _ _ _ hat2)).mono ?_
    rintro e w' ⟨rfl, q, rfl⟩
    rw [List.take_length, List.take_length]
    refine ⟨rfl, ?_⟩
    induction q with
    | zero => exact Below.refl _ _
    | succ q ih => exact ih.drew

/-- a definition's parts as they lie in memory (its tokens without sites) -/
structure MacAt (w : World) (m : Mac) (psv bov : Value) : Prop where
  ps : ∃ ao cap, psv = .slice ao m.params.length cap ∧ Row w 1 ao (m.params.map fun p => [.string p]) ∧ m.params.length ≤ 1000000 ∧ (ao = none → m.params = [] ∧ cap = 0)
  body : ∃ ao cap, ∃ T : List (Tm × Value), bov = .slice ao m.body.length cap ∧ m.body.length ≤ cap ∧ m.body.length ≤ 1000000 ∧ T.map (·.1) = m.body ∧ Row w 8 ao (T.map tvC) ∧ ∀ p ∈ T, p.2 = .slice none 0 0

theorem MacAt.below {w w' : World} {m : Mac} {psv bov : Value} (h : MacAt w m psv bov) (hb : Below w.heap.size w w') : MacAt w' m psv bov := by
  obtain ⟨⟨ao, cap, h1, h2, h3⟩, ⟨bo, cb, T, k1, k2, k3, k4, k5, k6⟩⟩ := h
  exact ⟨⟨ao, cap, h1, h2.below hb, h3⟩, ⟨bo, cb, T, k1, k2, k3, k4, k5.below hb, k6⟩⟩

def sameP (a b : Mac) : Bool := decide (a.name = b.name) && (a.fn == b.fn) && (a.va == b.va) && decide (a.params = b.params) && bodyEq a.body b.body

set_option maxRecDepth 100000 in
theorem mSame_any (a b : Mac) (pa ba pb bb : Value) (w : World) (ha : MacAt w a pa ba) (hb : MacAt w b pb bb) :
    Calls Try.prog 18 #[.agg (mcC a.name a.fn a.va pa ba a.file a.f a.t).toArray, .agg (mcC b.name b.fn b.va pb bb b.file b.f b.t).toArray] w fun e w' => e = .returned (.bool (sameP a b)) ∧ Below w.heap.size w w' := by
  have hR : Hid (sameP a b = ((a.name.toList == b.name.toList) && (a.fn == b.fn) && (a.va == b.va) && decide (a.params = b.params) && bodyEq a.body b.body)) := Lib.hid (by rw [beq_text2]; rfl)
  obtain ⟨⟨pao, pcp, rfl, hpr, hpl, _⟩, ⟨bao, bcp, T, rfl, hbc, hbl, hbs, hbr, hbi⟩⟩ := ha
  obtain ⟨⟨qao, qcp, rfl, hqr, hql, _⟩, ⟨cao, ccp, U, rfl, hcc, hcl, hcs, hcr, hci⟩⟩ := hb
  have HE := fun w' (h : Below w.heap.size w w') => mEqStr_any a.params b.params pao qao pcp qcp (by omega) (by omega) w' (hpr.below h) (hqr.below h)
  have hTl : T.length = a.body.length := by rw [← hbs]; simp
  have hUl : U.length = b.body.length := by rw [← hcs]; simp
  have HF := fun w' (h : Below w.heap.size w w') => mEqualFunc_any T U bao cao bcp ccp (by omega) (by omega) (by omega) (by omega) w' (hbr.below h) (hcr.below h) (fun p hp => ⟨_, _, _, hbi p hp⟩) (fun p hp => ⟨_, _, _, hci p hp⟩)
  rw [hTl, hUl, hbs, hcs] at HF
  clear hTl hUl hbs hcs hbi hci hpr hpl hbr hbc hbl hqr hql hcr hcc hcl
  have ho : ∀ o o', Below w.heap.size w ((w.alloc o).alloc o') := fun o o' => ((Below.refl _ w).alloc (Nat.le_refl _) o).alloc (by simp) o'
  obtain ⟨x4, hx4⟩ : ∃ x, x = decide (a.params = b.params) := ⟨_, rfl⟩
  obtain ⟨x5, hx5⟩ : ∃ x, x = bodyEq a.body b.body := ⟨_, rfl⟩
  rw [← hx4] at hR
  rw [← hx5] at hR
  rw [← hx5] at HF
  simp only [← hx4] at HE
  clear hx4 hx5
  obtain ⟨R, hRR⟩ : ∃ R, R = sameP a b := ⟨_, rfl⟩
  rw [← hRR] at hR ⊢
  clear hRR
  replace HE := Lib.hid HE
  replace HF := Lib.hid HF
  unfold mcC
  go_enter Try.func18, Try.ntmps18
  cases h1 : (a.name.toList == b.name.toList) with
  | false =>
    rw [h1] at hR
    go_wp2
    go_ret
    exact ⟨by rw [hR.out]; simp, ho _ _⟩
  | true =>
    rw [h1] at hR
    cases h2 : (a.fn == b.fn) with
    | false =>
      rw [h2] at hR
      go_wp2
      go_ret
      exact ⟨by rw [hR.out]; simp, ho _ _⟩
    | true =>
      rw [h2] at hR
      cases h3 : (a.va == b.va) with
      | false =>
        rw [h3] at hR
        go_wp2
        go_ret
        exact ⟨by rw [hR.out]; simp, ho _ _⟩
      | true =>
        rw [h3] at hR
        go_wp2_with fail
        refine (HE.out _ (ho _ _)).mono ?_
        rintro e w3 ⟨rfl, hb3⟩
        have hB3 := (ho (.cells #[.string a.name, .bool a.fn, .bool a.va, .slice pao a.params.length pcp, .slice bao a.body.length bcp, .string a.file, .int .i64 a.f, .int .i64 a.t] 29) (.cells #[.string b.name, .bool b.fn, .bool b.va, .slice qao b.params.length qcp, .slice cao b.body.length ccp, .string b.file, .int .i64 b.f, .int .i64 b.t] 29)).trans (hb3.mono (by simp; omega))
        cases x4 with
        | false =>
          go_wp2
          go_ret
          exact ⟨by rw [hR.out]; simp, hB3⟩
        | true =>
          obtain ⟨m0, m1, m2, m3, m4, m5, m6, m7⟩ := cells8 ((hb3.block w.heap.size (by simp; omega)).trans ((Lib.alloc_old _ _ _ (by simp)).trans (heap_alloc_new w _)))
          have hnew : ((w.alloc (.cells #[.string a.name, .bool a.fn, .bool a.va, .slice pao a.params.length pcp, .slice bao a.body.length bcp, .string a.file, .int .i64 a.f, .int .i64 a.t] 29)).alloc (.cells #[.string b.name, .bool b.fn, .bool b.va, .slice qao b.params.length qcp, .slice cao b.body.length ccp, .string b.file, .int .i64 b.f, .int .i64 b.t] 29)).heap[w.heap.size + 1]? = some (.cells #[.string b.name, .bool b.fn, .bool b.va, .slice qao b.params.length qcp, .slice cao b.body.length ccp, .string b.file, .int .i64 b.f, .int .i64 b.t] 29 (0, 0)) := by have := heap_alloc_new (w.alloc (.cells #[.string a.name, .bool a.fn, .bool a.va, .slice pao a.params.length pcp, .slice bao a.body.length bcp, .string a.file, .int .i64 a.f, .int .i64 a.t] 29)) (.cells #[.string b.name, .bool b.fn, .bool b.va, .slice qao b.params.length qcp, .slice cao b.body.length ccp, .string b.file, .int .i64 b.f, .int .i64 b.t] 29); simpa using this
          obtain ⟨n0, n1, n2, n3, n4, n5, n6, n7⟩ := cells8 ((hb3.block (w.heap.size + 1) (by simp)).trans hnew)
          go_wp2_with fail
          refine (HF.out _ hB3).mono ?_
          rintro e w4 ⟨rfl, hb4⟩
          go_wp2
          go_ret
          exact ⟨by rw [hR.out]; simp, hB3.trans (hb4.mono hB3.size)⟩
end Go.Proofs.Ythbicbfdldpemaa

/- macro's bad: may a token of the body not stand there? -/
namespace Go.Proofs.Ythbicbfdldpemaa
open Go.RowKit
set_option linter.unusedVariables false

set_option maxRecDepth 100000 in
set_option maxHeartbeats 1000000 in
theorem mBad_any (T : List (Tm × Value)) (i : Nat) (t : Tm) (sa : Option Addr) (sn sc : Nat) (hi : T[i]? = some (t, .slice sa sn sc)) (b : Nat) (name : ByteArray) (fn va : Bool) (file : ByteArray) (f tt : Int) (ps : List ByteArray) (pao bao : Option Addr) (pcap bcap : Nat) (fz : Nat × Nat) (hn : ps.length ≤ 1000000000) (hT : T.length ≤ 1000000) (hbc : T.length ≤ bcap) (w : World)
    (hprow : Row w 1 pao (ps.map fun p => [.string p])) (hbrow : Row w 8 bao (T.map tvC))
    (hb : w.heap[b]? = some (.cells (mcC name fn va (.slice pao ps.length pcap) (.slice bao T.length bcap) file f tt).toArray 29 fz)) :
    Calls Try.prog 45 #[.pointer (some ⟨b, 0, none⟩), .int .i64 i] w fun e w' => e = .returned (.bool (badAt fn va ps (T.map (·.1)) i t)) ∧ Below w.heap.size w w' := by
  have hlt : i < T.length := (List.getElem?_eq_some_iff.1 hi).1
  obtain ⟨rb, ro, rfl, hat⟩ := hbrow (by intro e; rw [List.map_eq_nil_iff] at e; rw [e] at hlt; simp at hlt)
  obtain ⟨t0, t1, t2, t3, t4, t5, t6, t7⟩ := tok8 (tok_at hat hi)
  obtain ⟨d0, d1, d2, d3, d4, d5, d6, d7⟩ := cells8 hb
  have HPa := fun w => mPaste_any t (.slice sa sn sc) w
  have HHa := fun w => mHash_any t (.slice sa sn sc) w
  have HOf := fun (q : Tm × Value) (w' : World) (hw : Below w.heap.size w w') => mOf_any q.1 q.2 b name fn va (.slice (some ⟨rb, ro, none⟩) T.length bcap) file f tt ps pao pcap fz hn w' (hprow.below hw) ((hw.block b (lt_of_block hb)).trans hb)
  obtain ⟨R, hR⟩ : ∃ R, R = badAt fn va ps (T.map (·.1)) i t := ⟨_, rfl⟩
  rw [← hR]
  unfold badAt at hR
  rw [List.length_map] at hR
  obtain ⟨x, hx⟩ : ∃ x, x = pasteP t := ⟨_, rfl⟩
  obtain ⟨y, hy⟩ : ∃ y, y = hashP t := ⟨_, rfl⟩
  simp only [← hx] at HPa hR
  simp only [← hy] at HHa hR
  obtain ⟨n, hnn⟩ : ∃ n, n = T.length := ⟨_, rfl⟩
  rw [← hnn] at d4 hb hR hlt hT hbc
  have HN : Hid (T.length = n) := Lib.hid hnn.symm
  unfold tmC at HPa HHa HOf
  replace HPa := Lib.hid HPa
  replace HHa := Lib.hid HHa
  replace HOf := Lib.hid HOf
  replace hR := Lib.hid hR
  replace hat := Lib.hid hat
  replace hi := Lib.hid hi
  have hw1 : IntKind.i64.wrap ((n : Int) - 1) = (n : Int) - 1 := IntWalk.i64_in _ (by omega)
  clear hbrow hprow hx hy hnn
  have ho : ∀ o, Below w.heap.size w (w.alloc o) := fun o => (Below.refl _ w).alloc (Nat.le_refl _) o
  have e0 := fun o => kept_cell (ho o) d0
  have s0 := fun o => kept_cell (ho o) t0
  have e1 := fun o => kept_cell (ho o) d1
  have s1 := fun o => kept_cell (ho o) t1
  have e2 := fun o => kept_cell (ho o) d2
  have s2 := fun o => kept_cell (ho o) t2
  have e3 := fun o => kept_cell (ho o) d3
  have s3 := fun o => kept_cell (ho o) t3
  have e4 := fun o => kept_cell (ho o) d4
  have s4 := fun o => kept_cell (ho o) t4
  have e5 := fun o => kept_cell (ho o) d5
  have s5 := fun o => kept_cell (ho o) t5
  have e6 := fun o => kept_cell (ho o) d6
  have s6 := fun o => kept_cell (ho o) t6
  have e7 := fun o => kept_cell (ho o) d7
  have s7 := fun o => kept_cell (ho o) t7
  go_enter Try.func45, Try.ntmps45
  go_wp2_with fail
  go_region
  have hA : Below w.heap.size w (w.alloc (.cells #[.int .i64 t.kind, .string t.text, .bool t.sp, .string t.file, .int .i64 t.f, .int .i64 t.t, .bool t.made, .slice sa sn sc] 43)).drew := (ho _).drew
  clear s0 s1 s2 s3 s4 s5 s6 s7 e0 e1 e2 e3 e4 e5 e6 e7
  go_wp2_with fail
  refine (HPa.out _).mono ?_
  rintro e w2 ⟨rfl, hb2⟩
  have hB := hA.trans (hb2.mono hA.size)
  obtain ⟨m0, m1, m2, m3, m4, m5, m6, m7⟩ := cells8 ((hb2.block w.heap.size (by simp)).trans (heap_alloc_new w _))
  obtain ⟨g0, g1, g2, g3, g4, g5, g6, g7⟩ := cells8 ((hB.block b (lt_of_block hb)).trans hb)
  cases x with
  | true =>
    have f0 : ((i : Int) == 0) = decide (i = 0) := by rw [Bool.eq_iff_iff]; simp
    have f1 : ((i : Int) == (n : Int) - 1) = decide (i + 1 = n) := by rw [Bool.eq_iff_iff]; simp; omega
    have hRR : R = (decide (i = 0) || decide (i + 1 = n)) := by rw [hR.out]; simp
    replace hRR := Lib.hid hRR
    by_cases h0 : i = 0
    · rw [decide_eq_true h0] at f0
      replace h0 := Lib.hid h0
      go_wp2
      go_ret
      exact ⟨by rw [hRR.out]; simp [h0.out], hB⟩
    · rw [decide_eq_false h0] at f0
      go_wp2
      go_ret
      exact ⟨by rw [hRR.out]; simp [h0], hB⟩
  | false =>
    cases fn with
    | false =>
      have HB := hB
      by_cases hk : t.kind = 1
      · by_cases ht : t.text = restN
        · have htb : (t.text.toList == [95, 95, 86, 65, 95, 65, 82, 71, 83, 95, 95]) = true := by rw [beq_text]; exact decide_eq_true ht
          have hRR : R = !va := by rw [hR.out]; simp [hk, ht]
          rw [hk] at m0
          replace hk := Lib.hid hk
          replace ht := Lib.hid ht
          replace hRR := Lib.hid hRR
          go_wp2
          go_ret
          exact ⟨by rw [hRR.out]; rfl, HB⟩
        · have htb : (t.text.toList == [95, 95, 86, 65, 95, 65, 82, 71, 83, 95, 95]) = false := by rw [beq_text]; exact decide_eq_false ht
          have hRR : R = false := by rw [hR.out]; simp [hk, ht]
          rw [hk] at m0
          replace hk := Lib.hid hk
          replace ht := Lib.hid ht
          replace hRR := Lib.hid hRR
          go_wp2
          go_ret
          exact ⟨by rw [hRR.out]; rfl, HB⟩
      · have hkb : (t.kind == 1) = false := by simpa using hk
        have hRR : R = false := by rw [hR.out]; simp [hk]
        replace hk := Lib.hid hk
        replace hRR := Lib.hid hRR
        go_wp2
        go_ret
        exact ⟨by rw [hRR.out]; rfl, HB⟩
    | true =>
      go_wp2_with fail
      refine (HHa.out _).mono ?_
      rintro e w3 ⟨rfl, hb3⟩
      have HB := hB.trans (hb3.mono hB.size)
      clear m0 m1 m2 m3 m4 m5 m6 m7 g0 g1 g2 g3 g4 g5 g6 g7
      obtain ⟨m0, m1, m2, m3, m4, m5, m6, m7⟩ := cells8 (((hb2.trans (hb3.mono hb2.size)).block w.heap.size (by simp)).trans (heap_alloc_new w _))
      obtain ⟨g0, g1, g2, g3, g4, g5, g6, g7⟩ := cells8 ((HB.block b (lt_of_block hb)).trans hb)
      cases y with
      | true =>
        have f1 : ((i : Int) == (n : Int) - 1) = decide (i + 1 = n) := by rw [Bool.eq_iff_iff]; simp; omega
        by_cases h1 : i + 1 = n
        · have hRR : R = true := by rw [hR.out]; simp [h1]
          rw [decide_eq_true h1] at f1
          replace h1 := Lib.hid h1
          replace hRR := Lib.hid hRR
          go_wp2
          go_ret
          exact ⟨by rw [hRR.out]; rfl, HB⟩
        · obtain ⟨q, hq⟩ : ∃ q, T[i + 1]? = some q := ⟨T[i + 1]'(by rw [HN.out]; omega), by simp⟩
          have hRR : R = decide (ofP true ps q.1 < 0) := by rw [hR.out]; simp [h1, hq]
          rw [decide_eq_false h1] at f1
          obtain ⟨q0, q1, q2, q3, q4, q5, q6, q7⟩ := tok8 (tok_at (hat.out.below HB) hq)
          have HO := HOf.out q w3 HB
          obtain ⟨z, hz⟩ : ∃ z, z = ofP true ps q.1 := ⟨_, rfl⟩
          rw [← hz] at hRR HO
          have hi1 : (i : Int) + 1 < n := by omega
          have hi0 : (0 : Int) ≤ (i : Int) + 1 := by omega
          have hit : ((i : Int) + 1).toNat = i + 1 := by omega
          replace h1 := Lib.hid h1
          replace hRR := Lib.hid hRR
          replace hz := Lib.hid hz
          replace hq := Lib.hid hq
          replace HO := Lib.hid HO
          go_wp2_with fail
          refine HO.out.mono ?_
          rintro e w4 ⟨rfl, hb4⟩
          go_wp2
          go_ret
          exact ⟨by rw [hRR.out]; rfl, HB.trans (hb4.mono HB.size)⟩
      | false =>
        by_cases hk : t.kind = 1
        · by_cases ht : t.text = restN
          · have htb : (t.text.toList == [95, 95, 86, 65, 95, 65, 82, 71, 83, 95, 95]) = true := by rw [beq_text]; exact decide_eq_true ht
            have hRR : R = !va := by rw [hR.out]; simp [hk, ht]
            rw [hk] at m0
            replace hk := Lib.hid hk
            replace ht := Lib.hid ht
            replace hRR := Lib.hid hRR
            go_wp2
            go_ret
            exact ⟨by rw [hRR.out]; rfl, HB⟩
          · have htb : (t.text.toList == [95, 95, 86, 65, 95, 65, 82, 71, 83, 95, 95]) = false := by rw [beq_text]; exact decide_eq_false ht
            have hRR : R = false := by rw [hR.out]; simp [hk, ht]
            rw [hk] at m0
            replace hk := Lib.hid hk
            replace ht := Lib.hid ht
            replace hRR := Lib.hid hRR
            go_wp2
            go_ret
            exact ⟨by rw [hRR.out]; rfl, HB⟩
        · have hkb : (t.kind == 1) = false := by simpa using hk
          have hRR : R = false := by rw [hR.out]; simp [hk]
          replace hk := Lib.hid hk
          replace hRR := Lib.hid hRR
          go_wp2
          go_ret
          exact ⟨by rw [hRR.out]; rfl, HB⟩
end Go.Proofs.Ythbicbfdldpemaa
