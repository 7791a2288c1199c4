/- Texts of this seat's proofs, laid into one file. -/
import Derived.Test.YtfaoamdlknlgpaaGreatSubstHashDoneG9
import Derived.Test.YtfaoamdlknlgpaaGreatSubstHashDoneG10
import Derived.Deep.LoopGhost
import Derived.Lib.SliceRun
/- macro: tokens in new memory: slices.Clone of sites, direct.Own. -/
namespace Go.Proofs.YtfaoamdlknlgpaaGreat
open Go.RowKit
set_option linter.unusedVariables false

theorem E66 : EI Tryz.prog 32 66 (.agg #[.string ⟨#[]⟩, .string ⟨#[]⟩, .int .i64 0, .int .i64 0, .bool false]) 5 56 := ⟨Tryz.underlying32, by kernel_rfl, rfl, by decide⟩

/-- a token's sites as they come: nothing but that they can be read -/
def SiteIn (w : World) (v : Value) (css : List (List Value)) : Prop :=
  ∃ ao cap, v = .slice ao css.length cap ∧ css.length ≤ 1000000 ∧ (ao = none → css = [] ∧ cap = 0) ∧ Row w 5 ao css ∧ (∀ c ∈ css, c.length = 5) ∧ ∀ u ∈ css.flatten, u.oneCell' = true

theorem SiteIn.nil (w : World) : SiteIn w (.slice none 0 0) [] := ⟨none, 0, rfl, by simp, fun _ => ⟨rfl, rfl⟩, Row.nil _ _ _, by simp, by simp⟩

set_option maxRecDepth 100000 in
theorem mClone_any (v : Value) (css : List (List Value)) (B : Nat) (w : World) (hB : B ≤ w.heap.size) (h : SiteIn w v css) :
    Calls Tryz.prog 59 #[v] w fun e w' => ∃ v', e = .returned v' ∧ Below w.heap.size w w' ∧ Own w' B 66 5 v' css ∧ (v = .slice none 0 0 → v' = .slice none 0 0) := by
  obtain ⟨ao, cap, rfl, hn, h0, hrow, hc5, h1⟩ := h
  have hq : ∀ (w : World) (a : Option Addr) (n c n' c' : Nat), (binOp .eql 32 (.slice a n c) (.slice none n' c')).run Tryz.prog w = .ok (.bool a.isNone) w := fun w a n c n' c' => Lib.run_eql_slice_nil w _ _ a n c n' c' Tryz.underlying32
  cases ao with
  | none =>
    obtain ⟨rfl, rfl⟩ := h0 rfl
    clear h0 hrow hc5 h1 hn
    simp only [List.length_nil]
    go_enter Tryz.func59, Tryz.ntmps59
    go_wp2
    go_ret
    exact ⟨_, rfl, Below.refl _ _, Own.nil _ _ _ _, fun _ => rfl⟩
  | some a =>
    obtain ⟨n, hnn⟩ : ∃ n, n = css.length := ⟨_, rfl⟩
    rw [← hnn]
    replace hnn := Lib.hid hnn
    replace h0 := Lib.hid h0
    replace hrow := Lib.hid hrow
    replace hc5 := Lib.hid hc5
    replace h1 := Lib.hid h1
    go_enter Tryz.func59, Tryz.ntmps59
    have hnews : ∀ j u, css.flatten[j]? = some u → (w.alloc (.cells #[] 66)).cell? (a.add j) = some u := by
      intro j u hj
      have hne : css ≠ [] := by rintro rfl; simp at hj
      obtain ⟨b, o, e, hat⟩ := hrow.out hne
      injection e with e
      subst e
      refine kept_cell ((Below.refl _ w).alloc (Nat.le_refl _) _) ?_
      rw [Addr.add_lit]
      have hl := flatten_len hc5.out
      have hj2 : j < css.length * 5 := by rw [← hl]; exact (List.getElem?_eq_some_iff.1 hj).1
      obtain ⟨c, hc⟩ : ∃ c, css[j / 5]? = some c := ⟨_, List.getElem?_eq_getElem (by omega)⟩
      have hcl : c.length = 5 := hc5.out c (List.mem_of_getElem? hc)
      obtain ⟨v, hv⟩ : ∃ v, c[j % 5]? = some v := ⟨_, List.getElem?_eq_getElem (by omega)⟩
      have h3 := flatten_at hc5.out hc hv
      rw [show j / 5 * 5 + j % 5 = j by omega, hj] at h3
      injection h3 with h3
      rw [h3]
      have h4 := hat _ _ hc _ _ hv
      rwa [show o + j / 5 * 5 + j % 5 = o + j by omega] at h4
    replace hnews := Lib.hid hnews
    obtain ⟨ti, hi, hz0, hz1, hz2⟩ := info_parts E66.info
    have hnl : css.flatten.length = n * 5 := by rw [flatten_len hc5.out, hnn.out]
    have hn' : n ≤ 1000000 := by rw [hnn.out]; exact hn
    replace hnl := Lib.hid hnl
    go_wp2_with (at_builtin; go_must (refine wpList_append_own _ rfl _ _ 32 rfl B 66 ti _ 5 56 E66.under hi hz0 hz1 hz2 E66.zs E66.pos _ 0 [] rfl (World.ownsRow_lit w #[] 0 hB (Nat.zero_le _) rfl) a n cap css.flatten rfl hnl.out hnews.out h1.out (by unfold maxLen; omega) (by omega) (by simp; omega) ?_); intro v' w' hown hg hnil)
    go_ret
    refine ⟨v', rfl, ?_, ⟨?_, hc5.out⟩, fun e => by simp at e⟩
    · exact ((Below.refl _ w).alloc (Nat.le_refl _) _).grown hg (by simp) (by intro k hk; have hk' : some w.heap.size = some k := hk; injection hk' with hk'; omega)
    · rw [← hnn.out]
      simpa using hown

theorem SiteIn.below {w w' : World} {v : Value} {css : List (List Value)} (h : SiteIn w v css) (hb : Below w.heap.size w w') : SiteIn w' v css := by
  obtain ⟨ao, cap, h1, h2, h3, h4, h5⟩ := h
  exact ⟨ao, cap, h1, h2, h3, h4.below hb, h5⟩

theorem Own.cons_at {w : World} {B e sz : Nat} {v : Value} {css : List (List Value)} (h : Own w B e sz v css) (hne : css ≠ []) : ∃ g cap, v = .slice (some ⟨g, 0, none⟩) css.length cap ∧ css.length ≤ cap := by
  rcases h.1.2 with ⟨_, h0⟩ | ⟨g, cap, cur, hv, _, _, hn, _⟩
  · exact absurd (List.eq_nil_of_length_eq_zero h0) hne
  · exact ⟨g, cap, hv, hn⟩

def tvC (p : Tm × Value) : List Value := tmC p.1 p.2

theorem tok8 {w : World} {rb o : Nat} {t : Tm} {v : Value} {css : List (List Value)} (h : RowAt w 8 rb o (tmC t v :: css)) :
    w.cell? ⟨rb, o, none⟩ = some (.int .i64 t.kind) ∧ w.cell? ⟨rb, o + 1, none⟩ = some (.string t.text) ∧ w.cell? ⟨rb, o + 2, none⟩ = some (.bool t.sp) ∧ w.cell? ⟨rb, o + 3, none⟩ = some (.string t.file) ∧ w.cell? ⟨rb, o + 4, none⟩ = some (.int .i64 t.f) ∧ w.cell? ⟨rb, o + 5, none⟩ = some (.int .i64 t.t) ∧ w.cell? ⟨rb, o + 6, none⟩ = some (.bool t.made) ∧ w.cell? ⟨rb, o + 7, none⟩ = some v := by
  have := fun j u hj => h 0 _ rfl j u hj
  simp only [Nat.zero_mul, Nat.add_zero] at this
  exact ⟨this 0 _ rfl, this 1 _ rfl, this 2 _ rfl, this 3 _ rfl, this 4 _ rfl, this 5 _ rfl, this 6 _ rfl, this 7 _ rfl⟩

theorem RowAt.drop {w : World} {sz b o : Nat} {css : List (List Value)} (h : RowAt w sz b o css) (i : Nat) : RowAt w sz b (o + i * sz) (css.drop i) := by
  intro k cs hk j u hj
  rw [List.getElem?_drop] at hk
  have := h (i + k) cs hk j u hj
  rw [show o + i * sz + k * sz + j = o + (i + k) * sz + j by rw [Nat.add_mul]; omega]
  exact this

theorem tok_at {w : World} {rb o : Nat} {T : List (Tm × Value)} (h : RowAt w 8 rb o (T.map tvC)) {i : Nat} {p : Tm × Value} (hi : T[i]? = some p) : RowAt w 8 rb (o + i * 8) (tmC p.1 p.2 :: (T.drop (i + 1)).map tvC) := by
  have := h.drop i
  rw [← List.map_drop] at this
  have e : T.drop i = p :: T.drop (i + 1) := by
    rw [List.drop_eq_getElem_cons (List.getElem?_eq_some_iff.1 hi).1, (List.getElem?_eq_some_iff.1 hi).2]
  rw [e] at this
  exact this

theorem Own.setAt {w w2 : World} {B e sz : Nat} {v : Value} {css : List (List Value)} (h : Own w B e sz v css) (hb : Below w.heap.size w w2) {g : Nat} (hg : w.heap.size ≤ g) (j : Nat) (u : Value) : Own (w2.setCell ⟨g, j, none⟩ u) B e sz v css :=
  ⟨ownsRow_setCell_other (h.below hb).1 (by intro e1; obtain ⟨c, fz, hx⟩ := h.size_lt _ e1; have := lt_of_block hx; simp only at this; omega) _, h.2⟩

theorem Own.setType {w : World} {B e e' sz : Nat} {v : Value} {css : List (List Value)} {x : Array Value} {fz : Nat × Nat} (h : Own w B e sz v css) {g : Nat} (hx : w.heap[g]? = some (.cells x e' fz)) (he : e ≠ e') (j : Nat) (u : Value) : Own (w.setCell ⟨g, j, none⟩ u) B e sz v css :=
  ⟨ownsRow_setCell_other h.1 (by
    intro e1
    obtain ⟨c, fz', hc⟩ := h.size_lt _ e1
    simp only at hc
    rw [hx] at hc
    simp only [Option.some.injEq, Obj.cells.injEq] at hc
    exact he hc.2.1.symm) _, h.2⟩

/-- tokens that were copied: the same but for their sites, which are the call's own -/
structure OwnJ (T T' : List (Tm × Value)) (B : Nat) (v : Value) (w : World) : Prop where
  own : Own w B 34 8 v (T'.map tvC)
  same : T'.map (·.1) = (T.take T'.length).map (·.1)
  sites : ∀ p ∈ T', ∃ css, Own w B 66 5 p.2 css
  nils : (∀ p ∈ T, p.2 = .slice none 0 0) → ∀ p ∈ T', p.2 = .slice none 0 0

set_option maxRecDepth 100000 in
theorem mOwn_any (T : List (Tm × Value)) (ao : Option Addr) (cap : Nat) (hn : T.length ≤ 1000000) (hcap : T.length ≤ cap) (w : World) (hrow : Row w 8 ao (T.map tvC)) (hs : ∀ p ∈ T, ∃ css, SiteIn w p.2 css) :
    Calls Tryz.prog 52 #[.slice ao T.length cap] w fun e w' => ∃ v T', e = .returned v ∧ OwnJ T T' w.heap.size v w' ∧ T'.length = T.length ∧ Below w.heap.size w w' := by
  obtain ⟨n, hnn⟩ : ∃ n, n = T.length := ⟨_, rfl⟩
  have HN : Hid (T.length = n) := Lib.hid hnn.symm
  rw [← hnn] at hn hcap ⊢
  have HS := Lib.hid hs
  clear hs hnn
  have hz0 := Nat.le_refl w.heap.size
  go_enter Tryz.func52, Tryz.ntmps52
  go_wp2
  go_loopg [2, 7] n (fun u v i wr => ∃ T' : List (Tm × Value), u = n - T'.length ∧ T'.length ≤ n ∧ i = .int .i64 T'.length ∧ OwnJ T T' w.heap.size v wr ∧ Below w.heap.size w wr)
  case atStart => exact ⟨[], rfl, Nat.zero_le _, rfl, ⟨Own.nil _ _ _ _, rfl, by simp, by simp⟩, Below.refl _ _⟩
  case round =>
    obtain ⟨T', rfl, hk, rfl, hJ, hb⟩ := hrel
    obtain ⟨k, hkk⟩ : ∃ k, k = T'.length := ⟨_, rfl⟩
    have HK : Hid (T'.length = k) := Lib.hid hkk.symm
    rw [← hkk] at hk ⊢
    clear hkk
    by_cases hlt : k < n
    · obtain ⟨⟨t, v⟩, hp⟩ : ∃ p, T[k]? = some p := ⟨T[k]'(by rw [HN.out]; exact hlt), by simp⟩
      obtain ⟨rb, o, rfl, hat⟩ := (hrow.below hb) (by intro h; simp at h; subst h; simp at hp)
      obtain ⟨t0, t1, t2, t3, t4, t5, t6, t7⟩ := tok8 (tok_at hat hp)
      obtain ⟨css, hsi⟩ := HS.out _ (List.mem_of_getElem? hp)
      have HC := fun w' (h : Below w.heap.size w w') => mClone_any v css w.heap.size w' h.size (hsi.below h)
      obtain ⟨sao, scap, hv, _⟩ := hsi
      simp only at hv t7
      subst hv
      replace HC := Lib.hid HC
      replace hp := Lib.hid hp
      replace hJ := Lib.hid hJ
      clear hat hrow
      go_wp2_with fail
      have hb1 : Below w.heap.size w (wr.alloc (.cells #[.int .i64 t.kind, .string t.text, .bool t.sp, .string t.file, .int .i64 t.f, .int .i64 t.t, .bool t.made, .slice sao css.length scap] 34)) := hb.alloc hb.size _
      refine (HC.out _ hb1).mono ?_
      rintro e w2 ⟨v2, rfl, hb2, hown2, hnil2⟩
      obtain ⟨sao2, scap2, rfl, _, _, _, _⟩ := hown2.rown (n := css.length) rfl
      have hb3 := hb1.trans (hb2.mono hb1.size)
      have hc2 := (hb2.block wr.heap.size (by simp)).trans (heap_alloc_new wr _)
      obtain ⟨m0, m1, m2, m3, m4, m5, m6, m7⟩ := cells8 hc2
      have f2 := fun j => Lib.frozen_of_heap hc2 j
      have hbx : Below wr.heap.size wr w2 := ((Below.refl _ wr).alloc (Nat.le_refl _) _).trans (hb2.mono (by simp))
      have hownT := hJ.out.own.setAt hbx (Nat.le_refl _) 7 (.slice sao2 css.length scap2)
      have hownS := hown2.setType hc2 (by decide) 7 (.slice sao2 css.length scap2)
      have hownA : Hid (∀ p ∈ T', ∃ css', Own (w2.setCell ⟨wr.heap.size, 7, none⟩ (.slice sao2 css.length scap2)) w.heap.size 66 5 p.2 css') := Lib.hid (fun p hp => by
        obtain ⟨css', h⟩ := hJ.out.sites p hp
        exact ⟨css', h.setAt hbx (Nat.le_refl _) 7 _⟩)
      have hb4 : Below w.heap.size w (w2.setCell ⟨wr.heap.size, 7, none⟩ (.slice sao2 css.length scap2)) := hb3.setCell (p := ⟨wr.heap.size, 7, none⟩) hb.size _
      have hlen : (T'.map tvC).length + 1 ≤ 1000000000 := by rw [List.length_map, HK.out]; omega
      replace hnil2 := Lib.hid hnil2
      clear hb2 hown2 hc2 hbx t0 t1 t2 t3 t4 t5 t6 t7
      go_wp2_with (at_builtin; go_must (refine wpList_append1 E34 rfl rfl hownT rfl (g := w2.heap.size) rfl (news := [.int .i64 t.kind, .string t.text, .bool t.sp, .string t.file, .int .i64 t.f, .int .i64 t.t, .bool t.made, .slice sao2 css.length scap2]) (by simp) rfl (by simp [Value.oneCell']) hlen (by decide) hb4.size ?_); intro v5 w5 hown5 hg5)
      go_roundg (n - (k + 1))
      case measure => (have := HK.out; omega)
      case rel =>
        refine ⟨T' ++ [(t, .slice sao2 css.length scap2)], by rw [List.length_append, HK.out]; rfl, by rw [List.length_append, HK.out]; exact hlt, by rw [List.length_append, HK.out]; go_num, ⟨?_, ?_, ?_, ?_⟩, bapp hb4 hownT hg5 hb4.size⟩
        · rw [List.map_append]; exact hown5
        · have hs := hJ.out.same
          rw [HK.out] at hs
          rw [List.map_append, hs, List.length_append, HK.out, List.length_singleton, List.take_add_one, hp.out]
          simp
        · intro p hp
          rcases List.mem_append.1 hp with h | h
          · obtain ⟨css', h'⟩ := hownA.out p h
            exact ⟨css', h'.kept hg5 (own_apart h' hownT (by decide))⟩
          · simp at h; subst h
            exact ⟨css, hownS.kept hg5 (own_apart hownS hownT (by decide))⟩
        · intro h p hp'
          rcases List.mem_append.1 hp' with h' | h'
          · exact hJ.out.nils h p h'
          · simp at h'; subst h'
            exact hnil2.out (h _ (List.mem_of_getElem? hp.out))
    · have hkn : k = n := by omega
      subst hkn
      replace hJ := Lib.hid hJ
      go_wp2
      go_ret
      exact ⟨_, T', rfl, hJ.out, HK.out, hb⟩
end Go.Proofs.YtfaoamdlknlgpaaGreat
