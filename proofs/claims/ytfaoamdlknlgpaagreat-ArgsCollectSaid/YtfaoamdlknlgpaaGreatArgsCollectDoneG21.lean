/- Texts of this seat's proofs, laid into one file. -/
import Derived.Test.YtfaoamdlknlgpaaGreatArgsCollectDoneG19
import Derived.Test.YtfaoamdlknlgpaaGreatArgsCollectDoneG10
import Derived.Deep.LoopGhost
import Derived.Lib.SliceRun
import Derived.Test.YtfaoamdlknlgpaaGreatArgsCollectDoneG20
/- macro: tokens in new memory: slices.Clone of sites, direct.Own. -/
namespace Go.Proofs.YtfaoamdlknlgpaaGreat
open Go.RowKit
set_option linter.unusedVariables false

theorem E66 : EI Tryz.prog 32 66 (.agg #[.string ⟨#[]⟩, .string ⟨#[]⟩, .int .i64 0, .int .i64 0, .bool false]) 5 56 := ⟨Tryz.underlying32, by kernel_rfl, rfl, by decide⟩

/-- a token's sites as they come: nothing but that they can be read -/
def SiteIn (w : World) (v : Value) (css : List (List Value)) : Prop :=
  ∃ ao cap, v = .slice ao css.length cap ∧ css.length ≤ 1000000 ∧ (ao = none → css = [] ∧ cap = 0) ∧ Row w 5 ao css ∧ (∀ c ∈ css, c.length = 5) ∧ ∀ u ∈ css.flatten, u.oneCell' = true

theorem SiteIn.nil (w : World) : SiteIn w (.slice none 0 0) [] := ⟨none, 0, rfl, by simp, fun _ => ⟨rfl, rfl⟩, Row.nil _ _ _, by simp, by simp⟩

set_option maxRecDepth 100000 in
theorem mClone_any (v : Value) (css : List (List Value)) (B : Nat) (w : World) (hB : B ≤ w.heap.size) (h : SiteIn w v css) :
    Calls Tryz.prog 59 #[v] w fun e w' => ∃ v', e = .returned v' ∧ Below w.heap.size w w' ∧ Own w' B 66 5 v' css ∧ (v = .slice none 0 0 → v' = .slice none 0 0) := by
  obtain ⟨ao, cap, rfl, hn, h0, hrow, hc5, h1⟩ := h
  have hq : ∀ (w : World) (a : Option Addr) (n c n' c' : Nat), (binOp .eql 32 (.slice a n c) (.slice none n' c')).run Tryz.prog w = .ok (.bool a.isNone) w := fun w a n c n' c' => Lib.run_eql_slice_nil w _ _ a n c n' c' Tryz.underlying32
  cases ao with
  | none =>
    obtain ⟨rfl, rfl⟩ := h0 rfl
    clear h0 hrow hc5 h1 hn
    simp only [List.length_nil]
    go_enter Tryz.func59, Tryz.ntmps59
    go_wp2
    go_ret
    exact ⟨_, rfl, Below.refl _ _, Own.nil _ _ _ _, fun _ => rfl⟩
  | some a =>
    obtain ⟨n, hnn⟩ : ∃ n, n = css.length := ⟨_, rfl⟩
    rw [← hnn]
    replace hnn := Lib.hid hnn
    replace h0 := Lib.hid h0
    replace hrow := Lib.hid hrow
    replace hc5 := Lib.hid hc5
    replace h1 := Lib.hid h1
    go_enter Tryz.func59, Tryz.ntmps59
    have hnews : ∀ j u, css.flatten[j]? = some u → (w.alloc (.cells #[] 66)).cell? (a.add j) = some u := by
      intro j u hj
      have hne : css ≠ [] := by rintro rfl; simp at hj
      obtain ⟨b, o, e, hat⟩ := hrow.out hne
      injection e with e
      subst e
      refine kept_cell ((Below.refl _ w).alloc (Nat.le_refl _) _) ?_
      rw [Addr.add_lit]
      have hl := flatten_len hc5.out
      have hj2 : j < css.length * 5 := by rw [← hl]; exact (List.getElem?_eq_some_iff.1 hj).1
      obtain ⟨c, hc⟩ : ∃ c, css[j / 5]? = some c := ⟨_, List.getElem?_eq_getElem (by omega)⟩
      have hcl : c.length = 5 := hc5.out c (List.mem_of_getElem? hc)
      obtain ⟨v, hv⟩ : ∃ v, c[j % 5]? = some v := ⟨_, List.getElem?_eq_getElem (by omega)⟩
      have h3 := flatten_at hc5.out hc hv
      rw [show j / 5 * 5 + j % 5 = j by omega, hj] at h3
      injection h3 with h3
      rw [h3]
      have h4 := hat _ _ hc _ _ hv
      rwa [show o + j / 5 * 5 + j % 5 = o + j by omega] at h4
    replace hnews := Lib.hid hnews
    obtain ⟨ti, hi, hz0, hz1, hz2⟩ := info_parts E66.info
    have hnl : css.flatten.length = n * 5 := by rw [flatten_len hc5.out, hnn.out]
    have hn' : n ≤ 1000000 := by rw [hnn.out]; exact hn
    replace hnl := Lib.hid hnl
    go_wp2_with (at_builtin; go_must (refine wpList_append_own _ rfl _ _ 32 rfl B 66 ti _ 5 56 E66.under hi hz0 hz1 hz2 E66.zs E66.pos _ 0 [] rfl (World.ownsRow_lit w #[] 0 hB (Nat.zero_le _) rfl) a n cap css.flatten rfl hnl.out hnews.out h1.out (by unfold maxLen; omega) (by omega) (by simp; omega) ?_); intro v' w' hown hg hnil)
    go_ret
    refine ⟨v', rfl, ?_, ⟨?_, hc5.out⟩, fun e => by simp at e⟩
    · exact ((Below.refl _ w).alloc (Nat.le_refl _) _).grown hg (by simp) (by intro k hk; have hk' : some w.heap.size = some k := hk; injection hk' with hk'; omega)
    · rw [← hnn.out]
      simpa using hown

theorem SiteIn.below {w w' : World} {v : Value} {css : List (List Value)} (h : SiteIn w v css) (hb : Below w.heap.size w w') : SiteIn w' v css := by
  obtain ⟨ao, cap, h1, h2, h3, h4, h5⟩ := h
  exact ⟨ao, cap, h1, h2, h3, h4.below hb, h5⟩

theorem Own.cons_at {w : World} {B e sz : Nat} {v : Value} {css : List (List Value)} (h : Own w B e sz v css) (hne : css ≠ []) : ∃ g cap, v = .slice (some ⟨g, 0, none⟩) css.length cap ∧ css.length ≤ cap := by
  rcases h.1.2 with ⟨_, h0⟩ | ⟨g, cap, cur, hv, _, _, hn, _⟩
  · exact absurd (List.eq_nil_of_length_eq_zero h0) hne
  · exact ⟨g, cap, hv, hn⟩

def tvC (p : Tm × Value) : List Value := tmC p.1 p.2

theorem tok8 {w : World} {rb o : Nat} {t : Tm} {v : Value} {css : List (List Value)} (h : RowAt w 8 rb o (tmC t v :: css)) :
    w.cell? ⟨rb, o, none⟩ = some (.int .i64 t.kind) ∧ w.cell? ⟨rb, o + 1, none⟩ = some (.string t.text) ∧ w.cell? ⟨rb, o + 2, none⟩ = some (.bool t.sp) ∧ w.cell? ⟨rb, o + 3, none⟩ = some (.string t.file) ∧ w.cell? ⟨rb, o + 4, none⟩ = some (.int .i64 t.f) ∧ w.cell? ⟨rb, o + 5, none⟩ = some (.int .i64 t.t) ∧ w.cell? ⟨rb, o + 6, none⟩ = some (.bool t.made) ∧ w.cell? ⟨rb, o + 7, none⟩ = some v := by
  have := fun j u hj => h 0 _ rfl j u hj
  simp only [Nat.zero_mul, Nat.add_zero] at this
  exact ⟨this 0 _ rfl, this 1 _ rfl, this 2 _ rfl, this 3 _ rfl, this 4 _ rfl, this 5 _ rfl, this 6 _ rfl, this 7 _ rfl⟩

theorem RowAt.drop {w : World} {sz b o : Nat} {css : List (List Value)} (h : RowAt w sz b o css) (i : Nat) : RowAt w sz b (o + i * sz) (css.drop i) := by
  intro k cs hk j u hj
  rw [List.getElem?_drop] at hk
  have := h (i + k) cs hk j u hj
  rw [show o + i * sz + k * sz + j = o + (i + k) * sz + j by rw [Nat.add_mul]; omega]
  exact this

theorem tok_at {w : World} {rb o : Nat} {T : List (Tm × Value)} (h : RowAt w 8 rb o (T.map tvC)) {i : Nat} {p : Tm × Value} (hi : T[i]? = some p) : RowAt w 8 rb (o + i * 8) (tmC p.1 p.2 :: (T.drop (i + 1)).map tvC) := by
  have := h.drop i
  rw [← List.map_drop] at this
  have e : T.drop i = p :: T.drop (i + 1) := by
    rw [List.drop_eq_getElem_cons (List.getElem?_eq_some_iff.1 hi).1, (List.getElem?_eq_some_iff.1 hi).2]
  rw [e] at this
  exact this

theorem Own.setAt {w w2 : World} {B e sz : Nat} {v : Value} {css : List (List Value)} (h : Own w B e sz v css) (hb : Below w.heap.size w w2) {g : Nat} (hg : w.heap.size ≤ g) (j : Nat) (u : Value) : Own (w2.setCell ⟨g, j, none⟩ u) B e sz v css :=
  ⟨ownsRow_setCell_other (h.below hb).1 (by intro e1; obtain ⟨c, fz, hx⟩ := h.size_lt _ e1; have := lt_of_block hx; simp only at this; omega) _, h.2⟩

theorem Own.setType {w : World} {B e e' sz : Nat} {v : Value} {css : List (List Value)} {x : Array Value} {fz : Nat × Nat} (h : Own w B e sz v css) {g : Nat} (hx : w.heap[g]? = some (.cells x e' fz)) (he : e ≠ e') (j : Nat) (u : Value) : Own (w.setCell ⟨g, j, none⟩ u) B e sz v css :=
  ⟨ownsRow_setCell_other h.1 (by
    intro e1
    obtain ⟨c, fz', hc⟩ := h.size_lt _ e1
    simp only at hc
    rw [hx] at hc
    simp only [Option.some.injEq, Obj.cells.injEq] at hc
    exact he hc.2.1.symm) _, h.2⟩

/-- tokens that were copied: the same but for their sites, which are the call's own -/
structure OwnJ (T T' : List (Tm × Value)) (B : Nat) (v : Value) (w : World) : Prop where
  own : Own w B 34 8 v (T'.map tvC)
  same : T'.map (·.1) = (T.take T'.length).map (·.1)
  sites : ∀ p ∈ T', ∃ css, Own w B 66 5 p.2 css
  nils : (∀ p ∈ T, p.2 = .slice none 0 0) → ∀ p ∈ T', p.2 = .slice none 0 0

set_option maxRecDepth 100000 in
theorem mOwn_any (T : List (Tm × Value)) (ao : Option Addr) (cap : Nat) (hn : T.length ≤ 1000000) (hcap : T.length ≤ cap) (w : World) (hrow : Row w 8 ao (T.map tvC)) (hs : ∀ p ∈ T, ∃ css, SiteIn w p.2 css) :
    Calls Tryz.prog 52 #[.slice ao T.length cap] w fun e w' => ∃ v T', e = .returned v ∧ OwnJ T T' w.heap.size v w' ∧ T'.length = T.length ∧ Below w.heap.size w w' := by
  obtain ⟨n, hnn⟩ : ∃ n, n = T.length := ⟨_, rfl⟩
  have HN : Hid (T.length = n) := Lib.hid hnn.symm
  rw [← hnn] at hn hcap ⊢
  have HS := Lib.hid hs
  clear hs hnn
  have hz0 := Nat.le_refl w.heap.size
  go_enter Tryz.func52, Tryz.ntmps52
  go_wp2
  go_loopg [2, 7] n (fun u v i wr => ∃ T' : List (Tm × Value), u = n - T'.length ∧ T'.length ≤ n ∧ i = .int .i64 T'.length ∧ OwnJ T T' w.heap.size v wr ∧ Below w.heap.size w wr)
  case atStart => exact ⟨[], rfl, Nat.zero_le _, rfl, ⟨Own.nil _ _ _ _, rfl, by simp, by simp⟩, Below.refl _ _⟩
  case round =>
    obtain ⟨T', rfl, hk, rfl, hJ, hb⟩ := hrel
    obtain ⟨k, hkk⟩ : ∃ k, k = T'.length := ⟨_, rfl⟩
    have HK : Hid (T'.length = k) := Lib.hid hkk.symm
    rw [← hkk] at hk ⊢
    clear hkk
    by_cases hlt : k < n
    · obtain ⟨⟨t, v⟩, hp⟩ : ∃ p, T[k]? = some p := ⟨T[k]'(by rw [HN.out]; exact hlt), by simp⟩
      obtain ⟨rb, o, rfl, hat⟩ := (hrow.below hb) (by intro h; simp at h; subst h; simp at hp)
      obtain ⟨t0, t1, t2, t3, t4, t5, t6, t7⟩ := tok8 (tok_at hat hp)
      obtain ⟨css, hsi⟩ := HS.out _ (List.mem_of_getElem? hp)
      have HC := fun w' (h : Below w.heap.size w w') => mClone_any v css w.heap.size w' h.size (hsi.below h)
      obtain ⟨sao, scap, hv, _⟩ := hsi
      simp only at hv t7
      subst hv
      replace HC := Lib.hid HC
      replace hp := Lib.hid hp
      replace hJ := Lib.hid hJ
      clear hat hrow
      go_wp2_with fail
      have hb1 : Below w.heap.size w (wr.alloc (.cells #[.int .i64 t.kind, .string t.text, .bool t.sp, .string t.file, .int .i64 t.f, .int .i64 t.t, .bool t.made, .slice sao css.length scap] 34)) := hb.alloc hb.size _
      refine (HC.out _ hb1).mono ?_
      rintro e w2 ⟨v2, rfl, hb2, hown2, hnil2⟩
      obtain ⟨sao2, scap2, rfl, _, _, _, _⟩ := hown2.rown (n := css.length) rfl
      have hb3 := hb1.trans (hb2.mono hb1.size)
      have hc2 := (hb2.block wr.heap.size (by simp)).trans (heap_alloc_new wr _)
      obtain ⟨m0, m1, m2, m3, m4, m5, m6, m7⟩ := cells8 hc2
      have f2 := fun j => Lib.frozen_of_heap hc2 j
      have hbx : Below wr.heap.size wr w2 := ((Below.refl _ wr).alloc (Nat.le_refl _) _).trans (hb2.mono (by simp))
      have hownT := hJ.out.own.setAt hbx (Nat.le_refl _) 7 (.slice sao2 css.length scap2)
      have hownS := hown2.setType hc2 (by decide) 7 (.slice sao2 css.length scap2)
      have hownA : Hid (∀ p ∈ T', ∃ css', Own (w2.setCell ⟨wr.heap.size, 7, none⟩ (.slice sao2 css.length scap2)) w.heap.size 66 5 p.2 css') := Lib.hid (fun p hp => by
        obtain ⟨css', h⟩ := hJ.out.sites p hp
        exact ⟨css', h.setAt hbx (Nat.le_refl _) 7 _⟩)
      have hb4 : Below w.heap.size w (w2.setCell ⟨wr.heap.size, 7, none⟩ (.slice sao2 css.length scap2)) := hb3.setCell (p := ⟨wr.heap.size, 7, none⟩) hb.size _
      have hlen : (T'.map tvC).length + 1 ≤ 1000000000 := by rw [List.length_map, HK.out]; omega
      replace hnil2 := Lib.hid hnil2
      clear hb2 hown2 hc2 hbx t0 t1 t2 t3 t4 t5 t6 t7
      go_wp2_with (at_builtin; go_must (refine wpList_append1 E34 rfl rfl hownT rfl (g := w2.heap.size) rfl (news := [.int .i64 t.kind, .string t.text, .bool t.sp, .string t.file, .int .i64 t.f, .int .i64 t.t, .bool t.made, .slice sao2 css.length scap2]) (by simp) rfl (by simp [Value.oneCell']) hlen (by decide) hb4.size ?_); intro v5 w5 hown5 hg5)
      go_roundg (n - (k + 1))
      case measure => (have := HK.out; omega)
      case rel =>
        refine ⟨T' ++ [(t, .slice sao2 css.length scap2)], by rw [List.length_append, HK.out]; rfl, by rw [List.length_append, HK.out]; exact hlt, by rw [List.length_append, HK.out]; go_num, ⟨?_, ?_, ?_, ?_⟩, bapp hb4 hownT hg5 hb4.size⟩
        · rw [List.map_append]; exact hown5
        · have hs := hJ.out.same
          rw [HK.out] at hs
          rw [List.map_append, hs, List.length_append, HK.out, List.length_singleton, List.take_add_one, hp.out]
          simp
        · intro p hp
          rcases List.mem_append.1 hp with h | h
          · obtain ⟨css', h'⟩ := hownA.out p h
            exact ⟨css', h'.kept hg5 (own_apart h' hownT (by decide))⟩
          · simp at h; subst h
            exact ⟨css, hownS.kept hg5 (own_apart hownS hownT (by decide))⟩
        · intro h p hp'
          rcases List.mem_append.1 hp' with h' | h'
          · exact hJ.out.nils h p h'
          · simp at h'; subst h'
            exact hnil2.out (h _ (List.mem_of_getElem? hp.out))
    · have hkn : k = n := by omega
      subst hkn
      replace hJ := Lib.hid hJ
      go_wp2
      go_ret
      exact ⟨_, T', rfl, hJ.out, HK.out, hb⟩
end Go.Proofs.YtfaoamdlknlgpaaGreat

/- oxbowlaw9's toks. -/
namespace Go.Proofs.YtfaoamdlknlgpaaGreat
open Go.RowKit
set_option linter.unusedVariables false

/-! ## how many tokens a line has -/

def TokInv (n : Nat) (s : LS) : Prop := s.toks.length ≤ s.i ∧ ∀ l ∈ s.out, l.toks.length ≤ n

theorem finL_toks {n m : Nat} : ∀ {ls : List Ln}, (∀ l ∈ ls, l.toks.length ≤ n) → ∀ l ∈ finL m ls, l.toks.length ≤ n
  | [], h, l, hl => by simp [finL] at hl
  | [a], h, l, hl => by simp only [finL, List.mem_singleton] at hl; subst hl; exact h a (by simp)
  | a :: b :: r, h, l, hl => by
    simp only [finL, List.mem_cons] at hl
    rcases hl with rfl | hl
    · exact h l (by simp)
    · exact finL_toks (ls := b :: r) (fun l h' => h l (by simp at h' ⊢; exact .inr h')) l hl

theorem lineStep_toks {R : List Rn} {n : Nat} {s : LS} (hi : s.i < R.length) (h : TokInv R.length s) : match lineStep R n s with | .inl s' => TokInv R.length s' | .inr r => ∀ l ∈ r.1, l.toks.length ≤ R.length := by
  have hs := fun s' => lineStep_i (R := R) (n := n) (s := s) (s' := s') hi
  revert hs
  unfold lineStep
  obtain ⟨h1, h2⟩ := h
  have h3 := fun (l : Ln) (hl : l.toks = s.toks) => show l.toks.length ≤ R.length by rw [hl]; omega
  split
  · intro hs
    refine ⟨by simp, fun l hl => ?_⟩
    simp only [List.mem_append, List.mem_singleton] at hl
    rcases hl with hl | rfl
    · exact h2 l hl
    · exact h3 _ rfl
  · split
    · intro hs
      exact ⟨by simp; omega, h2⟩
    · split
      · split
        · intro hs l hl
          simp only [List.mem_append, List.mem_singleton] at hl
          rcases hl with hl | rfl
          · exact h2 l hl
          · exact h3 _ rfl
        · intro hs
          have := (hs _ rfl).1
          exact ⟨by simp only at this ⊢; omega, h2⟩
      · intro hs
        have := (hs _ rfl).1
        exact ⟨by simp only [List.length_append, List.length_singleton] at this ⊢; omega, h2⟩

theorem linesRun_toks {R : List Rn} {n : Nat} : ∀ (k : Nat) (s : LS), TokInv R.length s → ∀ l ∈ (linesRun R n k s).1, l.toks.length ≤ R.length
  | 0, s, h, l, hl => finL_toks h.2 l hl
  | k + 1, s, h, l, hl => by
    unfold linesRun at hl
    split at hl
    · rename_i hi
      have hstep := lineStep_toks (n := n) hi h
      split at hl
      · rename_i s' he
        rw [he] at hstep
        exact linesRun_toks k s' hstep l hl
      · rename_i r he
        rw [he] at hstep
        exact hstep l hl
    · exact finL_toks h.2 l hl

theorem linesL_toks {text : List UInt8} {l : Ln} (hl : l ∈ (linesL text).1) : l.toks.length ≤ text.length + 1 :=
  Nat.le_trans (linesRun_toks _ _ ⟨by simp, by simp⟩ l hl) (charsL_len text)

def toksOf (ls : List Ln) : List Tm := match ls with | [] => [] | l :: _ => l.toks.map (Tk.tm (bs [102]))
def toksL (s : List UInt8) : List Tm := toksOf (linesL s).1

theorem toksL_len (s : List UInt8) : (toksL s).length ≤ s.length + 1 := by
  unfold toksL toksOf
  cases h : (linesL s).1 with
  | nil => simp
  | cons l r => simp only [List.length_map]; exact linesL_toks (by rw [h]; simp)

def nilTv (t : Tm) : Tm × Value := (t, .slice none 0 0)

end Go.Proofs.YtfaoamdlknlgpaaGreat

/- A text of pieces (blanks and tokens) is lexed to its tokens: plain. -/
namespace Go.Proofs.YtfaoamdlknlgpaaGreat
set_option linter.unusedVariables false

abbrev Pc := Option (Nat × List UInt8)

def flatP : List Pc → List UInt8
  | [] => []
  | none :: ps => 32 :: flatP ps
  | some (_, t) :: ps => t ++ flatP ps

/-- each token is cut where it ends -/
def GoodP : List Pc → Prop
  | [] => True
  | none :: ps => GoodP ps
  | some (k, t) :: ps => (t ≠ [] ∧ chAt t 0 ≠ 10 ∧ chAt t 0 ≠ 47 ∧ whiteB (chAt t 0) = false ∧ nextL (t ++ (flatP ps ++ [10])) 0 = (k, t.length, false)) ∧ GoodP ps

def spacesP (sp : Bool) : List Pc → List Bool
  | [] => []
  | none :: ps => spacesP true ps
  | some _ :: ps => sp :: spacesP false ps

def tokP (ps : List Pc) : List (Nat × List UInt8) := ps.filterMap id

theorem relexP {R : List Rn} (n : Nat) : ∀ (ps : List Pc) (s : LS), GoodP ps → s.i ≤ R.length → (cs R).drop s.i = flatP ps ++ [10] → s.out = [] → s.diags = [] → s.from_ = 0 →
    ∃ toks', linesFrom R n s = ([⟨s.toks ++ toks', 0, n, false⟩], []) ∧ toks'.map (fun t => (t.kind, t.text)) = tokP ps ∧ toks'.map (·.space) = spacesP s.space ps
  | [], s, _, hi, hd, ho, hg, hf => by
    have hlen : (cs R).length = s.i + 1 := by
      have := congrArg List.length hd
      rw [List.length_drop] at this
      simp [flatP] at this
      omega
    rw [cs_len] at hlen
    have h10 : chAt (cs R) s.i = 10 := by
      have := chAt_drop (cs R) s.i 0
      rw [hd] at this
      exact this.symm
    refine ⟨[], ?_, rfl, rfl⟩
    rw [linesFrom_inl (s' := ⟨s.i + 1, [], rT R s.i, false, s.out ++ [⟨s.toks, s.from_, rT R s.i, false⟩], s.diags⟩) (by omega) (by unfold lineStep; rw [if_pos h10]), linesFrom_end (by simp only; omega), ho, hg, hf]
    simp [finL]
  | none :: ps, s, hG, hi, hd, ho, hg, hf => by
    have hd1 : (cs R).drop s.i = 32 :: (flatP ps ++ [10]) := by rw [hd]; simp [flatP]
    have hlen : (cs R).length = s.i + 1 + (flatP ps).length + 1 := by
      have := congrArg List.length hd1
      rw [List.length_drop] at this
      simp at this
      have hi2 : s.i ≤ (cs R).length := by rw [cs_len]; exact hi
      omega
    have hR := cs_len R
    have h32 : chAt (cs R) s.i = 32 := by
      have := chAt_drop (cs R) s.i 0
      rw [hd1] at this
      exact this.symm
    have st2 : linesFrom R n s = linesFrom R n ⟨s.i + 1, s.toks, s.from_, true, s.out, s.diags⟩ := by
      refine linesFrom_inl (by omega) ?_
      unfold lineStep
      rw [h32, if_neg (by decide), if_pos (by decide)]
    have hd2 : (cs R).drop (s.i + 1) = flatP ps ++ [10] := by
      rw [← List.drop_drop, hd1]; rfl
    obtain ⟨tk', h1, h2, h3⟩ := relexP n ps ⟨s.i + 1, s.toks, s.from_, true, s.out, s.diags⟩ hG (by simp only; omega) hd2 ho hg hf
    exact ⟨tk', by rw [st2, h1], h2, h3⟩
  | some (k, t) :: ps, s, hG, hi, hd, ho, hg, hf => by
    obtain ⟨⟨hne, hnl, h47, hwh, hnx0⟩, hG2⟩ := hG
    have hd1 : (cs R).drop s.i = t ++ (flatP ps ++ [10]) := by rw [hd]; simp [flatP]
    have htl : 0 < t.length := List.length_pos_iff.2 hne
    have hlen : (cs R).length = s.i + t.length + (flatP ps).length + 1 := by
      have := congrArg List.length hd1
      rw [List.length_drop] at this
      simp at this
      have hi2 : s.i ≤ (cs R).length := by rw [cs_len]; exact hi
      omega
    have hR := cs_len R
    have hc0 : chAt (cs R) s.i = chAt t 0 := by
      have := chAt_drop (cs R) s.i 0
      rw [hd1, chAt_app_lt htl] at this
      exact this.symm
    have hcm : ¬ s.i < (commentL (cs R) s.i).1 := by
      rw [com_no]
      · simp
      · intro h0
        rw [hc0] at h0
        exact absurd h0 h47
    have hnx : nextL (cs R) s.i = (k, s.i + t.length, false) := by
      rw [next_shift, hd1, hnx0]
    have htk : tokAt R s = ⟨k, t, s.space, rF R s.i, rT R (s.i + t.length - 1)⟩ := by
      unfold tokAt
      rw [hnx]
      simp only
      rw [hd1, show s.i + t.length - s.i = t.length by omega, List.take_left]
    have st1 : linesFrom R n s = linesFrom R n ⟨s.i + t.length, s.toks ++ [tokAt R s], s.from_, false, s.out, s.diags⟩ := by
      refine linesFrom_inl (by omega) ?_
      unfold lineStep
      rw [if_neg (by rw [hc0]; exact hnl), if_neg (by rw [hc0, hwh]; decide), if_neg hcm, hnx]
      rfl
    have hd2 : (cs R).drop (s.i + t.length) = flatP ps ++ [10] := by
      rw [← List.drop_drop, hd1, List.drop_left]
    obtain ⟨tk', h1, h2, h3⟩ := relexP n ps ⟨s.i + t.length, s.toks ++ [tokAt R s], s.from_, false, s.out, s.diags⟩ hG2 (by simp only; omega) hd2 ho hg hf
    refine ⟨tokAt R s :: tk', ?_, ?_, ?_⟩
    · rw [st1, h1]
      simp
    · rw [List.map_cons, h2, htk]
      rfl
    · rw [List.map_cons, h3, htk]
      rfl

theorem lex_pieces {ps : List Pc} (hne : flatP ps ≠ []) (hG : GoodP ps) (hm : ∀ c ∈ flatP ps, c ≠ 92 ∧ c ≠ 63 ∧ c ≠ 10) :
    ∃ toks', linesL (flatP ps) = ([⟨toks', 0, (flatP ps).length, false⟩], []) ∧ toks'.map (fun t => (t.kind, t.text)) = tokP ps ∧ toks'.map (·.space) = spacesP false ps := by
  have hcs : cs (charsL (flatP ps)) = flatP ps ++ [10] := by
    rcases cs_plain (fun c hc => ⟨(hm c hc).1, (hm c hc).2.1⟩) with h | h
    · exfalso
      obtain ⟨ini, r, h1, h2⟩ := charsL_last (flatP ps) hne
      have h10 : (10 : UInt8) ∈ cs (charsL (flatP ps)) := by
        rw [h1]
        unfold cs
        rw [List.map_append]
        simp [h2]
      rw [h] at h10
      exact (hm 10 h10).2.2 rfl
    · exact h
  obtain ⟨tk', h1, h2, h3⟩ := relexP (R := charsL (flatP ps)) (flatP ps).length ps ⟨0, [], 0, false, [], []⟩ hG (Nat.zero_le _) (by simp [hcs]) rfl rfl rfl
  exact ⟨tk', by simpa [linesL, linesFrom] using h1, h2, h3⟩

/-- the tokens of a text of pieces -/
theorem toks_pieces {ps : List Pc} (hG : GoodP ps) (hm : ∀ c ∈ flatP ps, c ≠ 92 ∧ c ≠ 63 ∧ c ≠ 10) :
    (toksL (flatP ps)).map (fun t => (t.kind, t.text)) = (tokP ps).map (fun p => ((p.1 : Int), bs p.2)) ∧ (toksL (flatP ps)).map (·.sp) = spacesP false ps ∧ ∀ t ∈ toksL (flatP ps), t.made = false := by
  by_cases hne : flatP ps = []
  · have h0 : ps = [] := by
      cases ps with
      | nil => rfl
      | cons p ps =>
        cases p with
        | none => simp [flatP] at hne
        | some p =>
          obtain ⟨k, t⟩ := p
          simp only [flatP, List.append_eq_nil_iff] at hne
          exact absurd hne.1 hG.1.1
    subst h0
    refine ⟨?_, ?_, ?_⟩
    · show (toksL []).map _ = []
      rfl
    · rfl
    · intro t ht
      have : toksL (flatP []) = [] := rfl
      rw [this] at ht
      cases ht
  · obtain ⟨tk, h1, h2, h3⟩ := lex_pieces hne hG hm
    have ht : toksL (flatP ps) = tk.map (Tk.tm (bs [102])) := by
      unfold toksL toksOf
      rw [h1]
    rw [ht]
    refine ⟨?_, ?_, ?_⟩
    · rw [← h2, List.map_map, List.map_map]
      rfl
    · rw [← h3, List.map_map]
      rfl
    · intro t h
      obtain ⟨k, _, rfl⟩ := List.mem_map.1 h
      rfl

/-! ## pieces of one sign, and names -/

theorem next_sign {c : UInt8} (hc : c = 40 ∨ c = 41 ∨ c = 44) (r : List UInt8) : nextL (c :: r) 0 = (5, 1, false) := by
  have h0 : chAt (c :: r) 0 = c := rfl
  have hl : lettersL (c :: r) 0 = -1 := letters_neg (by rw [h0]; rcases hc with rfl | rfl | rfl <;> decide)
  have hp : punctL (c :: r) 0 = 1 := by
    unfold punctL
    rw [List.drop_zero]
    rcases hc with rfl | rfl | rfl <;> simp [punctsL, List.find?, List.isPrefixOf]
  unfold nextL
  rw [hl, hp, h0]
  have hn : numL (c :: r) 0 = 0 := by
    unfold numL
    rw [h0, if_neg]
    rcases hc with rfl | rfl | rfl <;> simp [digitB]
  rw [hn]
  have h3 : letterB c = false := by rcases hc with rfl | rfl | rfl <;> decide
  simp [h3]

theorem next_name {c : UInt8} {t r : List UInt8} (hc : letterB c = true) (hq : c ≠ 117 ∧ c ≠ 76 ∧ c ≠ 85) (ht : ∀ d ∈ t, idB d = true) (hr : idB (chAt r 0) = false) : nextL (c :: (t ++ r)) 0 = (1, t.length + 1, false) := by
  have h0 : chAt (c :: (t ++ r)) 0 = c := rfl
  have hl : lettersL (c :: (t ++ r)) 0 = -1 := letters_neg (by
    rw [h0]
    refine ⟨?_, ?_, hq.1, hq.2.1, hq.2.2⟩ <;> (rintro rfl; exact absurd hc (by decide)))
  have hw : (t ++ r).takeWhile idB = t := by
    rw [List.takeWhile_append_of_pos ht]
    cases r with
    | nil => simp
    | cons d r =>
      have : idB d = false := hr
      simp [List.takeWhile, this]
  unfold nextL
  rw [hl, h0]
  simp [hc, hw, Nat.add_comm]
end Go.Proofs.YtfaoamdlknlgpaaGreat
