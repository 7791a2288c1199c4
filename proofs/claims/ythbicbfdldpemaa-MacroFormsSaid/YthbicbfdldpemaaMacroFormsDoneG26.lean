/- Texts of this seat's proofs, laid into one file. -/
import Derived.Test.YthbicbfdldpemaaMacroFormsDoneG25
import Derived.Test.YthbicbfdldpemaaMacroFormsDoneG21
/- oxbowlaw9's toks. -/
namespace Go.Proofs.Ythbicbfdldpemaa
open Go.RowKit
set_option linter.unusedVariables false

/-! ## how many tokens a line has -/

def TokInv (n : Nat) (s : LS) : Prop := s.toks.length ≤ s.i ∧ ∀ l ∈ s.out, l.toks.length ≤ n

theorem finL_toks {n m : Nat} : ∀ {ls : List Ln}, (∀ l ∈ ls, l.toks.length ≤ n) → ∀ l ∈ finL m ls, l.toks.length ≤ n
  | [], h, l, hl => by simp [finL] at hl
  | [a], h, l, hl => by simp only [finL, List.mem_singleton] at hl; subst hl; exact h a (by simp)
  | a :: b :: r, h, l, hl => by
    simp only [finL, List.mem_cons] at hl
    rcases hl with rfl | hl
    · exact h l (by simp)
    · exact finL_toks (ls := b :: r) (fun l h' => h l (by simp at h' ⊢; exact .inr h')) l hl

theorem lineStep_toks {R : List Rn} {n : Nat} {s : LS} (hi : s.i < R.length) (h : TokInv R.length s) : match lineStep R n s with | .inl s' => TokInv R.length s' | .inr r => ∀ l ∈ r.1, l.toks.length ≤ R.length := by
  have hs := fun s' => lineStep_i (R := R) (n := n) (s := s) (s' := s') hi
  revert hs
  unfold lineStep
  obtain ⟨h1, h2⟩ := h
  have h3 := fun (l : Ln) (hl : l.toks = s.toks) => show l.toks.length ≤ R.length by rw [hl]; omega
  split
  · intro hs
    refine ⟨by simp, fun l hl => ?_⟩
    simp only [List.mem_append, List.mem_singleton] at hl
    rcases hl with hl | rfl
    · exact h2 l hl
    · exact h3 _ rfl
  · split
    · intro hs
      exact ⟨by simp; omega, h2⟩
    · split
      · split
        · intro hs l hl
          simp only [List.mem_append, List.mem_singleton] at hl
          rcases hl with hl | rfl
          · exact h2 l hl
          · exact h3 _ rfl
        · intro hs
          have := (hs _ rfl).1
          exact ⟨by simp only at this ⊢; omega, h2⟩
      · intro hs
        have := (hs _ rfl).1
        exact ⟨by simp only [List.length_append, List.length_singleton] at this ⊢; omega, h2⟩

theorem linesRun_toks {R : List Rn} {n : Nat} : ∀ (k : Nat) (s : LS), TokInv R.length s → ∀ l ∈ (linesRun R n k s).1, l.toks.length ≤ R.length
  | 0, s, h, l, hl => finL_toks h.2 l hl
  | k + 1, s, h, l, hl => by
    unfold linesRun at hl
    split at hl
    · rename_i hi
      have hstep := lineStep_toks (n := n) hi h
      split at hl
      · rename_i s' he
        rw [he] at hstep
        exact linesRun_toks k s' hstep l hl
      · rename_i r he
        rw [he] at hstep
        exact hstep l hl
    · exact finL_toks h.2 l hl

theorem linesL_toks {text : List UInt8} {l : Ln} (hl : l ∈ (linesL text).1) : l.toks.length ≤ text.length + 1 :=
  Nat.le_trans (linesRun_toks _ _ ⟨by simp, by simp⟩ l hl) (charsL_len text)

def toksOf (ls : List Ln) : List Tm := match ls with | [] => [] | l :: _ => l.toks.map (Tk.tm (bs [102]))
def toksL (s : List UInt8) : List Tm := toksOf (linesL s).1

theorem toksL_len (s : List UInt8) : (toksL s).length ≤ s.length + 1 := by
  unfold toksL toksOf
  cases h : (linesL s).1 with
  | nil => simp
  | cons l r => simp only [List.length_map]; exact linesL_toks (by rw [h]; simp)

def nilTv (t : Tm) : Tm × Value := (t, .slice none 0 0)

set_option maxRecDepth 100000 in
theorem rToks_any (s : ByteArray) (hs : s.size ≤ 1000000) (w : World) :
    Calls Try.prog 15 #[.string s] w fun e w' => ∃ ao cap, e = .returned (.slice ao (toksL s.data.toList).length cap) ∧ (toksL s.data.toList).length ≤ cap ∧ Row w' 8 ao (((toksL s.data.toList).map nilTv).map tvC) ∧ Below w.heap.size w w' := by
  have HLi := rLines_any (bs [102]) s hs w
  unfold toksL
  obtain ⟨ls, hls⟩ : ∃ ls, ls = (linesL s.data.toList).1 := ⟨_, rfl⟩
  rw [← hls] at HLi ⊢
  clear hls
  replace HLi := Lib.hid HLi
  go_enter Try.func15, Try.ntmps15
  go_wp2_with fail
  refine HLi.out.mono ?_
  rintro e w1 ⟨vo, vd, lcs, rfl, hown, hlns, hd, hb⟩
  cases hlns with
  | nil =>
    obtain ⟨ao, cap, rfl, _, _, _, _⟩ := hown.rown (n := 0) rfl
    obtain ⟨M, hM⟩ : ∃ M, M = (linesL s.data.toList).2 := ⟨_, rfl⟩
    rw [← hM] at hd
    obtain ⟨ad, cd, rfl, _, _, _, _⟩ := hd.rown (n := M.length) (by simp)
    replace hd := Lib.hid hd
    replace hM := Lib.hid hM
    go_wp2
    go_ret
    exact ⟨none, 0, rfl, Nat.le_refl _, Row.nil _ _ _, hb⟩
  | @cons l c ls css h r =>
    obtain ⟨n, hn⟩ : ∃ n, n = css.length := ⟨_, rfl⟩
    obtain ⟨g, cap, rfl, hcap⟩ := hown.cons_at (by simp)
    have hown' := hown
    rw [List.length_cons, ← hn] at hown' ⊢
    obtain ⟨M, hM⟩ : ∃ M, M = (linesL s.data.toList).2 := ⟨_, rfl⟩
    rw [← hM] at hd
    obtain ⟨ad, cd, rfl, _, _, _, _⟩ := hd.rown (n := M.length) (by simp)
    obtain ⟨ao, tc, rfl, htc, hrow⟩ := h
    obtain ⟨b', o', e', hat⟩ := hown.here (by simp)
    simp at e'
    obtain ⟨rfl, rfl⟩ := e'
    have c0 := hat.cell (i := 0) rfl (j := 0) (u := .slice ao l.toks.length tc) rfl
    simp only [Nat.zero_mul, Nat.add_zero] at c0
    have hn0 : (0 : Int) < ((n + 1 : Nat) : Int) := by omega
    have hne : (((n + 1 : Nat) : Int) == 0) = false := by simp; omega
    have HR : Hid (Row w1 8 ao (((l.toks.map (Tk.tm (bs [102]))).map nilTv).map tvC)) := Lib.hid (fun hne => by
      obtain ⟨b, o, x, fz, rfl, _, _, h⟩ := hrow (by intro e; rw [e] at hne; simp at hne)
      refine ⟨b, o, rfl, ?_⟩
      rw [List.map_map, List.map_map]
      exact h)
    replace hd := Lib.hid hd
    replace hM := Lib.hid hM
    replace hat := Lib.hid hat
    replace hown := Lib.hid hown
    replace hown' := Lib.hid hown'
    replace hn := Lib.hid hn
    replace hrow := Lib.hid hrow
    clear hcap r
    go_wp2
    go_ret
    refine ⟨ao, tc, by simp [toksOf], by simp [toksOf]; exact htc, HR.out, hb⟩
end Go.Proofs.Ythbicbfdldpemaa
