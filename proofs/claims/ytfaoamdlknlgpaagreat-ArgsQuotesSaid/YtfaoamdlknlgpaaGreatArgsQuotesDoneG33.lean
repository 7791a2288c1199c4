/- Texts of this seat's proofs, laid into one file. -/
import Derived.Test.YtfaoamdlknlgpaaGreatArgsQuotesDoneG32
import Derived.Test.YtfaoamdlknlgpaaGreatArgsQuotesDoneG26
import Derived.Test.YtfaoamdlknlgpaaGreatArgsQuotesDoneG31
/- oxbowlaw9's toks. -/
namespace Go.Proofs.YtfaoamdlknlgpaaGreat
open Go.RowKit
set_option linter.unusedVariables false

/-! ## how many tokens a line has -/

def TokInv (n : Nat) (s : LS) : Prop := s.toks.length ≤ s.i ∧ ∀ l ∈ s.out, l.toks.length ≤ n

theorem finL_toks {n m : Nat} : ∀ {ls : List Ln}, (∀ l ∈ ls, l.toks.length ≤ n) → ∀ l ∈ finL m ls, l.toks.length ≤ n
  | [], h, l, hl => by simp [finL] at hl
  | [a], h, l, hl => by simp only [finL, List.mem_singleton] at hl; subst hl; exact h a (by simp)
  | a :: b :: r, h, l, hl => by
    simp only [finL, List.mem_cons] at hl
    rcases hl with rfl | hl
    · exact h l (by simp)
    · exact finL_toks (ls := b :: r) (fun l h' => h l (by simp at h' ⊢; exact .inr h')) l hl

theorem lineStep_toks {R : List Rn} {n : Nat} {s : LS} (hi : s.i < R.length) (h : TokInv R.length s) : match lineStep R n s with | .inl s' => TokInv R.length s' | .inr r => ∀ l ∈ r.1, l.toks.length ≤ R.length := by
  have hs := fun s' => lineStep_i (R := R) (n := n) (s := s) (s' := s') hi
  revert hs
  unfold lineStep
  obtain ⟨h1, h2⟩ := h
  have h3 := fun (l : Ln) (hl : l.toks = s.toks) => show l.toks.length ≤ R.length by rw [hl]; omega
  split
  · intro hs
    refine ⟨by simp, fun l hl => ?_⟩
    simp only [List.mem_append, List.mem_singleton] at hl
    rcases hl with hl | rfl
    · exact h2 l hl
    · exact h3 _ rfl
  · split
    · intro hs
      exact ⟨by simp; omega, h2⟩
    · split
      · split
        · intro hs l hl
          simp only [List.mem_append, List.mem_singleton] at hl
          rcases hl with hl | rfl
          · exact h2 l hl
          · exact h3 _ rfl
        · intro hs
          have := (hs _ rfl).1
          exact ⟨by simp only at this ⊢; omega, h2⟩
      · intro hs
        have := (hs _ rfl).1
        exact ⟨by simp only [List.length_append, List.length_singleton] at this ⊢; omega, h2⟩

theorem linesRun_toks {R : List Rn} {n : Nat} : ∀ (k : Nat) (s : LS), TokInv R.length s → ∀ l ∈ (linesRun R n k s).1, l.toks.length ≤ R.length
  | 0, s, h, l, hl => finL_toks h.2 l hl
  | k + 1, s, h, l, hl => by
    unfold linesRun at hl
    split at hl
    · rename_i hi
      have hstep := lineStep_toks (n := n) hi h
      split at hl
      · rename_i s' he
        rw [he] at hstep
        exact linesRun_toks k s' hstep l hl
      · rename_i r he
        rw [he] at hstep
        exact hstep l hl
    · exact finL_toks h.2 l hl

theorem linesL_toks {text : List UInt8} {l : Ln} (hl : l ∈ (linesL text).1) : l.toks.length ≤ text.length + 1 :=
  Nat.le_trans (linesRun_toks _ _ ⟨by simp, by simp⟩ l hl) (charsL_len text)

def toksOf (ls : List Ln) : List Tm := match ls with | [] => [] | l :: _ => l.toks.map (Tk.tm (bs [102]))
def toksL (s : List UInt8) : List Tm := toksOf (linesL s).1

theorem toksL_len (s : List UInt8) : (toksL s).length ≤ s.length + 1 := by
  unfold toksL toksOf
  cases h : (linesL s).1 with
  | nil => simp
  | cons l r => simp only [List.length_map]; exact linesL_toks (by rw [h]; simp)

def nilTv (t : Tm) : Tm × Value := (t, .slice none 0 0)

end Go.Proofs.YtfaoamdlknlgpaaGreat

/- oxbowlaw10's and oxbowlaw11's toks. -/
namespace Go.Proofs.YtfaoamdlknlgpaaGreat
open Go.RowKit
set_option linter.unusedVariables false

set_option maxRecDepth 100000 in
theorem rToks10_any (s : ByteArray) (hs : s.size ≤ 1000000) (w : World) :
    Calls Tryz.prog 23 #[.string s] w fun e w' => ∃ ao cap, e = .returned (.slice ao (toksL s.data.toList).length cap) ∧ (toksL s.data.toList).length ≤ cap ∧ Row w' 8 ao (((toksL s.data.toList).map nilTv).map tvC) ∧ Below w.heap.size w w' := by
  have HLi := rLines_any (bs [102]) s hs w
  unfold toksL
  obtain ⟨ls, hls⟩ : ∃ ls, ls = (linesL s.data.toList).1 := ⟨_, rfl⟩
  rw [← hls] at HLi ⊢
  clear hls
  replace HLi := Lib.hid HLi
  go_enter Tryz.func23, Tryz.ntmps23
  go_wp2_with fail
  refine HLi.out.mono ?_
  rintro e w1 ⟨vo, vd, lcs, rfl, hown, hlns, hd, hb⟩
  cases hlns with
  | nil =>
    obtain ⟨ao, cap, rfl, _, _, _, _⟩ := hown.rown (n := 0) rfl
    obtain ⟨M, hM⟩ : ∃ M, M = (linesL s.data.toList).2 := ⟨_, rfl⟩
    rw [← hM] at hd
    obtain ⟨ad, cd, rfl, _, _, _, _⟩ := hd.rown (n := M.length) (by simp)
    replace hd := Lib.hid hd
    replace hM := Lib.hid hM
    go_wp2
    go_ret
    exact ⟨none, 0, rfl, Nat.le_refl _, Row.nil _ _ _, hb⟩
  | @cons l c ls css h r =>
    obtain ⟨n, hn⟩ : ∃ n, n = css.length := ⟨_, rfl⟩
    obtain ⟨g, cap, rfl, hcap⟩ := hown.cons_at (by simp)
    have hown' := hown
    rw [List.length_cons, ← hn] at hown' ⊢
    obtain ⟨M, hM⟩ : ∃ M, M = (linesL s.data.toList).2 := ⟨_, rfl⟩
    rw [← hM] at hd
    obtain ⟨ad, cd, rfl, _, _, _, _⟩ := hd.rown (n := M.length) (by simp)
    obtain ⟨ao, tc, rfl, htc, hrow⟩ := h
    obtain ⟨b', o', e', hat⟩ := hown.here (by simp)
    simp at e'
    obtain ⟨rfl, rfl⟩ := e'
    have c0 := hat.cell (i := 0) rfl (j := 0) (u := .slice ao l.toks.length tc) rfl
    simp only [Nat.zero_mul, Nat.add_zero] at c0
    have hn0 : (0 : Int) < ((n + 1 : Nat) : Int) := by omega
    have hne : (((n + 1 : Nat) : Int) == 0) = false := by simp; omega
    have HR : Hid (Row w1 8 ao (((l.toks.map (Tk.tm (bs [102]))).map nilTv).map tvC)) := Lib.hid (fun hne => by
      obtain ⟨b, o, x, fz, rfl, _, _, h⟩ := hrow (by intro e; rw [e] at hne; simp at hne)
      refine ⟨b, o, rfl, ?_⟩
      rw [List.map_map, List.map_map]
      exact h)
    replace hd := Lib.hid hd
    replace hM := Lib.hid hM
    replace hat := Lib.hid hat
    replace hown := Lib.hid hown
    replace hown' := Lib.hid hown'
    replace hn := Lib.hid hn
    replace hrow := Lib.hid hrow
    clear hcap r
    go_wp2
    go_ret
    refine ⟨ao, tc, by simp [toksOf], by simp [toksOf]; exact htc, HR.out, hb⟩
set_option maxRecDepth 100000 in
theorem rToks11_any (s : ByteArray) (hs : s.size ≤ 1000000) (w : World) :
    Calls Tryz.prog 35 #[.string s] w fun e w' => ∃ ao cap, e = .returned (.slice ao (toksL s.data.toList).length cap) ∧ (toksL s.data.toList).length ≤ cap ∧ Row w' 8 ao (((toksL s.data.toList).map nilTv).map tvC) ∧ Below w.heap.size w w' := by
  have HLi := rLines_any (bs [102]) s hs w
  unfold toksL
  obtain ⟨ls, hls⟩ : ∃ ls, ls = (linesL s.data.toList).1 := ⟨_, rfl⟩
  rw [← hls] at HLi ⊢
  clear hls
  replace HLi := Lib.hid HLi
  go_enter Tryz.func35, Tryz.ntmps35
  go_wp2_with fail
  refine HLi.out.mono ?_
  rintro e w1 ⟨vo, vd, lcs, rfl, hown, hlns, hd, hb⟩
  cases hlns with
  | nil =>
    obtain ⟨ao, cap, rfl, _, _, _, _⟩ := hown.rown (n := 0) rfl
    obtain ⟨M, hM⟩ : ∃ M, M = (linesL s.data.toList).2 := ⟨_, rfl⟩
    rw [← hM] at hd
    obtain ⟨ad, cd, rfl, _, _, _, _⟩ := hd.rown (n := M.length) (by simp)
    replace hd := Lib.hid hd
    replace hM := Lib.hid hM
    go_wp2
    go_ret
    exact ⟨none, 0, rfl, Nat.le_refl _, Row.nil _ _ _, hb⟩
  | @cons l c ls css h r =>
    obtain ⟨n, hn⟩ : ∃ n, n = css.length := ⟨_, rfl⟩
    obtain ⟨g, cap, rfl, hcap⟩ := hown.cons_at (by simp)
    have hown' := hown
    rw [List.length_cons, ← hn] at hown' ⊢
    obtain ⟨M, hM⟩ : ∃ M, M = (linesL s.data.toList).2 := ⟨_, rfl⟩
    rw [← hM] at hd
    obtain ⟨ad, cd, rfl, _, _, _, _⟩ := hd.rown (n := M.length) (by simp)
    obtain ⟨ao, tc, rfl, htc, hrow⟩ := h
    obtain ⟨b', o', e', hat⟩ := hown.here (by simp)
    simp at e'
    obtain ⟨rfl, rfl⟩ := e'
    have c0 := hat.cell (i := 0) rfl (j := 0) (u := .slice ao l.toks.length tc) rfl
    simp only [Nat.zero_mul, Nat.add_zero] at c0
    have hn0 : (0 : Int) < ((n + 1 : Nat) : Int) := by omega
    have hne : (((n + 1 : Nat) : Int) == 0) = false := by simp; omega
    have HR : Hid (Row w1 8 ao (((l.toks.map (Tk.tm (bs [102]))).map nilTv).map tvC)) := Lib.hid (fun hne => by
      obtain ⟨b, o, x, fz, rfl, _, _, h⟩ := hrow (by intro e; rw [e] at hne; simp at hne)
      refine ⟨b, o, rfl, ?_⟩
      rw [List.map_map, List.map_map]
      exact h)
    replace hd := Lib.hid hd
    replace hM := Lib.hid hM
    replace hat := Lib.hid hat
    replace hown := Lib.hid hown
    replace hown' := Lib.hid hown'
    replace hn := Lib.hid hn
    replace hrow := Lib.hid hrow
    clear hcap r
    go_wp2
    go_ret
    refine ⟨ao, tc, by simp [toksOf], by simp [toksOf]; exact htc, HR.out, hb⟩
end Go.Proofs.YtfaoamdlknlgpaaGreat

/- args: Collect on a text's tokens; what comes of it, as a walk wants it. -/
namespace Go.Proofs.YtfaoamdlknlgpaaGreat
open Go.RowKit
set_option linter.unusedVariables false

/-- tokens without sites -/
def nilTf (t : Tm) : Tf := (t, [])

theorem nil_slots {w : World} {l : List Tm} {i : Nat} {p : Tm × Value} {x : Tf} (hp : (l.map nilTv)[i]? = some p) (hx : (l.map nilTf)[i]? = some x) : p.1 = x.1 ∧ SiteIn w p.2 x.2 := by
  rw [List.getElem?_map] at hp hx
  cases h : l[i]? with
  | none => rw [h] at hp; cases hp
  | some t =>
    rw [h] at hp hx
    simp only [Option.map_some, Option.some.injEq] at hp hx
    subst hp hx
    exact ⟨rfl, SiteIn.nil _⟩

theorem collectN_any (l : List Tm) (ao : Option Addr) (cap : Nat) (hn : l.length ≤ 1000000) (hcap : l.length ≤ cap) (w : World) (hrow : Row w 8 ao ((l.map nilTv).map tvC)) :
    Calls Tryz.prog 22 #[.slice ao l.length cap] w fun e w' => CollPost (colP (l.map nilTf)) w.heap.size e w' ∧ Below w.heap.size w w' := by
  have hl : (l.map nilTv).length = l.length := by simp
  have h := collect_any (l.map nilTf) (l.map nilTv) ao cap (by rw [hl]; exact hn) (by rw [hl]; exact hcap) w hrow (by simp) (fun i p x hp hx => nil_slots hp hx)
  rwa [hl] at h

/-- a text's tokens: the row, and what it holds -/
theorem toks10_row (s : ByteArray) (hs : s.size ≤ 100000) (w : World) :
    Calls Tryz.prog 23 #[.string s] w fun e w' => ∃ (l : List Tm) (n : Nat) (ao : Option Addr) (cap : Nat), e = .returned (.slice ao n cap) ∧ Below w.heap.size w w' ∧ Hid (l = toksL s.data.toList) ∧ Hid (l.length = n ∧ n ≤ s.size + 1 ∧ n ≤ cap ∧ Row w' 8 ao ((l.map nilTv).map tvC)) := by
  refine (rToks10_any s (by omega) w).mono ?_
  rintro e w' ⟨ao, cap, rfl, hcap, hrow, hb⟩
  have hl := toksL_len s.data.toList
  rw [← Lib.size_eq] at hl
  exact ⟨toksL s.data.toList, _, ao, cap, rfl, hb, Lib.hid rfl, Lib.hid ⟨rfl, hl, hcap, hrow⟩⟩
/-- a text's tokens: the row, and what it holds -/
theorem toks11_row (s : ByteArray) (hs : s.size ≤ 100000) (w : World) :
    Calls Tryz.prog 35 #[.string s] w fun e w' => ∃ (l : List Tm) (n : Nat) (ao : Option Addr) (cap : Nat), e = .returned (.slice ao n cap) ∧ Below w.heap.size w w' ∧ Hid (l = toksL s.data.toList) ∧ Hid (l.length = n ∧ n ≤ s.size + 1 ∧ n ≤ cap ∧ Row w' 8 ao ((l.map nilTv).map tvC)) := by
  refine (rToks11_any s (by omega) w).mono ?_
  rintro e w' ⟨ao, cap, rfl, hcap, hrow, hb⟩
  have hl := toksL_len s.data.toList
  rw [← Lib.size_eq] at hl
  exact ⟨toksL s.data.toList, _, ao, cap, rfl, hb, Lib.hid rfl, Lib.hid ⟨rfl, hl, hcap, hrow⟩⟩

theorem OwnT.slice {X : List Tf} {B n : Nat} {v : Value} {w : World} (h : OwnT X B v w) (hn : X.length = n) : ∃ ao cap, v = .slice ao n cap := by
  obtain ⟨T, h1, h2, h3⟩ := h
  obtain ⟨ao, cap, rfl, _⟩ := h1.rown (n := n) (by rw [List.length_map, h2, hn])
  exact ⟨ao, cap, rfl⟩

theorem OwnLs.slice {XX : List (List Tf)} {B n : Nat} {v : Value} {w : World} (h : OwnLs XX B v w) (hn : XX.length = n) : ∃ ao cap, v = .slice ao n cap := by
  obtain ⟨vs, h1, h2, h3⟩ := h
  obtain ⟨ao, cap, rfl, _⟩ := h1.rown (n := n) (by rw [List.length_map, h2, hn])
  exact ⟨ao, cap, rfl⟩

/-- a list among them: its cell -/
theorem OwnLs.cell {XX : List (List Tf)} {X : List Tf} {B n k : Nat} {ao : Option Addr} {cap : Nat} {w : World} (h : OwnLs XX B (.slice ao n cap) w) (hk : XX[k]? = some X) :
    ∃ b o la lc, ao = some ⟨b, o, none⟩ ∧ w.cell? ⟨b, o + k, none⟩ = some (.slice la X.length lc) ∧ OwnT X B (.slice la X.length lc) w := by
  obtain ⟨vs, h1, h2, h3⟩ := h
  obtain ⟨u, hu⟩ : ∃ u, vs[k]? = some u := ⟨_, List.getElem?_eq_getElem (by rw [h2]; exact (List.getElem?_eq_some_iff.1 hk).1)⟩
  have hT := h3 k u X hu hk
  obtain ⟨la, lc, rfl⟩ := hT.slice rfl
  obtain ⟨b, o, rfl, hat⟩ := h1.here (by intro e; simp at e; rw [e] at hu; simp at hu)
  have hc := hat.cell (i := k) (cs := [.slice la X.length lc]) (by rw [List.getElem?_map, hu]; rfl) (j := 0) rfl
  simp only [Nat.mul_one, Nat.add_zero] at hc
  exact ⟨b, o, la, lc, rfl, hc, hT⟩
end Go.Proofs.YtfaoamdlknlgpaaGreat
