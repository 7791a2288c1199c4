/- Texts of this seat's proofs, laid into one file. -/
import Derived.Test.YtfaoamdlknlgpaaGreatArgsCollectDoneG19
import Derived.Test.YtfaoamdlknlgpaaGreatArgsCollectDoneG21
import Derived.Test.YtfaoamdlknlgpaaGreatArgsCollectDoneG22
/- args: what its texts share. -/
namespace Go.Proofs.YtfaoamdlknlgpaaGreat
open Go.RowKit
set_option linter.unusedVariables false

/-- a token's sites are a slice, whatever they hold -/
def SlV (v : Value) : Prop := ∃ a n c, v = .slice a n c
end Go.Proofs.YtfaoamdlknlgpaaGreat

/- tokens with what their sites hold; direct.Own of them. -/
namespace Go.Proofs.YtfaoamdlknlgpaaGreat
open Go.RowKit
set_option linter.unusedVariables false

/-- a token, and its sites as cells -/
abbrev Tf := Tm × List (List Value)

/-- tokens of the call's own, their sites too -/
def OwnT (X : List Tf) (B : Nat) (v : Value) (w : World) : Prop :=
  ∃ T' : List (Tm × Value), Own w B 34 8 v (T'.map tvC) ∧ T'.length = X.length ∧ ∀ (i : Nat) p x, T'[i]? = some p → X[i]? = some x → p.1 = x.1 ∧ Own w B 66 5 p.2 x.2

structure OwnK (X : List Tf) (T' : List (Tm × Value)) (B : Nat) (v : Value) (w : World) : Prop where
  own : Own w B 34 8 v (T'.map tvC)
  rel : ∀ (i : Nat) p x, T'[i]? = some p → X[i]? = some x → p.1 = x.1 ∧ Own w B 66 5 p.2 x.2

/-- sites' cells are as a site's must be -/
def SitesOk (css : List (List Value)) : Prop := css.length ≤ 1000000 ∧ (∀ c ∈ css, c.length = 5) ∧ ∀ u ∈ css.flatten, u.oneCell' = true

/-- tokens that can be read -/
def ToksIn (w : World) (v : Value) (X : List Tf) : Prop :=
  ∃ (ao : Option Addr) (cap : Nat) (T : List (Tm × Value)), v = .slice ao X.length cap ∧ X.length ≤ cap ∧ cap ≤ maxLen ∧ (ao = none → X = [] ∧ cap = 0) ∧ Row w 8 ao (T.map tvC) ∧ T.length = X.length ∧ ∀ (i : Nat) p x, T[i]? = some p → X[i]? = some x → p.1 = x.1 ∧ SiteIn w p.2 x.2

theorem ToksIn.below {w w' : World} {v : Value} {X : List Tf} (h : ToksIn w v X) (hb : Below w.heap.size w w') : ToksIn w' v X := by
  obtain ⟨ao, cap, T, h1, h2, h3, h4, h5, h6, h7⟩ := h
  exact ⟨ao, cap, T, h1, h2, h3, h4, h5.below hb, h6, fun i p x hp hx => ⟨(h7 i p x hp hx).1, (h7 i p x hp hx).2.below hb⟩⟩

theorem OwnT.below {w w' : World} {B : Nat} {v : Value} {X : List Tf} (h : OwnT X B v w) (hb : Below w.heap.size w w') : OwnT X B v w' := by
  obtain ⟨T, h1, h2, h3⟩ := h
  exact ⟨T, h1.below hb, h2, fun i p x hp hx => ⟨(h3 i p x hp hx).1, (h3 i p x hp hx).2.below hb⟩⟩

theorem OwnT.mono {w : World} {B B' : Nat} {v : Value} {X : List Tf} (h : OwnT X B v w) (hB : B' ≤ B) : OwnT X B' v w := by
  obtain ⟨T, h1, h2, h3⟩ := h
  exact ⟨T, h1.mono hB, h2, fun i p x hp hx => ⟨(h3 i p x hp hx).1, (h3 i p x hp hx).2.mono hB⟩⟩

theorem own_siteIn {w : World} {B : Nat} {v : Value} {css : List (List Value)} (h : Own w B 66 5 v css) (hk : SitesOk css) : SiteIn w v css := by
  obtain ⟨ao, cap, rfl, h1, h2, h3, h4⟩ := h.row
  exact ⟨ao, cap, rfl, hk.1, h4, h3, hk.2.1, hk.2.2⟩

/-- tokens that the call owns can be read -/
theorem OwnT.toks {w : World} {B : Nat} {v : Value} {X : List Tf} (h : OwnT X B v w) (hk : ∀ x ∈ X, SitesOk x.2) : ToksIn w v X := by
  obtain ⟨T, h1, h2, h3⟩ := h
  obtain ⟨ao, cap, rfl, a1, a2, a3, a4⟩ := h1.rown (n := X.length) (by rw [List.length_map, h2])
  refine ⟨ao, cap, T, rfl, a1, a2, fun e => ⟨?_, (a4 e).2⟩, a3, h2, fun i p x hp hx => ⟨(h3 i p x hp hx).1, own_siteIn (h3 i p x hp hx).2 (hk x (List.mem_of_getElem? hx))⟩⟩
  have := (a4 e).1
  have h5 : T = [] := by simpa using this
  rw [h5] at h2
  exact List.eq_nil_of_length_eq_zero h2.symm

set_option maxRecDepth 100000 in
theorem mOwnF_any (X : List Tf) (T : List (Tm × Value)) (ao : Option Addr) (cap : Nat) (hn : T.length ≤ 1000000) (hcap : T.length ≤ cap) (w : World) (hrow : Row w 8 ao (T.map tvC)) (hTX : T.length = X.length) (hs : ∀ (i : Nat) p x, T[i]? = some p → X[i]? = some x → p.1 = x.1 ∧ SiteIn w p.2 x.2) :
    Calls Tryz.prog 52 #[.slice ao T.length cap] w fun e w' => ∃ v, e = .returned v ∧ OwnT X w.heap.size v w' ∧ Below w.heap.size w w' := by
  obtain ⟨n, hnn⟩ : ∃ n, n = T.length := ⟨_, rfl⟩
  have HN : Hid (T.length = n) := Lib.hid hnn.symm
  rw [← hnn] at hn hcap ⊢
  have HS := Lib.hid hs
  have HTX := Lib.hid hTX
  clear hs hnn hTX
  have hz0 := Nat.le_refl w.heap.size
  go_enter Tryz.func52, Tryz.ntmps52
  go_wp2
  go_loopg [2, 7] n (fun u v i wr => ∃ T' : List (Tm × Value), u = n - T'.length ∧ T'.length ≤ n ∧ i = .int .i64 T'.length ∧ OwnK X T' w.heap.size v wr ∧ Below w.heap.size w wr)
  case atStart => exact ⟨[], rfl, Nat.zero_le _, rfl, ⟨Own.nil _ _ _ _, by simp⟩, Below.refl _ _⟩
  case round =>
    obtain ⟨T', rfl, hk, rfl, hJ, hb⟩ := hrel
    obtain ⟨k, hkk⟩ : ∃ k, k = T'.length := ⟨_, rfl⟩
    have HK : Hid (T'.length = k) := Lib.hid hkk.symm
    rw [← hkk] at hk ⊢
    clear hkk
    by_cases hlt : k < n
    · obtain ⟨⟨t, v⟩, hp⟩ : ∃ p, T[k]? = some p := ⟨T[k]'(by rw [HN.out]; exact hlt), by simp⟩
      obtain ⟨rb, o, rfl, hat⟩ := (hrow.below hb) (by intro h; simp at h; subst h; simp at hp)
      obtain ⟨t0, t1, t2, t3, t4, t5, t6, t7⟩ := tok8 (tok_at hat hp)
      obtain ⟨⟨tx, css⟩, hx⟩ : ∃ x, X[k]? = some x := ⟨_, List.getElem?_eq_getElem (by rw [← HTX.out, HN.out]; exact hlt)⟩
      obtain ⟨htx, hsi⟩ := HS.out _ _ _ hp hx
      simp only at htx hsi
      subst htx
      replace hx := Lib.hid hx
      have HC := fun w' (h : Below w.heap.size w w') => mClone_any v css w.heap.size w' h.size (hsi.below h)
      obtain ⟨sao, scap, hv, _⟩ := hsi
      simp only at hv t7
      subst hv
      replace HC := Lib.hid HC
      replace hp := Lib.hid hp
      replace hJ := Lib.hid hJ
      clear hat hrow
      go_wp2_with fail
      have hb1 : Below w.heap.size w (wr.alloc (.cells #[.int .i64 t.kind, .string t.text, .bool t.sp, .string t.file, .int .i64 t.f, .int .i64 t.t, .bool t.made, .slice sao css.length scap] 34)) := hb.alloc hb.size _
      refine (HC.out _ hb1).mono ?_
      rintro e w2 ⟨v2, rfl, hb2, hown2, hnil2⟩
      obtain ⟨sao2, scap2, rfl, _, _, _, _⟩ := hown2.rown (n := css.length) rfl
      have hb3 := hb1.trans (hb2.mono hb1.size)
      have hc2 := (hb2.block wr.heap.size (by simp)).trans (heap_alloc_new wr _)
      obtain ⟨m0, m1, m2, m3, m4, m5, m6, m7⟩ := cells8 hc2
      have f2 := fun j => Lib.frozen_of_heap hc2 j
      have hbx : Below wr.heap.size wr w2 := ((Below.refl _ wr).alloc (Nat.le_refl _) _).trans (hb2.mono (by simp))
      have hownT := hJ.out.own.setAt hbx (Nat.le_refl _) 7 (.slice sao2 css.length scap2)
      have hownS := hown2.setType hc2 (by decide) 7 (.slice sao2 css.length scap2)
      have hownA : Hid (∀ (i : Nat) p x, T'[i]? = some p → X[i]? = some x → p.1 = x.1 ∧ Own (w2.setCell ⟨wr.heap.size, 7, none⟩ (.slice sao2 css.length scap2)) w.heap.size 66 5 p.2 x.2) := Lib.hid (fun i p x h1 h2 => by
        obtain ⟨h3, h4⟩ := hJ.out.rel i p x h1 h2
        exact ⟨h3, h4.setAt hbx (Nat.le_refl _) 7 _⟩)
      have hb4 : Below w.heap.size w (w2.setCell ⟨wr.heap.size, 7, none⟩ (.slice sao2 css.length scap2)) := hb3.setCell (p := ⟨wr.heap.size, 7, none⟩) hb.size _
      have hlen : (T'.map tvC).length + 1 ≤ 1000000000 := by rw [List.length_map, HK.out]; omega
      replace hnil2 := Lib.hid hnil2
      clear hb2 hown2 hc2 hbx t0 t1 t2 t3 t4 t5 t6 t7
      go_wp2_with (at_builtin; go_must (refine wpList_append1 E34 rfl rfl hownT rfl (g := w2.heap.size) rfl (news := [.int .i64 t.kind, .string t.text, .bool t.sp, .string t.file, .int .i64 t.f, .int .i64 t.t, .bool t.made, .slice sao2 css.length scap2]) (by simp) rfl (by simp [Value.oneCell']) hlen (by decide) hb4.size ?_); intro v5 w5 hown5 hg5)
      go_roundg (n - (k + 1))
      case measure => (have := HK.out; omega)
      case rel =>
        refine ⟨T' ++ [(t, .slice sao2 css.length scap2)], by rw [List.length_append, HK.out]; rfl, by rw [List.length_append, HK.out]; exact hlt, by rw [List.length_append, HK.out]; go_num, ⟨?_, ?_⟩, bapp hb4 hownT hg5 hb4.size⟩
        · rw [List.map_append]; exact hown5
        · intro j p x h1 h2
          by_cases hjk : j < T'.length
          · rw [List.getElem?_append_left hjk] at h1
            obtain ⟨h3, h4⟩ := hownA.out j p x h1 h2
            exact ⟨h3, h4.kept hg5 (own_apart h4 hownT (by decide))⟩
          · rw [List.getElem?_append_right (by omega)] at h1
            have hj0 : j - T'.length = 0 := by
              have := (List.getElem?_eq_some_iff.1 h1).1
              simp at this
              omega
            rw [hj0] at h1
            have hjk2 : j = k := by have := HK.out; omega
            subst hjk2
            rw [hx.out] at h2
            simp at h1 h2
            subst h1 h2
            exact ⟨rfl, hownS.kept hg5 (own_apart hownS hownT (by decide))⟩
    · have hkn : k = n := by omega
      subst hkn
      replace hJ := Lib.hid hJ
      go_wp2
      go_ret
      exact ⟨_, rfl, ⟨T', hJ.out.own, by rw [HK.out, ← HTX.out, HN.out], hJ.out.rel⟩, hb⟩
end Go.Proofs.YtfaoamdlknlgpaaGreat

/- args: Parts, over Collect's own tokens. -/
namespace Go.Proofs.YtfaoamdlknlgpaaGreat
open Go.RowKit
set_option linter.unusedVariables false

abbrev sOpen : ByteArray := ⟨#[40]⟩
abbrev sShut : ByteArray := ⟨#[41]⟩
abbrev sComma : ByteArray := ⟨#[44]⟩
def pOpen (t : Tm) : Bool := isP t sOpen
def pShut (t : Tm) : Bool := isP t sShut
def pComma (t : Tm) : Bool := isP t sComma

/-- what stands between brackets, as places: behind the opening one -/
def partsR : List Tm → Nat → Nat → Nat → List (Nat × Nat) → Option (List (Nat × Nat) × Nat)
  | [], _, _, _, _ => none
  | t :: r, i, dep, fr, out =>
    if pOpen t then partsR r (i + 1) (dep + 1) fr out
    else if pShut t then if dep = 1 then some (out ++ [(fr, i)], i + 1) else partsR r (i + 1) (dep - 1) fr out
    else if pComma t && decide (dep = 1) then partsR r (i + 1) dep (i + 1) (out ++ [(fr, i)])
    else partsR r (i + 1) dep fr out

def partsL : List Tm → Option (List (Nat × Nat) × Nat)
  | [] => none
  | t :: r => if pOpen t then partsR r 1 1 1 [] else none

def paC (p : Nat × Nat) : List Value := [.int .i64 p.1, .int .i64 p.2]
theorem Ep95 : EI Tryz.prog 90 95 (.agg #[.int .i64 0, .int .i64 0]) 2 16 := ⟨Tryz.underlying90, by kernel_rfl, rfl, by decide⟩

def PartsPost (R : Option (List (Nat × Nat) × Nat)) (B : Nat) (e : Ending) (w' : World) : Prop :=
  match R with
  | none => e = .returned (.tuple #[.slice none 0 0, .int .i64 0])
  | some (ps, u) => ∃ v, e = .returned (.tuple #[v, .int .i64 u]) ∧ Own w' B 95 2 v (ps.map paC)

set_option maxRecDepth 100000 in
/-- Collect's own closure: a token of the row -/
theorem collectAt_any (T : List (Tm × Value)) (ao : Option Addr) (cap : Nat) (hcap : T.length ≤ cap) (b : Nat) (w : World) (hrow : Row w 8 ao (T.map tvC)) (hb : w.cell? ⟨b, 0, none⟩ = some (.slice ao T.length cap)) (hs : ∀ p ∈ T, SlV p.2) (i : Nat) (t : Tm) (v : Value) (hi : T[i]? = some (t, v)) :
    Calls Tryz.prog 51 #[.int .i64 i, .pointer (some ⟨b, 0, none⟩)] w fun e w' => e = .returned (.agg (tmC t v).toArray) ∧ Below w.heap.size w w' := by
  obtain ⟨n, hnn⟩ : ∃ n, n = T.length := ⟨_, rfl⟩
  have hin : i < n := by rw [hnn]; exact (List.getElem?_eq_some_iff.1 hi).1
  have hin' : (i : Int) < n := by omega
  obtain ⟨rb, o, rfl, hat⟩ := hrow (by intro h; simp at h; subst h; simp at hi)
  obtain ⟨t0, t1, t2, t3, t4, t5, t6, t7⟩ := tok8 (tok_at hat hi)
  obtain ⟨sa, sn, sc, hv⟩ := hs _ (List.mem_of_getElem? hi)
  simp only at hv
  subst hv
  rw [← hnn] at hcap hb
  simp only at t0 t1 t2 t3 t4 t5 t6 t7
  unfold tmC
  have bA : ∀ o, Below w.heap.size w (w.alloc o) := fun o => (Below.refl _ _).alloc (Nat.le_refl _) _
  have hb' := fun o => kept_cell (bA o) hb
  have t0' := fun o => kept_cell (bA o) t0
  have t1' := fun o => kept_cell (bA o) t1
  have t2' := fun o => kept_cell (bA o) t2
  have t3' := fun o => kept_cell (bA o) t3
  have t4' := fun o => kept_cell (bA o) t4
  have t5' := fun o => kept_cell (bA o) t5
  have t6' := fun o => kept_cell (bA o) t6
  have t7' := fun o => kept_cell (bA o) t7
  clear hat hi hs hnn hrow bA
  go_enter Tryz.func51, Tryz.ntmps51
  go_wp2
  refine bodyPost_ret (results_cell_row rfl _ _ w.heap.size 34 _ (0, 0) _ rfl (heap_alloc_new _ _) Tryz.underlying34 rfl (by kernel_rfl)) rfl ?_
  exact ⟨rfl, (Below.refl _ _).alloc (Nat.le_refl _) _⟩
end Go.Proofs.YtfaoamdlknlgpaaGreat

/- oxbowlaw10's and oxbowlaw11's toks. -/
namespace Go.Proofs.YtfaoamdlknlgpaaGreat
open Go.RowKit
set_option linter.unusedVariables false

set_option maxRecDepth 100000 in
theorem rToks10_any (s : ByteArray) (hs : s.size ≤ 1000000) (w : World) :
    Calls Tryz.prog 23 #[.string s] w fun e w' => ∃ ao cap, e = .returned (.slice ao (toksL s.data.toList).length cap) ∧ (toksL s.data.toList).length ≤ cap ∧ Row w' 8 ao (((toksL s.data.toList).map nilTv).map tvC) ∧ Below w.heap.size w w' := by
  have HLi := rLines_any (bs [102]) s hs w
  unfold toksL
  obtain ⟨ls, hls⟩ : ∃ ls, ls = (linesL s.data.toList).1 := ⟨_, rfl⟩
  rw [← hls] at HLi ⊢
  clear hls
  replace HLi := Lib.hid HLi
  go_enter Tryz.func23, Tryz.ntmps23
  go_wp2_with fail
  refine HLi.out.mono ?_
  rintro e w1 ⟨vo, vd, lcs, rfl, hown, hlns, hd, hb⟩
  cases hlns with
  | nil =>
    obtain ⟨ao, cap, rfl, _, _, _, _⟩ := hown.rown (n := 0) rfl
    obtain ⟨M, hM⟩ : ∃ M, M = (linesL s.data.toList).2 := ⟨_, rfl⟩
    rw [← hM] at hd
    obtain ⟨ad, cd, rfl, _, _, _, _⟩ := hd.rown (n := M.length) (by simp)
    replace hd := Lib.hid hd
    replace hM := Lib.hid hM
    go_wp2
    go_ret
    exact ⟨none, 0, rfl, Nat.le_refl _, Row.nil _ _ _, hb⟩
  | @cons l c ls css h r =>
    obtain ⟨n, hn⟩ : ∃ n, n = css.length := ⟨_, rfl⟩
    obtain ⟨g, cap, rfl, hcap⟩ := hown.cons_at (by simp)
    have hown' := hown
    rw [List.length_cons, ← hn] at hown' ⊢
    obtain ⟨M, hM⟩ : ∃ M, M = (linesL s.data.toList).2 := ⟨_, rfl⟩
    rw [← hM] at hd
    obtain ⟨ad, cd, rfl, _, _, _, _⟩ := hd.rown (n := M.length) (by simp)
    obtain ⟨ao, tc, rfl, htc, hrow⟩ := h
    obtain ⟨b', o', e', hat⟩ := hown.here (by simp)
    simp at e'
    obtain ⟨rfl, rfl⟩ := e'
    have c0 := hat.cell (i := 0) rfl (j := 0) (u := .slice ao l.toks.length tc) rfl
    simp only [Nat.zero_mul, Nat.add_zero] at c0
    have hn0 : (0 : Int) < ((n + 1 : Nat) : Int) := by omega
    have hne : (((n + 1 : Nat) : Int) == 0) = false := by simp; omega
    have HR : Hid (Row w1 8 ao (((l.toks.map (Tk.tm (bs [102]))).map nilTv).map tvC)) := Lib.hid (fun hne => by
      obtain ⟨b, o, x, fz, rfl, _, _, h⟩ := hrow (by intro e; rw [e] at hne; simp at hne)
      refine ⟨b, o, rfl, ?_⟩
      rw [List.map_map, List.map_map]
      exact h)
    replace hd := Lib.hid hd
    replace hM := Lib.hid hM
    replace hat := Lib.hid hat
    replace hown := Lib.hid hown
    replace hown' := Lib.hid hown'
    replace hn := Lib.hid hn
    replace hrow := Lib.hid hrow
    clear hcap r
    go_wp2
    go_ret
    refine ⟨ao, tc, by simp [toksOf], by simp [toksOf]; exact htc, HR.out, hb⟩
set_option maxRecDepth 100000 in
theorem rToks11_any (s : ByteArray) (hs : s.size ≤ 1000000) (w : World) :
    Calls Tryz.prog 35 #[.string s] w fun e w' => ∃ ao cap, e = .returned (.slice ao (toksL s.data.toList).length cap) ∧ (toksL s.data.toList).length ≤ cap ∧ Row w' 8 ao (((toksL s.data.toList).map nilTv).map tvC) ∧ Below w.heap.size w w' := by
  have HLi := rLines_any (bs [102]) s hs w
  unfold toksL
  obtain ⟨ls, hls⟩ : ∃ ls, ls = (linesL s.data.toList).1 := ⟨_, rfl⟩
  rw [← hls] at HLi ⊢
  clear hls
  replace HLi := Lib.hid HLi
  go_enter Tryz.func35, Tryz.ntmps35
  go_wp2_with fail
  refine HLi.out.mono ?_
  rintro e w1 ⟨vo, vd, lcs, rfl, hown, hlns, hd, hb⟩
  cases hlns with
  | nil =>
    obtain ⟨ao, cap, rfl, _, _, _, _⟩ := hown.rown (n := 0) rfl
    obtain ⟨M, hM⟩ : ∃ M, M = (linesL s.data.toList).2 := ⟨_, rfl⟩
    rw [← hM] at hd
    obtain ⟨ad, cd, rfl, _, _, _, _⟩ := hd.rown (n := M.length) (by simp)
    replace hd := Lib.hid hd
    replace hM := Lib.hid hM
    go_wp2
    go_ret
    exact ⟨none, 0, rfl, Nat.le_refl _, Row.nil _ _ _, hb⟩
  | @cons l c ls css h r =>
    obtain ⟨n, hn⟩ : ∃ n, n = css.length := ⟨_, rfl⟩
    obtain ⟨g, cap, rfl, hcap⟩ := hown.cons_at (by simp)
    have hown' := hown
    rw [List.length_cons, ← hn] at hown' ⊢
    obtain ⟨M, hM⟩ : ∃ M, M = (linesL s.data.toList).2 := ⟨_, rfl⟩
    rw [← hM] at hd
    obtain ⟨ad, cd, rfl, _, _, _, _⟩ := hd.rown (n := M.length) (by simp)
    obtain ⟨ao, tc, rfl, htc, hrow⟩ := h
    obtain ⟨b', o', e', hat⟩ := hown.here (by simp)
    simp at e'
    obtain ⟨rfl, rfl⟩ := e'
    have c0 := hat.cell (i := 0) rfl (j := 0) (u := .slice ao l.toks.length tc) rfl
    simp only [Nat.zero_mul, Nat.add_zero] at c0
    have hn0 : (0 : Int) < ((n + 1 : Nat) : Int) := by omega
    have hne : (((n + 1 : Nat) : Int) == 0) = false := by simp; omega
    have HR : Hid (Row w1 8 ao (((l.toks.map (Tk.tm (bs [102]))).map nilTv).map tvC)) := Lib.hid (fun hne => by
      obtain ⟨b, o, x, fz, rfl, _, _, h⟩ := hrow (by intro e; rw [e] at hne; simp at hne)
      refine ⟨b, o, rfl, ?_⟩
      rw [List.map_map, List.map_map]
      exact h)
    replace hd := Lib.hid hd
    replace hM := Lib.hid hM
    replace hat := Lib.hid hat
    replace hown := Lib.hid hown
    replace hown' := Lib.hid hown'
    replace hn := Lib.hid hn
    replace hrow := Lib.hid hrow
    clear hcap r
    go_wp2
    go_ret
    refine ⟨ao, tc, by simp [toksOf], by simp [toksOf]; exact htc, HR.out, hb⟩
end Go.Proofs.YtfaoamdlknlgpaaGreat
