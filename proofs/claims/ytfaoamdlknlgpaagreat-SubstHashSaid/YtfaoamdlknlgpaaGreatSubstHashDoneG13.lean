/- Texts of this seat's proofs, laid into one file. -/
import Derived.Test.YtfaoamdlknlgpaaGreatSubstHashDoneG9
import Derived.Test.YtfaoamdlknlgpaaGreatSubstHashDoneG11
import Derived.Test.YtfaoamdlknlgpaaGreatSubstHashDoneG12
import Derived.Deep.LoopGhost
/- args: what its texts share. -/
namespace Go.Proofs.YtfaoamdlknlgpaaGreat
open Go.RowKit
set_option linter.unusedVariables false

/-- a token's sites are a slice, whatever they hold -/
def SlV (v : Value) : Prop := ∃ a n c, v = .slice a n c
end Go.Proofs.YtfaoamdlknlgpaaGreat

/- tokens with what their sites hold; direct.Own of them. -/
namespace Go.Proofs.YtfaoamdlknlgpaaGreat
open Go.RowKit
set_option linter.unusedVariables false

/-- a token, and its sites as cells -/
abbrev Tf := Tm × List (List Value)

/-- tokens of the call's own, their sites too -/
def OwnT (X : List Tf) (B : Nat) (v : Value) (w : World) : Prop :=
  ∃ T' : List (Tm × Value), Own w B 34 8 v (T'.map tvC) ∧ T'.length = X.length ∧ ∀ (i : Nat) p x, T'[i]? = some p → X[i]? = some x → p.1 = x.1 ∧ Own w B 66 5 p.2 x.2

structure OwnK (X : List Tf) (T' : List (Tm × Value)) (B : Nat) (v : Value) (w : World) : Prop where
  own : Own w B 34 8 v (T'.map tvC)
  rel : ∀ (i : Nat) p x, T'[i]? = some p → X[i]? = some x → p.1 = x.1 ∧ Own w B 66 5 p.2 x.2

/-- sites' cells are as a site's must be -/
def SitesOk (css : List (List Value)) : Prop := css.length ≤ 1000000 ∧ (∀ c ∈ css, c.length = 5) ∧ ∀ u ∈ css.flatten, u.oneCell' = true

/-- tokens that can be read -/
def ToksIn (w : World) (v : Value) (X : List Tf) : Prop :=
  ∃ (ao : Option Addr) (cap : Nat) (T : List (Tm × Value)), v = .slice ao X.length cap ∧ X.length ≤ cap ∧ cap ≤ maxLen ∧ (ao = none → X = [] ∧ cap = 0) ∧ Row w 8 ao (T.map tvC) ∧ T.length = X.length ∧ ∀ (i : Nat) p x, T[i]? = some p → X[i]? = some x → p.1 = x.1 ∧ SiteIn w p.2 x.2

theorem ToksIn.below {w w' : World} {v : Value} {X : List Tf} (h : ToksIn w v X) (hb : Below w.heap.size w w') : ToksIn w' v X := by
  obtain ⟨ao, cap, T, h1, h2, h3, h4, h5, h6, h7⟩ := h
  exact ⟨ao, cap, T, h1, h2, h3, h4, h5.below hb, h6, fun i p x hp hx => ⟨(h7 i p x hp hx).1, (h7 i p x hp hx).2.below hb⟩⟩

theorem OwnT.below {w w' : World} {B : Nat} {v : Value} {X : List Tf} (h : OwnT X B v w) (hb : Below w.heap.size w w') : OwnT X B v w' := by
  obtain ⟨T, h1, h2, h3⟩ := h
  exact ⟨T, h1.below hb, h2, fun i p x hp hx => ⟨(h3 i p x hp hx).1, (h3 i p x hp hx).2.below hb⟩⟩

theorem OwnT.mono {w : World} {B B' : Nat} {v : Value} {X : List Tf} (h : OwnT X B v w) (hB : B' ≤ B) : OwnT X B' v w := by
  obtain ⟨T, h1, h2, h3⟩ := h
  exact ⟨T, h1.mono hB, h2, fun i p x hp hx => ⟨(h3 i p x hp hx).1, (h3 i p x hp hx).2.mono hB⟩⟩

theorem own_siteIn {w : World} {B : Nat} {v : Value} {css : List (List Value)} (h : Own w B 66 5 v css) (hk : SitesOk css) : SiteIn w v css := by
  obtain ⟨ao, cap, rfl, h1, h2, h3, h4⟩ := h.row
  exact ⟨ao, cap, rfl, hk.1, h4, h3, hk.2.1, hk.2.2⟩

/-- tokens that the call owns can be read -/
theorem OwnT.toks {w : World} {B : Nat} {v : Value} {X : List Tf} (h : OwnT X B v w) (hk : ∀ x ∈ X, SitesOk x.2) : ToksIn w v X := by
  obtain ⟨T, h1, h2, h3⟩ := h
  obtain ⟨ao, cap, rfl, a1, a2, a3, a4⟩ := h1.rown (n := X.length) (by rw [List.length_map, h2])
  refine ⟨ao, cap, T, rfl, a1, a2, fun e => ⟨?_, (a4 e).2⟩, a3, h2, fun i p x hp hx => ⟨(h3 i p x hp hx).1, own_siteIn (h3 i p x hp hx).2 (hk x (List.mem_of_getElem? hx))⟩⟩
  have := (a4 e).1
  have h5 : T = [] := by simpa using this
  rw [h5] at h2
  exact List.eq_nil_of_length_eq_zero h2.symm

set_option maxRecDepth 100000 in
theorem mOwnF_any (X : List Tf) (T : List (Tm × Value)) (ao : Option Addr) (cap : Nat) (hn : T.length ≤ 1000000) (hcap : T.length ≤ cap) (w : World) (hrow : Row w 8 ao (T.map tvC)) (hTX : T.length = X.length) (hs : ∀ (i : Nat) p x, T[i]? = some p → X[i]? = some x → p.1 = x.1 ∧ SiteIn w p.2 x.2) :
    Calls Tryz.prog 52 #[.slice ao T.length cap] w fun e w' => ∃ v, e = .returned v ∧ OwnT X w.heap.size v w' ∧ Below w.heap.size w w' := by
  obtain ⟨n, hnn⟩ : ∃ n, n = T.length := ⟨_, rfl⟩
  have HN : Hid (T.length = n) := Lib.hid hnn.symm
  rw [← hnn] at hn hcap ⊢
  have HS := Lib.hid hs
  have HTX := Lib.hid hTX
  clear hs hnn hTX
  have hz0 := Nat.le_refl w.heap.size
  go_enter Tryz.func52, Tryz.ntmps52
  go_wp2
  go_loopg [2, 7] n (fun u v i wr => ∃ T' : List (Tm × Value), u = n - T'.length ∧ T'.length ≤ n ∧ i = .int .i64 T'.length ∧ OwnK X T' w.heap.size v wr ∧ Below w.heap.size w wr)
  case atStart => exact ⟨[], rfl, Nat.zero_le _, rfl, ⟨Own.nil _ _ _ _, by simp⟩, Below.refl _ _⟩
  case round =>
    obtain ⟨T', rfl, hk, rfl, hJ, hb⟩ := hrel
    obtain ⟨k, hkk⟩ : ∃ k, k = T'.length := ⟨_, rfl⟩
    have HK : Hid (T'.length = k) := Lib.hid hkk.symm
    rw [← hkk] at hk ⊢
    clear hkk
    by_cases hlt : k < n
    · obtain ⟨⟨t, v⟩, hp⟩ : ∃ p, T[k]? = some p := ⟨T[k]'(by rw [HN.out]; exact hlt), by simp⟩
      obtain ⟨rb, o, rfl, hat⟩ := (hrow.below hb) (by intro h; simp at h; subst h; simp at hp)
      obtain ⟨t0, t1, t2, t3, t4, t5, t6, t7⟩ := tok8 (tok_at hat hp)
      obtain ⟨⟨tx, css⟩, hx⟩ : ∃ x, X[k]? = some x := ⟨_, List.getElem?_eq_getElem (by rw [← HTX.out, HN.out]; exact hlt)⟩
      obtain ⟨htx, hsi⟩ := HS.out _ _ _ hp hx
      simp only at htx hsi
      subst htx
      replace hx := Lib.hid hx
      have HC := fun w' (h : Below w.heap.size w w') => mClone_any v css w.heap.size w' h.size (hsi.below h)
      obtain ⟨sao, scap, hv, _⟩ := hsi
      simp only at hv t7
      subst hv
      replace HC := Lib.hid HC
      replace hp := Lib.hid hp
      replace hJ := Lib.hid hJ
      clear hat hrow
      go_wp2_with fail
      have hb1 : Below w.heap.size w (wr.alloc (.cells #[.int .i64 t.kind, .string t.text, .bool t.sp, .string t.file, .int .i64 t.f, .int .i64 t.t, .bool t.made, .slice sao css.length scap] 34)) := hb.alloc hb.size _
      refine (HC.out _ hb1).mono ?_
      rintro e w2 ⟨v2, rfl, hb2, hown2, hnil2⟩
      obtain ⟨sao2, scap2, rfl, _, _, _, _⟩ := hown2.rown (n := css.length) rfl
      have hb3 := hb1.trans (hb2.mono hb1.size)
      have hc2 := (hb2.block wr.heap.size (by simp)).trans (heap_alloc_new wr _)
      obtain ⟨m0, m1, m2, m3, m4, m5, m6, m7⟩ := cells8 hc2
      have f2 := fun j => Lib.frozen_of_heap hc2 j
      have hbx : Below wr.heap.size wr w2 := ((Below.refl _ wr).alloc (Nat.le_refl _) _).trans (hb2.mono (by simp))
      have hownT := hJ.out.own.setAt hbx (Nat.le_refl _) 7 (.slice sao2 css.length scap2)
      have hownS := hown2.setType hc2 (by decide) 7 (.slice sao2 css.length scap2)
      have hownA : Hid (∀ (i : Nat) p x, T'[i]? = some p → X[i]? = some x → p.1 = x.1 ∧ Own (w2.setCell ⟨wr.heap.size, 7, none⟩ (.slice sao2 css.length scap2)) w.heap.size 66 5 p.2 x.2) := Lib.hid (fun i p x h1 h2 => by
        obtain ⟨h3, h4⟩ := hJ.out.rel i p x h1 h2
        exact ⟨h3, h4.setAt hbx (Nat.le_refl _) 7 _⟩)
      have hb4 : Below w.heap.size w (w2.setCell ⟨wr.heap.size, 7, none⟩ (.slice sao2 css.length scap2)) := hb3.setCell (p := ⟨wr.heap.size, 7, none⟩) hb.size _
      have hlen : (T'.map tvC).length + 1 ≤ 1000000000 := by rw [List.length_map, HK.out]; omega
      replace hnil2 := Lib.hid hnil2
      clear hb2 hown2 hc2 hbx t0 t1 t2 t3 t4 t5 t6 t7
      go_wp2_with (at_builtin; go_must (refine wpList_append1 E34 rfl rfl hownT rfl (g := w2.heap.size) rfl (news := [.int .i64 t.kind, .string t.text, .bool t.sp, .string t.file, .int .i64 t.f, .int .i64 t.t, .bool t.made, .slice sao2 css.length scap2]) (by simp) rfl (by simp [Value.oneCell']) hlen (by decide) hb4.size ?_); intro v5 w5 hown5 hg5)
      go_roundg (n - (k + 1))
      case measure => (have := HK.out; omega)
      case rel =>
        refine ⟨T' ++ [(t, .slice sao2 css.length scap2)], by rw [List.length_append, HK.out]; rfl, by rw [List.length_append, HK.out]; exact hlt, by rw [List.length_append, HK.out]; go_num, ⟨?_, ?_⟩, bapp hb4 hownT hg5 hb4.size⟩
        · rw [List.map_append]; exact hown5
        · intro j p x h1 h2
          by_cases hjk : j < T'.length
          · rw [List.getElem?_append_left hjk] at h1
            obtain ⟨h3, h4⟩ := hownA.out j p x h1 h2
            exact ⟨h3, h4.kept hg5 (own_apart h4 hownT (by decide))⟩
          · rw [List.getElem?_append_right (by omega)] at h1
            have hj0 : j - T'.length = 0 := by
              have := (List.getElem?_eq_some_iff.1 h1).1
              simp at this
              omega
            rw [hj0] at h1
            have hjk2 : j = k := by have := HK.out; omega
            subst hjk2
            rw [hx.out] at h2
            simp at h1 h2
            subst h1 h2
            exact ⟨rfl, hownS.kept hg5 (own_apart hownS hownT (by decide))⟩
    · have hkn : k = n := by omega
      subst hkn
      replace hJ := Lib.hid hJ
      go_wp2
      go_ret
      exact ⟨_, rfl, ⟨T', hJ.out.own, by rw [HK.out, ← HTX.out, HN.out], hJ.out.rel⟩, hb⟩
end Go.Proofs.YtfaoamdlknlgpaaGreat

/- args: Parts, over Collect's own tokens. -/
namespace Go.Proofs.YtfaoamdlknlgpaaGreat
open Go.RowKit
set_option linter.unusedVariables false

abbrev sOpen : ByteArray := ⟨#[40]⟩
abbrev sShut : ByteArray := ⟨#[41]⟩
abbrev sComma : ByteArray := ⟨#[44]⟩
def pOpen (t : Tm) : Bool := isP t sOpen
def pShut (t : Tm) : Bool := isP t sShut
def pComma (t : Tm) : Bool := isP t sComma

/-- what stands between brackets, as places: behind the opening one -/
def partsR : List Tm → Nat → Nat → Nat → List (Nat × Nat) → Option (List (Nat × Nat) × Nat)
  | [], _, _, _, _ => none
  | t :: r, i, dep, fr, out =>
    if pOpen t then partsR r (i + 1) (dep + 1) fr out
    else if pShut t then if dep = 1 then some (out ++ [(fr, i)], i + 1) else partsR r (i + 1) (dep - 1) fr out
    else if pComma t && decide (dep = 1) then partsR r (i + 1) dep (i + 1) (out ++ [(fr, i)])
    else partsR r (i + 1) dep fr out

def partsL : List Tm → Option (List (Nat × Nat) × Nat)
  | [] => none
  | t :: r => if pOpen t then partsR r 1 1 1 [] else none

def paC (p : Nat × Nat) : List Value := [.int .i64 p.1, .int .i64 p.2]
theorem Ep95 : EI Tryz.prog 90 95 (.agg #[.int .i64 0, .int .i64 0]) 2 16 := ⟨Tryz.underlying90, by kernel_rfl, rfl, by decide⟩

def PartsPost (R : Option (List (Nat × Nat) × Nat)) (B : Nat) (e : Ending) (w' : World) : Prop :=
  match R with
  | none => e = .returned (.tuple #[.slice none 0 0, .int .i64 0])
  | some (ps, u) => ∃ v, e = .returned (.tuple #[v, .int .i64 u]) ∧ Own w' B 95 2 v (ps.map paC)

set_option maxRecDepth 100000 in
/-- Collect's own closure: a token of the row -/
theorem collectAt_any (T : List (Tm × Value)) (ao : Option Addr) (cap : Nat) (hcap : T.length ≤ cap) (b : Nat) (w : World) (hrow : Row w 8 ao (T.map tvC)) (hb : w.cell? ⟨b, 0, none⟩ = some (.slice ao T.length cap)) (hs : ∀ p ∈ T, SlV p.2) (i : Nat) (t : Tm) (v : Value) (hi : T[i]? = some (t, v)) :
    Calls Tryz.prog 51 #[.int .i64 i, .pointer (some ⟨b, 0, none⟩)] w fun e w' => e = .returned (.agg (tmC t v).toArray) ∧ Below w.heap.size w w' := by
  obtain ⟨n, hnn⟩ : ∃ n, n = T.length := ⟨_, rfl⟩
  have hin : i < n := by rw [hnn]; exact (List.getElem?_eq_some_iff.1 hi).1
  have hin' : (i : Int) < n := by omega
  obtain ⟨rb, o, rfl, hat⟩ := hrow (by intro h; simp at h; subst h; simp at hi)
  obtain ⟨t0, t1, t2, t3, t4, t5, t6, t7⟩ := tok8 (tok_at hat hi)
  obtain ⟨sa, sn, sc, hv⟩ := hs _ (List.mem_of_getElem? hi)
  simp only at hv
  subst hv
  rw [← hnn] at hcap hb
  simp only at t0 t1 t2 t3 t4 t5 t6 t7
  unfold tmC
  have bA : ∀ o, Below w.heap.size w (w.alloc o) := fun o => (Below.refl _ _).alloc (Nat.le_refl _) _
  have hb' := fun o => kept_cell (bA o) hb
  have t0' := fun o => kept_cell (bA o) t0
  have t1' := fun o => kept_cell (bA o) t1
  have t2' := fun o => kept_cell (bA o) t2
  have t3' := fun o => kept_cell (bA o) t3
  have t4' := fun o => kept_cell (bA o) t4
  have t5' := fun o => kept_cell (bA o) t5
  have t6' := fun o => kept_cell (bA o) t6
  have t7' := fun o => kept_cell (bA o) t7
  clear hat hi hs hnn hrow bA
  go_enter Tryz.func51, Tryz.ntmps51
  go_wp2
  refine bodyPost_ret (results_cell_row rfl _ _ w.heap.size 34 _ (0, 0) _ rfl (heap_alloc_new _ _) Tryz.underlying34 rfl (by kernel_rfl)) rfl ?_
  exact ⟨rfl, (Below.refl _ _).alloc (Nat.le_refl _) _⟩
end Go.Proofs.YtfaoamdlknlgpaaGreat

/- args: Parts. -/
namespace Go.Proofs.YtfaoamdlknlgpaaGreat
open Go.RowKit
set_option linter.unusedVariables false

theorem is_tok (kind : Int) (text : ByteArray) (sp : Bool) (file : ByteArray) (tf tt : Int) (made : Bool) (v : Value) (s : ByteArray) (w : World) :
    Calls Tryz.prog 77 #[.agg #[.int .i64 kind, .string text, .bool sp, .string file, .int .i64 tf, .int .i64 tt, .bool made, v], .string s] w fun e w' => e = .returned (.bool (isP ⟨kind, text, sp, file, tf, tt, made⟩ s)) ∧ Below w.heap.size w w' :=
  mIs_any ⟨kind, text, sp, file, tf, tt, made⟩ v s w

set_option maxRecDepth 100000 in
set_option maxHeartbeats 4000000 in
theorem parts_any (T : List (Tm × Value)) (hn : T.length ≤ 1000000) (b : Nat) (w : World) (hs : ∀ p ∈ T, SlV p.2)
    (HK : ∀ W, Below w.heap.size w W → ∀ (i : Nat) (t : Tm) (v : Value), T[i]? = some (t, v) → Calls Tryz.prog 51 #[.int .i64 i, .pointer (some ⟨b, 0, none⟩)] W fun e w' => e = .returned (.agg (tmC t v).toArray) ∧ Below W.heap.size W w') :
    Calls Tryz.prog 50 #[.int .i64 T.length, .func (.func 51) #[] #[.pointer (some ⟨b, 0, none⟩)]] w fun e w' => PartsPost (partsL (T.map (·.1))) w.heap.size e w' ∧ Below w.heap.size w w' := by
  obtain ⟨n, hnn⟩ : ∃ n, n = T.length := ⟨_, rfl⟩
  have HN : Hid (T.length = n) := Lib.hid hnn.symm
  rw [← hnn] at hn ⊢
  clear hnn
  have HT : Hid (∀ i, i < n → ∃ kind text sp file tf tt made sa sn sc, T[i]? = some (⟨kind, text, sp, file, tf, tt, made⟩, .slice sa sn sc) ∧ Hid (∀ W, Below w.heap.size w W → Calls Tryz.prog 51 #[.int .i64 i, .pointer (some ⟨b, 0, none⟩)] W fun e w' => e = .returned (.agg #[.int .i64 kind, .string text, .bool sp, .string file, .int .i64 tf, .int .i64 tt, .bool made, .slice sa sn sc]) ∧ Below W.heap.size W w')) := Lib.hid fun i hi => by
    obtain ⟨⟨⟨kind, text, sp, file, tf, tt, made⟩, v⟩, hp⟩ : ∃ p, T[i]? = some p := ⟨_, List.getElem?_eq_getElem (by rw [HN.out]; exact hi)⟩
    obtain ⟨sa, sn, sc, hv⟩ := hs _ (List.mem_of_getElem? hp)
    simp only at hv
    subst hv
    exact ⟨kind, text, sp, file, tf, tt, made, sa, sn, sc, hp, Lib.hid fun W hW => HK W hW i _ _ hp⟩
  clear hs HK
  obtain ⟨R, hR⟩ : ∃ R, R = partsL (T.map (·.1)) := ⟨_, rfl⟩
  rw [← hR]
  by_cases h0 : n = 0
  · subst h0
    have hT0 : T = [] := List.eq_nil_of_length_eq_zero HN.out
    have hRn : R = none := by rw [hR, hT0]; rfl
    subst hRn
    clear hR hT0 HT
    go_enter Tryz.func50, Tryz.ntmps50
    go_wp2
    go_ret2
    exact ⟨rfl, Below.refl _ _⟩
  have h0i : ¬ (n : Int) = 0 := by omega
  have h0b : ((n : Int) == 0) = false := beq_false_of_ne h0i
  obtain ⟨kind, text, sp, file, tf, tt, made, sa, sn, sc, hp, HC⟩ := HT.out 0 (by omega)
  have hd : T.map (·.1) = ⟨kind, text, sp, file, tf, tt, made⟩ :: (T.map (·.1)).drop 1 := by
    cases T with
    | nil => simp at hp
    | cons x r => simp at hp; subst hp; rfl
  have HC0 := HC.out w (Below.refl _ w)
  rw [show ((0 : Nat) : Int) = 0 from rfl] at HC0
  replace HC0 := Lib.hid HC0
  have HI := Lib.hid (fun W => is_tok kind text sp file tf tt made (.slice sa sn sc) sOpen W)
  cases ho : isP ⟨kind, text, sp, file, tf, tt, made⟩ sOpen with
  | false =>
    have hRn : R = none := by rw [hR, hd]; show (if isP ⟨kind, text, sp, file, tf, tt, made⟩ sOpen = true then _ else none) = none; rw [ho]; rfl
    subst hRn
    rw [ho] at HI
    clear hR hd hp HC HT ho
    go_enter Tryz.func50, Tryz.ntmps50
    go_wp2_with fail
    refine HC0.out.mono ?_
    rintro e w1 ⟨rfl, b1⟩
    replace b1 := Lib.hid b1
    go_wp2_with fail
    refine (HI.out _).mono ?_
    rintro e w2 ⟨rfl, b2⟩
    have b3 := Lib.hid (b1.out.trans (b2.mono b1.out.size))
    clear b2
    go_wp2
    go_ret2
    exact ⟨rfl, b3.out⟩
  | true =>
    have hR1 : Hid (partsR ((T.map (·.1)).drop 1) 1 1 1 [] = R) := Lib.hid (by
      rw [hR]
      conv => rhs; rw [hd]
      show _ = (if isP ⟨kind, text, sp, file, tf, tt, made⟩ sOpen = true then partsR ((T.map (·.1)).drop 1) 1 1 1 [] else none)
      rw [ho]; rfl)
    rw [ho] at HI
    clear hR hd hp HC ho
    go_enter Tryz.func50, Tryz.ntmps50
    go_wp2_with fail
    refine HC0.out.mono ?_
    rintro e w1 ⟨rfl, b1⟩
    replace b1 := Lib.hid b1
    go_wp2_with fail
    refine (HI.out _).mono ?_
    rintro e w2 ⟨rfl, b2⟩
    have b3 := Lib.hid (b1.out.trans (b2.mono b1.out.size))
    clear b2 b1 HC0 HI
    go_wp2_with fail
    go_loopg [4, 6, 7, 8, 9, 26, 31, 46] (n - 1) (fun q v4 v6 v7 v8 v9 v26 v31 v46 wx => ∃ (i dep fr : Nat) (out : List (Nat × Nat)), q = n - i ∧ i ≤ n ∧ 1 ≤ dep ∧ dep ≤ i ∧ fr ≤ i ∧ out.length ≤ i ∧ v8 = .int .i64 i ∧ v6 = .int .i64 dep ∧ v7 = .int .i64 fr ∧ Hid (Own wx w.heap.size 95 2 v4 (out.map paC)) ∧ Hid (partsR ((T.map (·.1)).drop i) i dep fr out = R) ∧ Hid (Below w.heap.size w wx))
    case atStart => exact ⟨1, 1, 1, [], rfl, by omega, Nat.le_refl _, Nat.le_refl _, Nat.le_refl _, Nat.zero_le _, rfl, rfl, rfl, Lib.hid (Own.nil _ _ _ _), hR1, b3⟩
    case round =>
      clear hR1 b3
      obtain ⟨i, dep, fr, out, hq, hi, hdep, hdi, hfr, hol, rfl, rfl, rfl, hown, hR, hb⟩ := hrel
      replace hq := hq.symm
      subst hq
      have hsB := hb.out.size
      by_cases hin : i < n
      · have hin' : (i : Int) < n := by omega
        have f4 : Hid (n - (i + 1) < n - i) := Lib.hid (by omega)
        have g1 : IntKind.i64.wrap ((i : Int) + 1) = (i : Int) + 1 := IntWalk.i64_in _ (by omega)
        have g2 : IntKind.i64.wrap ((dep : Int) + 1) = (dep : Int) + 1 := IntWalk.i64_in _ (by omega)
        have g3 : IntKind.i64.wrap ((dep : Int) - 1) = (dep : Int) - 1 := IntWalk.i64_in _ (by omega)
        obtain ⟨kind, text, sp, file, tf, tt, made, sa, sn, sc, hp, HC⟩ := HT.out i hin
        have hd : (T.map (·.1)).drop i = ⟨kind, text, sp, file, tf, tt, made⟩ :: (T.map (·.1)).drop (i + 1) := by
          rw [List.drop_eq_getElem_cons (by rw [List.length_map, HN.out]; exact hin)]
          congr 1
          rw [List.getElem_map, (List.getElem?_eq_some_iff.1 hp).2]
        have hst := hR.out
        rw [hd] at hst
        unfold partsR pOpen pShut pComma at hst
        have HC1 := Lib.hid (HC.out wr hb.out)
        have HI1 := fun W => is_tok kind text sp file tf tt made (.slice sa sn sc) sOpen W
        have HI2 := fun W => is_tok kind text sp file tf tt made (.slice sa sn sc) sShut W
        have HI3 := fun W => is_tok kind text sp file tf tt made (.slice sa sn sc) sComma W
        generalize isP ⟨kind, text, sp, file, tf, tt, made⟩ sOpen = x1 at hst HI1
        generalize isP ⟨kind, text, sp, file, tf, tt, made⟩ sShut = x2 at hst HI2
        generalize isP ⟨kind, text, sp, file, tf, tt, made⟩ sComma = x3 at hst HI3
        have hlen : Hid ((out.map paC).length + 1 ≤ 1000000000) := Lib.hid (by rw [List.length_map]; omega)
        clear hd hp HC hR
        replace HI1 := Lib.hid HI1
        replace HI2 := Lib.hid HI2
        replace HI3 := Lib.hid HI3
        cases x1 with
        | true =>
          have hst' : Hid (partsR ((T.map (·.1)).drop (i + 1)) (i + 1) (dep + 1) fr out = R) := Lib.hid (by simpa using hst)
          clear hst
          go_wp2_with fail
          refine HC1.out.mono ?_
          rintro e w3 ⟨rfl, b3⟩
          have hb3 := Lib.hid (hb.out.trans (b3.mono hsB))
          have ho3 := Lib.hid (hown.out.below b3)
          clear b3
          have hb4 := Lib.hid (hb3.out.alloc hb3.out.size (.cells #[.int .i64 kind, .string text, .bool sp, .string file, .int .i64 tf, .int .i64 tt, .bool made, .slice sa sn sc] 34))
          have ho4 := Lib.hid (ho3.out.alloc (.cells #[.int .i64 kind, .string text, .bool sp, .string file, .int .i64 tf, .int .i64 tt, .bool made, .slice sa sn sc] 34))
          have hc4 := Lib.hid (heap_alloc_new w3 (.cells #[.int .i64 kind, .string text, .bool sp, .string file, .int .i64 tf, .int .i64 tt, .bool made, .slice sa sn sc] 34))
          go_wp2_with fail
          refine (HI1.out _).mono ?_
          rintro e w5 ⟨rfl, b5⟩
          have hb5 := Lib.hid (hb4.out.trans (b5.mono hb4.out.size))
          have ho5 := Lib.hid (ho4.out.below b5)
          have hc5 := Lib.hid ((b5.block _ (lt_of_block hc4.out)).trans hc4.out)
          obtain ⟨q0, q1, q2, q3, q4, q5, q6, q7⟩ := cells8 hc5.out
          clear b5
          go_wp2_with fail
          go_roundg (n - (i + 1))
          case measure => exact f4.out
          case rel => exact ⟨i + 1, dep + 1, fr, out, rfl, by omega, by omega, by omega, by omega, by omega, by simp, by simp, by rfl, ho5, hst', hb5⟩
        | false =>
          cases x2 with
          | true =>
            by_cases hd1 : dep = 1
            · subst hd1
              have hst' : Hid (R = some (out ++ [(fr, i)], i + 1)) := Lib.hid (by simpa using hst.symm)
              clear hst
              have z1 : IntKind.i64.wrap (((1 : Nat) : Int) - 1) = 0 := by decide
              have z2 : IntKind.i64.wrap ((1 : Int) - 1) = 0 := by decide
              go_wp2_with fail
              refine HC1.out.mono ?_
              rintro e w3 ⟨rfl, b3⟩
              have hb3 := Lib.hid (hb.out.trans (b3.mono hsB))
              have ho3 := Lib.hid (hown.out.below b3)
              clear b3
              have hb4 := Lib.hid (hb3.out.alloc hb3.out.size (.cells #[.int .i64 kind, .string text, .bool sp, .string file, .int .i64 tf, .int .i64 tt, .bool made, .slice sa sn sc] 34))
              have ho4 := Lib.hid (ho3.out.alloc (.cells #[.int .i64 kind, .string text, .bool sp, .string file, .int .i64 tf, .int .i64 tt, .bool made, .slice sa sn sc] 34))
              have hc4 := Lib.hid (heap_alloc_new w3 (.cells #[.int .i64 kind, .string text, .bool sp, .string file, .int .i64 tf, .int .i64 tt, .bool made, .slice sa sn sc] 34))
              go_wp2_with fail
              refine (HI1.out _).mono ?_
              rintro e w5 ⟨rfl, b5⟩
              have hb5 := Lib.hid (hb4.out.trans (b5.mono hb4.out.size))
              have ho5 := Lib.hid (ho4.out.below b5)
              have hc5 := Lib.hid ((b5.block _ (lt_of_block hc4.out)).trans hc4.out)
              obtain ⟨q0, q1, q2, q3, q4, q5, q6, q7⟩ := cells8 hc5.out
              clear b5
              go_wp2_with fail
              refine (HI2.out _).mono ?_
              rintro e w6 ⟨rfl, b6⟩
              clear q0 q1 q2 q3 q4 q5 q6 q7
              have hb6 := Lib.hid (hb5.out.trans (b6.mono hb5.out.size))
              have ho6 := Lib.hid (ho5.out.below b6)
              have hc6 := Lib.hid ((b6.block _ (lt_of_block hc5.out)).trans hc5.out)
              obtain ⟨q0, q1, q2, q3, q4, q5, q6, q7⟩ := cells8 hc6.out
              clear b6
              go_wp2_with (at_builtin; go_must (refine wpList_append1 Ep95 rfl rfl ho6.out rfl rfl (news := [.int .i64 fr, .int .i64 i]) (by simp) rfl (by simp [Value.oneCell']) hlen.out (by decide) hb6.out.size ?_); intro v7 w7 hown7 hg7; have hb7 := Lib.hid (bapp hb6.out ho6.out hg7 hb6.out.size))
              go_ret2
              refine ⟨?_, hb7.out⟩
              rw [hst'.out]
              exact ⟨v7, rfl, by rw [List.map_append]; exact hown7⟩
            · have hd1i : ¬ (dep : Int) - 1 = 0 := by omega
              have hd1b : ((dep : Int) - 1 == 0) = false := beq_false_of_ne hd1i
              have hst' : Hid (partsR ((T.map (·.1)).drop (i + 1)) (i + 1) (dep - 1) fr out = R) := Lib.hid (by simpa [hd1] using hst)
              clear hst
              have hd2 : Hid (2 ≤ dep) := Lib.hid (by omega)
              go_wp2_with fail
              refine HC1.out.mono ?_
              rintro e w3 ⟨rfl, b3⟩
              have hb3 := Lib.hid (hb.out.trans (b3.mono hsB))
              have ho3 := Lib.hid (hown.out.below b3)
              clear b3
              have hb4 := Lib.hid (hb3.out.alloc hb3.out.size (.cells #[.int .i64 kind, .string text, .bool sp, .string file, .int .i64 tf, .int .i64 tt, .bool made, .slice sa sn sc] 34))
              have ho4 := Lib.hid (ho3.out.alloc (.cells #[.int .i64 kind, .string text, .bool sp, .string file, .int .i64 tf, .int .i64 tt, .bool made, .slice sa sn sc] 34))
              have hc4 := Lib.hid (heap_alloc_new w3 (.cells #[.int .i64 kind, .string text, .bool sp, .string file, .int .i64 tf, .int .i64 tt, .bool made, .slice sa sn sc] 34))
              go_wp2_with fail
              refine (HI1.out _).mono ?_
              rintro e w5 ⟨rfl, b5⟩
              have hb5 := Lib.hid (hb4.out.trans (b5.mono hb4.out.size))
              have ho5 := Lib.hid (ho4.out.below b5)
              have hc5 := Lib.hid ((b5.block _ (lt_of_block hc4.out)).trans hc4.out)
              obtain ⟨q0, q1, q2, q3, q4, q5, q6, q7⟩ := cells8 hc5.out
              clear b5
              go_wp2_with fail
              refine (HI2.out _).mono ?_
              rintro e w6 ⟨rfl, b6⟩
              clear q0 q1 q2 q3 q4 q5 q6 q7
              have hb6 := Lib.hid (hb5.out.trans (b6.mono hb5.out.size))
              have ho6 := Lib.hid (ho5.out.below b6)
              have hc6 := Lib.hid ((b6.block _ (lt_of_block hc5.out)).trans hc5.out)
              obtain ⟨q0, q1, q2, q3, q4, q5, q6, q7⟩ := cells8 hc6.out
              clear b6
              go_wp2_with fail
              go_roundg (n - (i + 1))
              case measure => exact f4.out
              case rel => exact ⟨i + 1, dep - 1, fr, out, rfl, by omega, (by have := hd2.out; omega), by omega, by omega, by omega, by simp, (by have := hd2.out; congr 1; omega), by rfl, ho6, hst', hb6⟩
          | false =>
            cases x3 with
            | true =>
              by_cases hd1 : dep = 1
              · subst hd1
                have hst' : Hid (partsR ((T.map (·.1)).drop (i + 1)) (i + 1) 1 (i + 1) (out ++ [(fr, i)]) = R) := Lib.hid (by simpa using hst)
                clear hst
                go_wp2_with fail
                refine HC1.out.mono ?_
                rintro e w3 ⟨rfl, b3⟩
                have hb3 := Lib.hid (hb.out.trans (b3.mono hsB))
                have ho3 := Lib.hid (hown.out.below b3)
                clear b3
                have hb4 := Lib.hid (hb3.out.alloc hb3.out.size (.cells #[.int .i64 kind, .string text, .bool sp, .string file, .int .i64 tf, .int .i64 tt, .bool made, .slice sa sn sc] 34))
                have ho4 := Lib.hid (ho3.out.alloc (.cells #[.int .i64 kind, .string text, .bool sp, .string file, .int .i64 tf, .int .i64 tt, .bool made, .slice sa sn sc] 34))
                have hc4 := Lib.hid (heap_alloc_new w3 (.cells #[.int .i64 kind, .string text, .bool sp, .string file, .int .i64 tf, .int .i64 tt, .bool made, .slice sa sn sc] 34))
                go_wp2_with fail
                refine (HI1.out _).mono ?_
                rintro e w5 ⟨rfl, b5⟩
                have hb5 := Lib.hid (hb4.out.trans (b5.mono hb4.out.size))
                have ho5 := Lib.hid (ho4.out.below b5)
                have hc5 := Lib.hid ((b5.block _ (lt_of_block hc4.out)).trans hc4.out)
                obtain ⟨q0, q1, q2, q3, q4, q5, q6, q7⟩ := cells8 hc5.out
                clear b5
                go_wp2_with fail
                refine (HI2.out _).mono ?_
                rintro e w6 ⟨rfl, b6⟩
                clear q0 q1 q2 q3 q4 q5 q6 q7
                have hb6 := Lib.hid (hb5.out.trans (b6.mono hb5.out.size))
                have ho6 := Lib.hid (ho5.out.below b6)
                have hc6 := Lib.hid ((b6.block _ (lt_of_block hc5.out)).trans hc5.out)
                obtain ⟨q0, q1, q2, q3, q4, q5, q6, q7⟩ := cells8 hc6.out
                clear b6
                go_wp2_with fail
                refine (HI3.out _).mono ?_
                rintro e w7 ⟨rfl, b7⟩
                clear q0 q1 q2 q3 q4 q5 q6 q7
                have hb7 := Lib.hid (hb6.out.trans (b7.mono hb6.out.size))
                have ho7 := Lib.hid (ho6.out.below b7)
                have hc7 := Lib.hid ((b7.block _ (lt_of_block hc6.out)).trans hc6.out)
                obtain ⟨q0, q1, q2, q3, q4, q5, q6, q7⟩ := cells8 hc7.out
                clear b7
                go_wp2_with (at_builtin; go_must (refine wpList_append1 Ep95 rfl rfl ho7.out rfl rfl (news := [.int .i64 fr, .int .i64 i]) (by simp) rfl (by simp [Value.oneCell']) hlen.out (by decide) hb7.out.size ?_); intro v8 w8 hown8 hg8; have hb8 := Lib.hid (bapp hb7.out ho7.out hg8 hb7.out.size))
                go_roundg (n - (i + 1))
                case measure => exact f4.out
                case rel => exact ⟨i + 1, 1, i + 1, out ++ [(fr, i)], rfl, by omega, by omega, by omega, by omega, by rw [List.length_append]; simp; omega, by simp, by rfl, by simp, (Lib.hid (by rw [List.map_append]; exact hown8)), hst', hb8⟩
              · have hd1i : ¬ (dep : Int) = 1 := by omega
                have hd1b : ((dep : Int) == 1) = false := beq_false_of_ne hd1i
                have hst' : Hid (partsR ((T.map (·.1)).drop (i + 1)) (i + 1) dep fr out = R) := Lib.hid (by simpa [hd1] using hst)
                clear hst
                go_wp2_with fail
                refine HC1.out.mono ?_
                rintro e w3 ⟨rfl, b3⟩
                have hb3 := Lib.hid (hb.out.trans (b3.mono hsB))
                have ho3 := Lib.hid (hown.out.below b3)
                clear b3
                have hb4 := Lib.hid (hb3.out.alloc hb3.out.size (.cells #[.int .i64 kind, .string text, .bool sp, .string file, .int .i64 tf, .int .i64 tt, .bool made, .slice sa sn sc] 34))
                have ho4 := Lib.hid (ho3.out.alloc (.cells #[.int .i64 kind, .string text, .bool sp, .string file, .int .i64 tf, .int .i64 tt, .bool made, .slice sa sn sc] 34))
                have hc4 := Lib.hid (heap_alloc_new w3 (.cells #[.int .i64 kind, .string text, .bool sp, .string file, .int .i64 tf, .int .i64 tt, .bool made, .slice sa sn sc] 34))
                go_wp2_with fail
                refine (HI1.out _).mono ?_
                rintro e w5 ⟨rfl, b5⟩
                have hb5 := Lib.hid (hb4.out.trans (b5.mono hb4.out.size))
                have ho5 := Lib.hid (ho4.out.below b5)
                have hc5 := Lib.hid ((b5.block _ (lt_of_block hc4.out)).trans hc4.out)
                obtain ⟨q0, q1, q2, q3, q4, q5, q6, q7⟩ := cells8 hc5.out
                clear b5
                go_wp2_with fail
                refine (HI2.out _).mono ?_
                rintro e w6 ⟨rfl, b6⟩
                clear q0 q1 q2 q3 q4 q5 q6 q7
                have hb6 := Lib.hid (hb5.out.trans (b6.mono hb5.out.size))
                have ho6 := Lib.hid (ho5.out.below b6)
                have hc6 := Lib.hid ((b6.block _ (lt_of_block hc5.out)).trans hc5.out)
                obtain ⟨q0, q1, q2, q3, q4, q5, q6, q7⟩ := cells8 hc6.out
                clear b6
                go_wp2_with fail
                refine (HI3.out _).mono ?_
                rintro e w7 ⟨rfl, b7⟩
                clear q0 q1 q2 q3 q4 q5 q6 q7
                have hb7 := Lib.hid (hb6.out.trans (b7.mono hb6.out.size))
                have ho7 := Lib.hid (ho6.out.below b7)
                have hc7 := Lib.hid ((b7.block _ (lt_of_block hc6.out)).trans hc6.out)
                obtain ⟨q0, q1, q2, q3, q4, q5, q6, q7⟩ := cells8 hc7.out
                clear b7
                go_wp2_with fail
                go_roundg (n - (i + 1))
                case measure => exact f4.out
                case rel => exact ⟨i + 1, dep, fr, out, rfl, by omega, by omega, by omega, by omega, by omega, by simp, by rfl, by rfl, ho7, hst', hb7⟩
            | false =>
              have hst' : Hid (partsR ((T.map (·.1)).drop (i + 1)) (i + 1) dep fr out = R) := Lib.hid (by simpa using hst)
              clear hst
              go_wp2_with fail
              refine HC1.out.mono ?_
              rintro e w3 ⟨rfl, b3⟩
              have hb3 := Lib.hid (hb.out.trans (b3.mono hsB))
              have ho3 := Lib.hid (hown.out.below b3)
              clear b3
              have hb4 := Lib.hid (hb3.out.alloc hb3.out.size (.cells #[.int .i64 kind, .string text, .bool sp, .string file, .int .i64 tf, .int .i64 tt, .bool made, .slice sa sn sc] 34))
              have ho4 := Lib.hid (ho3.out.alloc (.cells #[.int .i64 kind, .string text, .bool sp, .string file, .int .i64 tf, .int .i64 tt, .bool made, .slice sa sn sc] 34))
              have hc4 := Lib.hid (heap_alloc_new w3 (.cells #[.int .i64 kind, .string text, .bool sp, .string file, .int .i64 tf, .int .i64 tt, .bool made, .slice sa sn sc] 34))
              go_wp2_with fail
              refine (HI1.out _).mono ?_
              rintro e w5 ⟨rfl, b5⟩
              have hb5 := Lib.hid (hb4.out.trans (b5.mono hb4.out.size))
              have ho5 := Lib.hid (ho4.out.below b5)
              have hc5 := Lib.hid ((b5.block _ (lt_of_block hc4.out)).trans hc4.out)
              obtain ⟨q0, q1, q2, q3, q4, q5, q6, q7⟩ := cells8 hc5.out
              clear b5
              go_wp2_with fail
              refine (HI2.out _).mono ?_
              rintro e w6 ⟨rfl, b6⟩
              clear q0 q1 q2 q3 q4 q5 q6 q7
              have hb6 := Lib.hid (hb5.out.trans (b6.mono hb5.out.size))
              have ho6 := Lib.hid (ho5.out.below b6)
              have hc6 := Lib.hid ((b6.block _ (lt_of_block hc5.out)).trans hc5.out)
              obtain ⟨q0, q1, q2, q3, q4, q5, q6, q7⟩ := cells8 hc6.out
              clear b6
              go_wp2_with fail
              refine (HI3.out _).mono ?_
              rintro e w7 ⟨rfl, b7⟩
              clear q0 q1 q2 q3 q4 q5 q6 q7
              have hb7 := Lib.hid (hb6.out.trans (b7.mono hb6.out.size))
              have ho7 := Lib.hid (ho6.out.below b7)
              have hc7 := Lib.hid ((b7.block _ (lt_of_block hc6.out)).trans hc6.out)
              obtain ⟨q0, q1, q2, q3, q4, q5, q6, q7⟩ := cells8 hc7.out
              clear b7
              go_wp2_with fail
              go_roundg (n - (i + 1))
              case measure => exact f4.out
              case rel => exact ⟨i + 1, dep, fr, out, rfl, by omega, by omega, by omega, by omega, by omega, by simp, by rfl, by rfl, ho7, hst', hb7⟩
      · obtain rfl : i = n := by omega
        have hin' : ¬ (i : Int) < (i : Int) := by omega
        have hRn : Hid (R = none) := Lib.hid (by
          have := hR.out
          rw [List.drop_eq_nil_of_le (by rw [List.length_map, HN.out]; exact Nat.le_refl _)] at this
          rw [← this]; rfl)
        go_wp2
        go_ret2
        refine ⟨?_, hb.out⟩
        rw [hRn.out]
        rfl
end Go.Proofs.YtfaoamdlknlgpaaGreat

/- args: what stands between brackets, as tokens: plain, and how lists of them lie in memory. -/
namespace Go.Proofs.YtfaoamdlknlgpaaGreat
open Go.RowKit
set_option linter.unusedVariables false

/-- an append of one element, whose cells have just been laid: the row stays in its block, or comes into a new one -/
theorem wpList_append1X {P : Program} {w : World} {ops : Array Oper} {rest : List Oper} {o : Oper} {a : Act} {Q : Exit → Act → World → Prop} {t e : TypeId} {z : Value} {size bytes : Nat} (E : EI P t e z size bytes)
    (hgd : o.guard = none) {s x : Operand} (ho : o.op = .call { callee := .builtin .append, args := #[s, x], argTypes := #[t, t] })
    {B : Nat} {v : Value} {css : List (List Value)} (hown : Own w B e size v css) (hs : a.eval s = v)
    {news : List Value} {c g : Nat} (hx : a.eval x = .slice (some ⟨g, 0, none⟩) 1 c) (hg : g = w.heap.size) (hl : news.length = size) (h1 : ∀ u ∈ news, u.oneCell' = true)
    (hn : css.length + 1 ≤ 1000000000) (hbytes : bytes ≤ 1000) (hbase : B ≤ w.heap.size)
    (h : ∀ g' cap w', Own w' B e size (.slice (some ⟨g', 0, none⟩) (css.length + 1) cap) (css ++ [news]) → w.grownBy w' v.ownBlock → (v.ownBlock = some g' ∨ w.heap.size ≤ g') → g' < w'.heap.size → wpList P ops Q rest (a.put o.dst (.slice (some ⟨g', 0, none⟩) (css.length + 1) cap)) w') :
    wpList P ops Q (o :: rest) a (w.alloc (.cells news.toArray e)) := by
  subst hg
  obtain ⟨i, hi, hz0, hz1, hz2⟩ := info_parts E.info
  have hb : (css.length + 1) * bytes ≤ 140737488355328 := by
    calc (css.length + 1) * bytes ≤ 1000000000 * 1000 := Nat.mul_le_mul hn hbytes
      _ ≤ 140737488355328 := by decide
  refine wpList_append_lies _ hgd s x t ho B e i z size bytes E.under hi hz0 hz1 hz2 E.zs E.pos v css.length css.flatten hs (hown.1.alloc _) ⟨w.heap.size, 0, none⟩ 1 c news hx (by simpa using hl) (cells_new w news e) h1 (by decide) (by unfold maxLen; omega) hb (by simp; omega) (w.heap.size + 1) (by simp) ?_
  intro g' cap w' h2 h3 h4 h5
  refine h g' cap w' ⟨by simpa using h2, ?_⟩ (grown_trans (World.grownBy_alloc w _ _) h3) (h4.imp id (by omega)) h5
  intro c hc
  rcases List.mem_append.1 hc with hc | hc
  · exact hown.2 c hc
  · simp at hc; subst hc; exact hl

/-- places of a row -/
structure PartOk (n i fr : Nat) (out : List (Nat × Nat)) : Prop where
  all : ∀ p ∈ out, 1 ≤ p.1 ∧ p.1 ≤ p.2 ∧ p.2 < n
  hd : ∀ (j : Nat) p, 1 ≤ j → out[j]? = some p → 2 ≤ p.1

theorem partsR_ok {n : Nat} : ∀ (X : List Tm) (i dep fr : Nat) (out : List (Nat × Nat)) (r : List (Nat × Nat) × Nat), i + X.length = n → 1 ≤ fr → fr ≤ i → (out ≠ [] → 2 ≤ fr) → PartOk n i fr out → partsR X i dep fr out = some r → PartOk n n n r.1 ∧ r.1 ≠ [] ∧ 2 ≤ r.2 ∧ r.2 ≤ n
  | [], i, dep, fr, out, r, _, _, _, _, _, h => by simp [partsR] at h
  | t :: X, i, dep, fr, out, r, hn, h1, h2, h3, hok, h => by
    simp only [List.length_cons] at hn
    have hsnoc : PartOk n (i + 1) (i + 1) (out ++ [(fr, i)]) := ⟨fun p hp => by
      rcases List.mem_append.1 hp with hp | hp
      · exact hok.all p hp
      · simp at hp; subst hp; exact ⟨h1, h2, by simp only; omega⟩, fun j p hj hp => by
      by_cases hjl : j < out.length
      · rw [List.getElem?_append_left hjl] at hp; exact hok.hd j p hj hp
      · rw [List.getElem?_append_right (by omega)] at hp
        have h0 : j - out.length = 0 := by
          have := (List.getElem?_eq_some_iff.1 hp).1
          simp at this; omega
        rw [h0] at hp
        simp at hp
        subst hp
        exact h3 (by intro e; rw [e] at h0; simp at h0; omega)⟩
    unfold partsR at h
    split at h
    · exact partsR_ok X (i + 1) (dep + 1) fr out r (by omega) h1 (by omega) h3 ⟨hok.all, hok.hd⟩ h
    · split at h
      · split at h
        · simp only [Option.some.injEq] at h
          subst h
          exact ⟨⟨hsnoc.all, hsnoc.hd⟩, by simp, by simp only; omega, by simp only; omega⟩
        · exact partsR_ok X (i + 1) (dep - 1) fr out r (by omega) h1 (by omega) h3 ⟨hok.all, hok.hd⟩ h
      · split at h
        · exact partsR_ok X (i + 1) dep (i + 1) (out ++ [(fr, i)]) r (by omega) (by omega) (Nat.le_refl _) (fun _ => by omega) hsnoc h
        · exact partsR_ok X (i + 1) dep fr out r (by omega) h1 (by omega) h3 ⟨hok.all, hok.hd⟩ h

theorem partsL_ok {X : List Tm} {r : List (Nat × Nat) × Nat} (h : partsL X = some r) : PartOk X.length X.length X.length r.1 ∧ r.1 ≠ [] ∧ 2 ≤ r.2 ∧ r.2 ≤ X.length := by
  cases X with
  | nil => simp [partsL] at h
  | cons t X =>
    by_cases ho : pOpen t = true
    · rw [show partsL (t :: X) = partsR X 1 1 1 [] from if_pos ho] at h
      exact partsR_ok (n := X.length + 1) X 1 1 1 [] r (by omega) (Nat.le_refl _) (Nat.le_refl _) (fun e => absurd rfl e) ⟨by simp, by simp⟩ h
    · rw [show partsL (t :: X) = none from if_neg ho] at h
      cases h

/-- what stands between brackets: arguments, the commas between, how many tokens -/
def argsOf (X : List Tf) (ps : List (Nat × Nat)) : List (List Tf) := ps.map fun p => (X.drop p.1).take (p.2 - p.1)
def commasOf (X : List Tf) (ps : List (Nat × Nat)) : List Tf := (ps.drop 1).filterMap fun p => X[p.1 - 1]?
def colL (X : List Tf) : Option (List (List Tf) × List Tf × Nat) := (partsL (X.map (·.1))).map fun r => (argsOf X r.1, commasOf X r.1, r.2)

/-- lists of tokens of the call's own -/
def OwnLs (XX : List (List Tf)) (B : Nat) (v : Value) (w : World) : Prop :=
  ∃ vs : List Value, Own w B 22 1 v (vs.map fun u => [u]) ∧ vs.length = XX.length ∧ ∀ (i : Nat) u X, vs[i]? = some u → XX[i]? = some X → OwnT X B u w
end Go.Proofs.YtfaoamdlknlgpaaGreat

/- args: Collect. -/
namespace Go.Proofs.YtfaoamdlknlgpaaGreat
open Go.RowKit
set_option linter.unusedVariables false

theorem El22 : EI Tryz.prog 40 22 (.slice none 0 0) 1 24 := ⟨Tryz.underlying40, by kernel_rfl, rfl, by decide⟩

theorem SiteIn.ok {w : World} {v : Value} {css : List (List Value)} (h : SiteIn w v css) : SitesOk css := by
  obtain ⟨ao, cap, _, h1, _, _, h2, h3⟩ := h
  exact ⟨h1, h2, h3⟩

/-- the arguments so far, and the commas -/
structure CoSt (X : List Tf) (w0 : World) (B : Nat) (XX : List (List Tf)) (CC : List Tf) (v2 v3 : Value) (wx : World) : Prop where
  ls : ∃ vs : List Value, Own wx B 22 1 v2 (vs.map fun u => [u]) ∧ vs.length = XX.length ∧ (∀ (i : Nat) u Y, vs[i]? = some u → XX[i]? = some Y → OwnT Y B u wx) ∧ ∀ u ∈ vs, ∀ k, u.ownBlock = some k → v3.ownBlock ≠ some k
  cm : ∃ Tc : List (Tm × Value), Own wx B 34 8 v3 (Tc.map tvC) ∧ Tc.length = CC.length ∧ ∀ (i : Nat) p x, Tc[i]? = some p → CC[i]? = some x → p.1 = x.1 ∧ SiteIn w0 p.2 x.2

theorem OwnT.grown {X : List Tf} {B : Nat} {u v : Value} {w w' : World} (h : OwnT X B u w) (hg : w.grownBy w' v.ownBlock) (hT : ∃ e sz B' css, Own w B' e sz v css ∧ e ≠ 66 ∧ (e ≠ 34 ∨ ∀ k, u.ownBlock = some k → v.ownBlock ≠ some k)) : OwnT X B u w' := by
  obtain ⟨T, h1, h2, h3⟩ := h
  obtain ⟨e, sz, B', css, ho, he, ht⟩ := hT
  refine ⟨T, h1.kept hg ?_, h2, fun i p x hp hx => ⟨(h3 i p x hp hx).1, (h3 i p x hp hx).2.kept hg (own_apart (h3 i p x hp hx).2 ho (Ne.symm he))⟩⟩
  rcases ht with ht | ht
  · exact own_apart h1 ho (Ne.symm ht)
  · cases hu : u.ownBlock with
    | none => exact .inl rfl
    | some k => exact .inr fun e => ht k hu e.symm

theorem CoSt.below {X : List Tf} {w0 w w' : World} {B : Nat} {XX : List (List Tf)} {CC : List Tf} {v2 v3 : Value} (h : CoSt X w0 B XX CC v2 v3 w) (hb : Below w.heap.size w w') : CoSt X w0 B XX CC v2 v3 w' := by
  obtain ⟨vs, h1, h2, h3, h4⟩ := h.ls
  obtain ⟨Tc, c1, c2, c3⟩ := h.cm
  exact ⟨⟨vs, h1.below hb, h2, fun i u Y hu hY => (h3 i u Y hu hY).below hb, h4⟩, ⟨Tc, c1.below hb, c2, c3⟩⟩

/-- a comma more -/
theorem CoSt.comma {X : List Tf} {w0 w w' : World} {B g' cap n : Nat} {XX : List (List Tf)} {CC : List Tf} {v2 v3 : Value} {t : Tm} {v : Value} {x : Tf} (h : CoSt X w0 B XX CC v2 v3 w) {Tc : List (Tm × Value)} (hc : Own w B 34 8 v3 (Tc.map tvC))
    (hcl : Tc.length = CC.length) (hcr : ∀ (i : Nat) p x, Tc[i]? = some p → CC[i]? = some x → p.1 = x.1 ∧ SiteIn w0 p.2 x.2)
    (ho : Own w' B 34 8 (.slice (some ⟨g', 0, none⟩) n cap) (Tc.map tvC ++ [tvC (t, v)])) (hg : w.grownBy w' v3.ownBlock) (hd : v3.ownBlock = some g' ∨ w.heap.size ≤ g') (hx : t = x.1 ∧ SiteIn w0 v x.2) :
    CoSt X w0 B XX (CC ++ [x]) v2 (.slice (some ⟨g', 0, none⟩) n cap) w' := by
  obtain ⟨vs, h1, h2, h3, h4⟩ := h.ls
  refine ⟨⟨vs, h1.kept hg (own_apart h1 hc (by decide)), h2, fun i u Y hu hY => (h3 i u Y hu hY).grown hg ⟨_, _, _, _, hc, by decide, .inr (h4 u (List.mem_of_getElem? hu))⟩, ?_⟩, ⟨Tc ++ [(t, v)], by rw [List.map_append]; exact ho, by simp [hcl], ?_⟩⟩
  · intro u hu k hk e
    have hgk : g' = k := by simpa [Value.ownBlock] using e
    subst hgk
    obtain ⟨i, hi⟩ := List.getElem?_of_mem hu
    obtain ⟨Y, hY⟩ : ∃ Y, XX[i]? = some Y := ⟨_, List.getElem?_eq_getElem (by rw [← h2]; exact (List.getElem?_eq_some_iff.1 hi).1)⟩
    rcases hd with hd | hd
    · exact h4 u hu g' hk hd
    · obtain ⟨T, o1, _⟩ := h3 i u Y hi hY
      obtain ⟨c, fz, hh⟩ := o1.size_lt g' hk
      have := lt_of_block hh
      omega
  · intro i p y hp hy
    by_cases hi : i < Tc.length
    · rw [List.getElem?_append_left hi] at hp
      rw [List.getElem?_append_left (by omega)] at hy
      exact hcr i p y hp hy
    · rw [List.getElem?_append_right (by omega)] at hp
      rw [List.getElem?_append_right (by omega)] at hy
      have h0 : i - Tc.length = 0 := by
        have := (List.getElem?_eq_some_iff.1 hp).1
        simp at this; omega
      have h0' : i - CC.length = 0 := by omega
      rw [h0] at hp
      rw [h0'] at hy
      simp at hp hy
      subst hp hy
      exact hx

/-- an argument more -/
theorem CoSt.arg {X : List Tf} {w0 w w' : World} {B S : Nat} {XX : List (List Tf)} {CC Y : List Tf} {v2 v3 v2' u : Value} (h : CoSt X w0 B XX CC v2 v3 w) {vs : List Value} (hv : Own w B 22 1 v2 (vs.map fun u => [u])) (hvl : vs.length = XX.length) (hvr : ∀ (i : Nat) u Y, vs[i]? = some u → XX[i]? = some Y → OwnT Y B u w) (hvs : ∀ u ∈ vs, ∀ k, u.ownBlock = some k → v3.ownBlock ≠ some k)
    (hu : OwnT Y S u w) (hBS : B ≤ S) (hS : ∀ k, v3.ownBlock = some k → k < S) (ho : Own w' B 22 1 v2' (vs.map (fun u => [u]) ++ [[u]])) (hg : w.grownBy w' v2.ownBlock) : CoSt X w0 B (XX ++ [Y]) CC v2' v3 w' := by
  obtain ⟨Tc, c1, c2, c3⟩ := h.cm
  refine ⟨⟨vs ++ [u], by rw [List.map_append]; exact ho, by simp [hvl], ?_, ?_⟩, ⟨Tc, c1.kept hg (own_apart c1 hv (by decide)), c2, c3⟩⟩
  · intro i u' Y' hu' hY'
    by_cases hi : i < vs.length
    · rw [List.getElem?_append_left hi] at hu'
      rw [List.getElem?_append_left (by omega)] at hY'
      exact (hvr i u' Y' hu' hY').grown hg ⟨_, _, _, _, hv, by decide, .inl (by decide)⟩
    · rw [List.getElem?_append_right (by omega)] at hu'
      rw [List.getElem?_append_right (by omega)] at hY'
      have h0 : i - vs.length = 0 := by
        have := (List.getElem?_eq_some_iff.1 hu').1
        simp at this; omega
      have h0' : i - XX.length = 0 := by omega
      rw [h0] at hu'
      rw [h0'] at hY'
      simp at hu' hY'
      subst hu' hY'
      exact (hu.mono hBS).grown hg ⟨_, _, _, _, hv, by decide, .inl (by decide)⟩
  · intro u' hu' k hk
    rcases List.mem_append.1 hu' with hu' | hu'
    · exact hvs u' hu' k hk
    · simp at hu'
      subst hu'
      intro e
      have h1 := hS k e
      obtain ⟨T, o1, _⟩ := hu
      have := o1.ge k hk
      omega
end Go.Proofs.YtfaoamdlknlgpaaGreat
