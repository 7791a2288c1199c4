/- Texts of this seat's proofs, laid into one file. -/
import Derived.Test.YtfaoamdlknlgpaaGreatArgsCollectDoneG25
import Derived.Test.YtfaoamdlknlgpaaGreatArgsCollectDoneG23
import Derived.Test.YtfaoamdlknlgpaaGreatArgsCollectDoneG21
import Derived.Test.YtfaoamdlknlgpaaGreatArgsCollectDoneG22
/- args: Collect on a text's tokens; what comes of it, as a walk wants it. -/
namespace Go.Proofs.YtfaoamdlknlgpaaGreat
open Go.RowKit
set_option linter.unusedVariables false

/-- tokens without sites -/
def nilTf (t : Tm) : Tf := (t, [])

theorem nil_slots {w : World} {l : List Tm} {i : Nat} {p : Tm × Value} {x : Tf} (hp : (l.map nilTv)[i]? = some p) (hx : (l.map nilTf)[i]? = some x) : p.1 = x.1 ∧ SiteIn w p.2 x.2 := by
  rw [List.getElem?_map] at hp hx
  cases h : l[i]? with
  | none => rw [h] at hp; cases hp
  | some t =>
    rw [h] at hp hx
    simp only [Option.map_some, Option.some.injEq] at hp hx
    subst hp hx
    exact ⟨rfl, SiteIn.nil _⟩

theorem collectN_any (l : List Tm) (ao : Option Addr) (cap : Nat) (hn : l.length ≤ 1000000) (hcap : l.length ≤ cap) (w : World) (hrow : Row w 8 ao ((l.map nilTv).map tvC)) :
    Calls Tryz.prog 22 #[.slice ao l.length cap] w fun e w' => CollPost (colP (l.map nilTf)) w.heap.size e w' ∧ Below w.heap.size w w' := by
  have hl : (l.map nilTv).length = l.length := by simp
  have h := collect_any (l.map nilTf) (l.map nilTv) ao cap (by rw [hl]; exact hn) (by rw [hl]; exact hcap) w hrow (by simp) (fun i p x hp hx => nil_slots hp hx)
  rwa [hl] at h

/-- a text's tokens: the row, and what it holds -/
theorem toks10_row (s : ByteArray) (hs : s.size ≤ 100000) (w : World) :
    Calls Tryz.prog 23 #[.string s] w fun e w' => ∃ (l : List Tm) (n : Nat) (ao : Option Addr) (cap : Nat), e = .returned (.slice ao n cap) ∧ Below w.heap.size w w' ∧ Hid (l = toksL s.data.toList) ∧ Hid (l.length = n ∧ n ≤ s.size + 1 ∧ n ≤ cap ∧ Row w' 8 ao ((l.map nilTv).map tvC)) := by
  refine (rToks10_any s (by omega) w).mono ?_
  rintro e w' ⟨ao, cap, rfl, hcap, hrow, hb⟩
  have hl := toksL_len s.data.toList
  rw [← Lib.size_eq] at hl
  exact ⟨toksL s.data.toList, _, ao, cap, rfl, hb, Lib.hid rfl, Lib.hid ⟨rfl, hl, hcap, hrow⟩⟩
/-- a text's tokens: the row, and what it holds -/
theorem toks11_row (s : ByteArray) (hs : s.size ≤ 100000) (w : World) :
    Calls Tryz.prog 35 #[.string s] w fun e w' => ∃ (l : List Tm) (n : Nat) (ao : Option Addr) (cap : Nat), e = .returned (.slice ao n cap) ∧ Below w.heap.size w w' ∧ Hid (l = toksL s.data.toList) ∧ Hid (l.length = n ∧ n ≤ s.size + 1 ∧ n ≤ cap ∧ Row w' 8 ao ((l.map nilTv).map tvC)) := by
  refine (rToks11_any s (by omega) w).mono ?_
  rintro e w' ⟨ao, cap, rfl, hcap, hrow, hb⟩
  have hl := toksL_len s.data.toList
  rw [← Lib.size_eq] at hl
  exact ⟨toksL s.data.toList, _, ao, cap, rfl, hb, Lib.hid rfl, Lib.hid ⟨rfl, hl, hcap, hrow⟩⟩

theorem OwnT.slice {X : List Tf} {B n : Nat} {v : Value} {w : World} (h : OwnT X B v w) (hn : X.length = n) : ∃ ao cap, v = .slice ao n cap := by
  obtain ⟨T, h1, h2, h3⟩ := h
  obtain ⟨ao, cap, rfl, _⟩ := h1.rown (n := n) (by rw [List.length_map, h2, hn])
  exact ⟨ao, cap, rfl⟩

theorem OwnLs.slice {XX : List (List Tf)} {B n : Nat} {v : Value} {w : World} (h : OwnLs XX B v w) (hn : XX.length = n) : ∃ ao cap, v = .slice ao n cap := by
  obtain ⟨vs, h1, h2, h3⟩ := h
  obtain ⟨ao, cap, rfl, _⟩ := h1.rown (n := n) (by rw [List.length_map, h2, hn])
  exact ⟨ao, cap, rfl⟩

/-- a list among them: its cell -/
theorem OwnLs.cell {XX : List (List Tf)} {X : List Tf} {B n k : Nat} {ao : Option Addr} {cap : Nat} {w : World} (h : OwnLs XX B (.slice ao n cap) w) (hk : XX[k]? = some X) :
    ∃ b o la lc, ao = some ⟨b, o, none⟩ ∧ w.cell? ⟨b, o + k, none⟩ = some (.slice la X.length lc) ∧ OwnT X B (.slice la X.length lc) w := by
  obtain ⟨vs, h1, h2, h3⟩ := h
  obtain ⟨u, hu⟩ : ∃ u, vs[k]? = some u := ⟨_, List.getElem?_eq_getElem (by rw [h2]; exact (List.getElem?_eq_some_iff.1 hk).1)⟩
  have hT := h3 k u X hu hk
  obtain ⟨la, lc, rfl⟩ := hT.slice rfl
  obtain ⟨b, o, rfl, hat⟩ := h1.here (by intro e; simp at e; rw [e] at hu; simp at hu)
  have hc := hat.cell (i := k) (cs := [.slice la X.length lc]) (by rw [List.getElem?_map, hu]; rfl) (j := 0) rfl
  simp only [Nat.mul_one, Nat.add_zero] at hc
  exact ⟨b, o, la, lc, rfl, hc, hT⟩
end Go.Proofs.YtfaoamdlknlgpaaGreat

/- ArgsNested: the plain law: brackets in brackets, their tokens, and how they part. -/
namespace Go.Proofs.YtfaoamdlknlgpaaGreat
set_option linter.unusedVariables false

def pO : Pc := some (5, [40])
def pS : Pc := some (5, [41])
def pC : Pc := some (5, [44])
def pX : Pc := some (1, [120])
def pY : Pc := some (1, [121])

def opensP : Nat → List Pc
  | 0 => []
  | d + 1 => pO :: pC :: opensP d
def shutsP : Nat → List Pc
  | 0 => []
  | d + 1 => pC :: pS :: shutsP d
def blockP (d : Nat) : List Pc := opensP d ++ pX :: shutsP d
def bodyF (b : Bool) : List Nat → List Pc
  | [] => []
  | d :: ds => (if b then [] else [pC]) ++ blockP d ++ bodyF false ds

theorem opens_snoc : ∀ d, opensP (d + 1) = opensP d ++ [pO, pC]
  | 0 => rfl
  | d + 1 => by
    show pO :: pC :: opensP (d + 1) = (pO :: pC :: opensP d) ++ [pO, pC]
    rw [opens_snoc d]
    rfl
theorem shuts_snoc : ∀ d, shutsP (d + 1) = shutsP d ++ [pC, pS]
  | 0 => rfl
  | d + 1 => by
    show pC :: pS :: shutsP (d + 1) = (pC :: pS :: shutsP d) ++ [pC, pS]
    rw [shuts_snoc d]
    rfl
theorem body_snoc : ∀ (b : Bool) (ds : List Nat) (d : Nat), bodyF b (ds ++ [d]) = bodyF b ds ++ (if b && ds.isEmpty then [] else [pC]) ++ blockP d
  | b, [], d => by cases b <;> simp [bodyF]
  | b, e :: ds, d => by
    rw [List.cons_append, bodyF, body_snoc false ds d, bodyF]
    simp

theorem flat_app : ∀ (a b : List Pc), flatP (a ++ b) = flatP a ++ flatP b
  | [], b => rfl
  | none :: a, b => by simp [flatP, flat_app a b]
  | some (k, t) :: a, b => by simp [flatP, flat_app a b]

/-! ## each is cut where it ends -/

/-- what stands behind a name -/
def endB (ps : List Pc) : Prop := idB (chAt (flatP ps ++ [10]) 0) = false

theorem good_sign {c : UInt8} (hc : c = 40 ∨ c = 41 ∨ c = 44) {ps : List Pc} (h : GoodP ps) : GoodP (some (5, [c]) :: ps) ∧ endB (some (5, [c]) :: ps) := by
  refine ⟨⟨⟨by simp, ?_, ?_, ?_, next_sign hc _⟩, h⟩, ?_⟩
  · rcases hc with rfl | rfl | rfl <;> decide
  · rcases hc with rfl | rfl | rfl <;> decide
  · rcases hc with rfl | rfl | rfl <;> decide
  · show idB c = false
    rcases hc with rfl | rfl | rfl <;> decide

theorem good_name {c : UInt8} (hc : c = 120 ∨ c = 121) {ps : List Pc} (h : GoodP ps) (he : endB ps) : GoodP (some (1, [c]) :: ps) := by
  refine ⟨⟨by simp, ?_, ?_, ?_, ?_⟩, h⟩
  · rcases hc with rfl | rfl <;> decide
  · rcases hc with rfl | rfl <;> decide
  · rcases hc with rfl | rfl <;> decide
  · exact next_name (t := []) (by rcases hc with rfl | rfl <;> decide) (by rcases hc with rfl | rfl <;> decide) (by simp) he

theorem good_opens {ps : List Pc} (h : GoodP ps) : ∀ d, GoodP (opensP d ++ ps)
  | 0 => h
  | d + 1 => (good_sign (.inl rfl) (good_sign (.inr (.inr rfl)) (good_opens h d)).1).1

theorem good_shuts {ps : List Pc} (h : GoodP ps) (he : endB ps) : ∀ d, GoodP (shutsP d ++ ps) ∧ endB (shutsP d ++ ps)
  | 0 => ⟨h, he⟩
  | d + 1 => good_sign (.inr (.inr rfl)) (good_sign (.inr (.inl rfl)) (good_shuts h he d).1).1

theorem good_block {ps : List Pc} (h : GoodP ps) (he : endB ps) (d : Nat) : GoodP (blockP d ++ ps) := by
  unfold blockP
  rw [List.append_assoc]
  obtain ⟨h1, h2⟩ := good_shuts h he d
  exact good_opens (good_name (.inl rfl) h1 h2) d

theorem good_body {ps : List Pc} (h : GoodP ps) (he : endB ps) : ∀ (ds : List Nat), GoodP (bodyF false ds ++ ps) ∧ endB (bodyF false ds ++ ps)
  | [] => ⟨h, he⟩
  | d :: ds => by
    obtain ⟨h1, h2⟩ := good_body h he ds
    have h3 := good_sign (c := 44) (.inr (.inr rfl)) (good_block h1 h2 d)
    rw [← List.append_assoc] at h3
    exact h3

theorem good_whole {ps : List Pc} (h : GoodP ps) (he : endB ps) (d : Nat) (ds : List Nat) : GoodP (pO :: (bodyF true (d :: ds) ++ ps)) := by
  obtain ⟨h1, h2⟩ := good_body h he ds
  have h3 := (good_sign (c := 40) (.inl rfl) (good_block h1 h2 d)).1
  rw [← List.append_assoc] at h3
  exact h3

/-- no sign that may be spliced -/
def calmP (ps : List Pc) : Prop := ∀ c ∈ flatP ps, c ≠ 92 ∧ c ≠ 63 ∧ c ≠ 10

theorem calm_app {a b : List Pc} (ha : calmP a) (hb : calmP b) : calmP (a ++ b) := by
  intro c hc
  rw [flat_app] at hc
  rcases List.mem_append.1 hc with hc | hc
  · exact ha c hc
  · exact hb c hc
theorem calm_one {p : Pc} (h : p ∈ [pO, pS, pC, pX, pY, none]) : calmP [p] := by
  simp only [List.mem_cons, List.not_mem_nil, or_false] at h
  rcases h with rfl | rfl | rfl | rfl | rfl | rfl <;> (intro c hc; revert c; decide)
theorem calm_opens : ∀ d, calmP (opensP d)
  | 0 => by intro c hc; simp [opensP, flatP] at hc
  | d + 1 => calm_app (a := [pO]) (calm_one (by simp)) (calm_app (a := [pC]) (calm_one (by simp)) (calm_opens d))
theorem calm_shuts : ∀ d, calmP (shutsP d)
  | 0 => by intro c hc; simp [shutsP, flatP] at hc
  | d + 1 => calm_app (a := [pC]) (calm_one (by simp)) (calm_app (a := [pS]) (calm_one (by simp)) (calm_shuts d))
theorem calm_block (d : Nat) : calmP (blockP d) := calm_app (calm_opens d) (calm_app (a := [pX]) (calm_one (by simp)) (calm_shuts d))
theorem calm_body : ∀ (b : Bool) (ds : List Nat), calmP (bodyF b ds)
  | _, [] => by intro c hc; simp [bodyF, flatP] at hc
  | b, d :: ds => by
    unfold bodyF
    refine calm_app (calm_app ?_ (calm_block d)) (calm_body false ds)
    cases b
    · exact calm_one (by simp)
    · intro c hc; simp [flatP] at hc

/-! ## how they part -/

/-- what parts hang on -/
def keyT (t : Tm) : Int × ByteArray := (t.kind, t.text)

theorem isP_key {a b : Tm} (h : keyT a = keyT b) (s : ByteArray) : isP a s = isP b s := by
  simp only [keyT, Prod.mk.injEq] at h
  unfold isP
  rw [h.1, h.2]

theorem partsR_key : ∀ (X Y : List Tm) (i dep fr : Nat) (out : List (Nat × Nat)), X.map keyT = Y.map keyT → partsR X i dep fr out = partsR Y i dep fr out
  | [], [], _, _, _, _, _ => rfl
  | [], y :: Y, _, _, _, _, h => by simp at h
  | x :: X, [], _, _, _, _, h => by simp at h
  | x :: X, y :: Y, i, dep, fr, out, h => by
    simp only [List.map_cons, List.cons.injEq] at h
    unfold partsR pOpen pShut pComma
    rw [isP_key h.1, isP_key h.1, isP_key h.1]
    simp only [partsR_key X Y _ _ _ _ h.2]

theorem partsL_key {X Y : List Tm} (h : X.map keyT = Y.map keyT) : partsL X = partsL Y := by
  cases X with
  | nil =>
    cases Y with
    | nil => rfl
    | cons y Y => simp at h
  | cons x X =>
    cases Y with
    | nil => simp at h
    | cons y Y =>
      simp only [List.map_cons, List.cons.injEq] at h
      show (if isP x sOpen = true then partsR X 1 1 1 [] else none) = (if isP y sOpen = true then partsR Y 1 1 1 [] else none)
      rw [isP_key h.1, partsR_key X Y _ _ _ _ h.2]

/-- a piece's token -/
def canT (p : Nat × List UInt8) : Tm := ⟨p.1, bs p.2, false, bs [], 0, 0, false⟩
def canP (ps : List Pc) : List Tm := (tokP ps).map canT

theorem can_app (a b : List Pc) : canP (a ++ b) = canP a ++ canP b := by simp [canP, tokP]
theorem can_cons (p : Nat × List UInt8) (b : List Pc) : canP (some p :: b) = canT p :: canP b := rfl

theorem toks_key {ps : List Pc} (hG : GoodP ps) (hm : calmP ps) : (toksL (flatP ps)).map keyT = (canP ps).map keyT := by
  have h := (toks_pieces hG hm).1
  rw [canP, List.map_map]
  exact h

theorem st_open (r : List Tm) (i dep fr : Nat) (out : List (Nat × Nat)) : partsR (canT (5, [40]) :: r) i dep fr out = partsR r (i + 1) (dep + 1) fr out := by
  rw [partsR, if_pos (by decide)]
theorem st_comma (r : List Tm) (i dep fr : Nat) (out : List (Nat × Nat)) : partsR (canT (5, [44]) :: r) i dep fr out = if dep = 1 then partsR r (i + 1) dep (i + 1) (out ++ [(fr, i)]) else partsR r (i + 1) dep fr out := by
  rw [partsR, if_neg (by decide), if_neg (by decide)]
  have : pComma (canT (5, [44])) = true := by decide
  rw [this]
  by_cases h : dep = 1 <;> simp [h]
theorem st_shut (r : List Tm) (i dep fr : Nat) (out : List (Nat × Nat)) : partsR (canT (5, [41]) :: r) i dep fr out = if dep = 1 then some (out ++ [(fr, i)], i + 1) else partsR r (i + 1) (dep - 1) fr out := by
  rw [partsR, if_neg (by decide), if_pos (by decide)]
theorem st_other {c : UInt8} (hc : c = 120 ∨ c = 121) (r : List Tm) (i dep fr : Nat) (out : List (Nat × Nat)) : partsR (canT (1, [c]) :: r) i dep fr out = partsR r (i + 1) dep fr out := by
  have h : pComma (canT (1, [c])) = false := by rcases hc with rfl | rfl <;> decide
  have h1 : pOpen (canT (1, [c])) = false := by rcases hc with rfl | rfl <;> decide
  have h2 : pShut (canT (1, [c])) = false := by rcases hc with rfl | rfl <;> decide
  rw [partsR, h, h1, h2]
  simp

theorem parts_opens (r : List Tm) (fr : Nat) (out : List (Nat × Nat)) : ∀ (d i dep : Nat), 1 ≤ dep → partsR (canP (opensP d) ++ r) i dep fr out = partsR r (i + 2 * d) (dep + d) fr out
  | 0, i, dep, _ => rfl
  | d + 1, i, dep, h => by
    show partsR (canT (5, [40]) :: canT (5, [44]) :: (canP (opensP d) ++ r)) i dep fr out = _
    rw [st_open, st_comma, if_neg (by omega), parts_opens r fr out d _ _ (by omega)]
    congr 1 <;> omega
theorem parts_shuts (r : List Tm) (fr : Nat) (out : List (Nat × Nat)) : ∀ (d i dep : Nat), 1 ≤ dep → partsR (canP (shutsP d) ++ r) i (dep + d) fr out = partsR r (i + 2 * d) dep fr out
  | 0, i, dep, _ => rfl
  | d + 1, i, dep, h => by
    show partsR (canT (5, [44]) :: canT (5, [41]) :: (canP (shutsP d) ++ r)) i (dep + (d + 1)) fr out = _
    rw [st_comma, if_neg (by omega), st_shut, if_neg (by omega), show dep + (d + 1) - 1 = dep + d by omega, parts_shuts r fr out d _ _ h]
    congr 1 <;> omega
theorem parts_block (r : List Tm) (fr : Nat) (out : List (Nat × Nat)) (d i : Nat) : partsR (canP (blockP d) ++ r) i 1 fr out = partsR r (i + (4 * d + 1)) 1 fr out := by
  unfold blockP
  rw [can_app, List.append_assoc, parts_opens _ _ _ _ _ _ (Nat.le_refl _)]
  show partsR (canT (1, [120]) :: (canP (shutsP d) ++ r)) _ _ _ _ = _
  rw [st_other (.inl rfl), parts_shuts r fr out d _ _ (Nat.le_refl _)]
  congr 1
  omega

/-- the places of the arguments -/
def spansF (fr i : Nat) : List Nat → List (Nat × Nat)
  | [] => [(fr, i)]
  | d :: ds => (fr, i) :: spansF (i + 1) (i + 1 + (4 * d + 1)) ds

theorem spans_wide : ∀ (ds : List Nat) (fr i : Nat), (spansF fr i ds).map (fun p => p.2 - p.1) = (i - fr) :: ds.map (fun d => 4 * d + 1)
  | [], fr, i => rfl
  | d :: ds, fr, i => by
    rw [spansF, List.map_cons, spans_wide ds, List.map_cons]
    congr 2
    omega

theorem parts_body (r : List Tm) : ∀ (ds : List Nat) (i fr : Nat) (out : List (Nat × Nat)), partsR (canP (bodyF false ds) ++ canT (5, [41]) :: r) i 1 fr out = some (out ++ spansF fr i ds, i + (canP (bodyF false ds)).length + 1)
  | [], i, fr, out => by
    show partsR (canT (5, [41]) :: r) i 1 fr out = _
    rw [st_shut, if_pos rfl]
    rfl
  | d :: ds, i, fr, out => by
    have e : canP (bodyF false (d :: ds)) = canT (5, [44]) :: (canP (blockP d) ++ canP (bodyF false ds)) := by
      show canP ([pC] ++ blockP d ++ bodyF false ds) = _
      rw [can_app, can_app, List.append_assoc]
      rfl
    rw [e, List.cons_append, List.append_assoc, st_comma, if_pos rfl, parts_block, parts_body r ds]
    have hl : (canP (blockP d)).length = 4 * d + 1 := block_len d
    rw [spansF]
    simp only [List.append_assoc, List.singleton_append, List.length_cons, List.length_append, hl]
    congr 2
    omega
where
  opens_len : ∀ d, (canP (opensP d)).length = 2 * d
    | 0 => rfl
    | d + 1 => by
      show ((canP (opensP d)).length + 1) + 1 = _
      rw [opens_len d]; omega
  shuts_len : ∀ d, (canP (shutsP d)).length = 2 * d
    | 0 => rfl
    | d + 1 => by
      show ((canP (shutsP d)).length + 1) + 1 = _
      rw [shuts_len d]; omega
  block_len (d : Nat) : (canP (blockP d)).length = 4 * d + 1 := by
    unfold blockP
    rw [can_app, List.length_append, opens_len]
    show 2 * d + ((canP (shutsP d)).length + 1) = _
    rw [shuts_len]; omega

theorem parts_none (r : List Tm) (hr : r = [canT (1, [121])]) : ∀ (ds : List Nat) (i fr : Nat) (out : List (Nat × Nat)), partsR (canP (bodyF false ds) ++ r) i 1 fr out = none
  | [], i, fr, out => by
    subst hr
    show partsR [canT (1, [121])] i 1 fr out = _
    rw [st_other (.inr rfl)]
    rfl
  | d :: ds, i, fr, out => by
    have e : canP (bodyF false (d :: ds)) = canT (5, [44]) :: (canP (blockP d) ++ canP (bodyF false ds)) := by
      show canP ([pC] ++ blockP d ++ bodyF false ds) = _
      rw [can_app, can_app, List.append_assoc]
      rfl
    rw [e, List.cons_append, List.append_assoc, st_comma, if_pos rfl, parts_block, parts_none r hr ds]

theorem parts_top (r : List Tm) : partsL (canT (5, [40]) :: r) = partsR r 1 1 1 [] := by
  show (if pOpen (canT (5, [40])) = true then partsR r 1 1 1 [] else none) = _
  rw [if_pos (by decide)]

theorem can_top (d : Nat) (ds : List Nat) (ps : List Pc) : canP (pO :: (bodyF true (d :: ds) ++ ps)) = canT (5, [40]) :: (canP (blockP d) ++ (canP (bodyF false ds) ++ canP ps)) := by
  have e : bodyF true (d :: ds) = blockP d ++ bodyF false ds := rfl
  rw [e]
  show canP ([pO] ++ (blockP d ++ bodyF false ds ++ ps)) = _
  rw [can_app, can_app, can_app, List.append_assoc]
  rfl

/-- shut: so many arguments, so wide -/
theorem nest_shut (d : Nat) (ds : List Nat) (ps : List Pc) : partsL (canP (pO :: (bodyF true (d :: ds) ++ pS :: ps))) = some (spansF 1 (1 + (4 * d + 1)) ds, (canP (pO :: (bodyF true (d :: ds) ++ [pS]))).length) := by
  rw [can_top, can_top]
  have h2 : canP (pS :: ps) = canT (5, [41]) :: canP ps := rfl
  have h3 : canP [pS] = [canT (5, [41])] := rfl
  rw [h2, h3]
  rw [parts_top, parts_block, parts_body]
  rw [List.nil_append]
  simp only [List.length_cons, List.length_append, parts_body.block_len, List.length_nil]
  congr 2
  omega

theorem nest_open (d : Nat) (ds : List Nat) : partsL (canP (pO :: (bodyF true (d :: ds) ++ [none, pY]))) = none := by
  rw [can_top]
  rw [parts_top, parts_block]
  exact parts_none _ rfl ds _ _ _

/-! ## as Collect gives them -/

theorem args_wide {X : List Tf} {ps : List (Nat × Nat)} (h : ∀ p ∈ ps, p.2 ≤ X.length) : (argsOf X ps).map List.length = ps.map (fun p => p.2 - p.1) := by
  unfold argsOf
  rw [List.map_map]
  apply List.map_congr_left
  intro p hp
  have := h p hp
  show ((X.drop p.1).take (p.2 - p.1)).length = _
  rw [List.length_take, List.length_drop]
  omega

theorem commas_len {X : List Tf} {ps : List (Nat × Nat)} (h : ∀ p ∈ ps, p.1 ≤ X.length ∧ 1 ≤ p.1) : (commasOf X ps).length = ps.length - 1 := by
  unfold commasOf
  have : ∀ l : List (Nat × Nat), (∀ p ∈ l, p.1 ≤ X.length ∧ 1 ≤ p.1) → (l.filterMap fun p => X[p.1 - 1]?).length = l.length := by
    intro l
    induction l with
    | nil => intro _; rfl
    | cons p l ih =>
      intro hl
      obtain ⟨x, hx⟩ : ∃ x, X[p.1 - 1]? = some x := ⟨_, List.getElem?_eq_getElem (by have := hl p (by simp); omega)⟩
      rw [List.filterMap_cons, hx, List.length_cons, List.length_cons, ih (fun q hq => hl q (by simp [hq]))]
  rw [this _ (fun p hp => h p (List.mem_of_mem_drop hp)), List.length_drop]

/-- what Collect gives, in numbers -/
theorem col_nums {X : List Tf} {r : List (Nat × Nat) × Nat} (h : partsL (X.map (·.1)) = some r) : (colP X).1.map List.length = r.1.map (fun p => p.2 - p.1) ∧ (colP X).2.1.length = r.1.length - 1 ∧ (colP X).2.2 = r.2 ∧ 0 < r.2 := by
  have hok := partsL_ok h
  rw [List.length_map] at hok
  have e : colP X = (argsOf X r.1, commasOf X r.1, r.2) := by
    unfold colP colL
    rw [h]
    rfl
  rw [e]
  refine ⟨args_wide fun p hp => ?_, commas_len fun p hp => ?_, rfl, by omega⟩
  · have := hok.1.all p hp; omega
  · have := hok.1.all p hp; omega

theorem col_none {X : List Tf} (h : partsL (X.map (·.1)) = none) : colP X = ([], [], 0) := by
  unfold colP colL
  rw [h]
  rfl

theorem nil_fst (l : List Tm) : (l.map nilTf).map (·.1) = l := by rw [List.map_map]; exact List.map_id _

/-- the text so far -/
def nestT (ds : List Nat) : List UInt8 := flatP (pO :: bodyF true ds)

theorem nest_yes (d : Nat) (ds : List Nat) {l m : List Tm} (hl : l = toksL (nestT (d :: ds) ++ [41] ++ [32, 121])) (hm : m = toksL (nestT (d :: ds) ++ [41])) :
    (colP (l.map nilTf)).1.map List.length = (d :: ds).map (fun d => 4 * d + 1) ∧ (colP (l.map nilTf)).2.1.length = ds.length ∧ (colP (l.map nilTf)).2.2 = m.length ∧ 0 < m.length := by
  have f1 : nestT (d :: ds) ++ [41] ++ [32, 121] = flatP (pO :: (bodyF true (d :: ds) ++ pS :: [none, pY])) := by
    unfold nestT
    rw [show (pO :: (bodyF true (d :: ds) ++ pS :: [none, pY])) = (pO :: bodyF true (d :: ds)) ++ [pS, none, pY] from rfl, flat_app, List.append_assoc]
    rfl
  have f2 : nestT (d :: ds) ++ [41] = flatP (pO :: (bodyF true (d :: ds) ++ [pS])) := by
    unfold nestT
    rw [show (pO :: (bodyF true (d :: ds) ++ [pS])) = (pO :: bodyF true (d :: ds)) ++ [pS] from rfl, flat_app]
    rfl
  have gy : GoodP [pY] := good_name (ps := []) (.inr rfl) trivial (by unfold endB; decide)
  have g1 := good_whole (ps := pS :: [none, pY]) (good_sign (c := 41) (.inr (.inl rfl)) (ps := [none, pY]) gy).1 (good_sign (c := 41) (.inr (.inl rfl)) (ps := [none, pY]) gy).2 d ds
  have g2 := good_whole (ps := [pS]) (good_sign (c := 41) (.inr (.inl rfl)) (ps := []) trivial).1 (good_sign (c := 41) (.inr (.inl rfl)) (ps := []) trivial).2 d ds
  have c1 : calmP (pO :: (bodyF true (d :: ds) ++ pS :: [none, pY])) := calm_app (a := [pO]) (calm_one (by simp)) (calm_app (calm_body _ _) (calm_app (a := [pS]) (calm_one (by simp)) (calm_app (a := [none]) (calm_one (by simp)) (calm_one (by simp)))))
  have c2 : calmP (pO :: (bodyF true (d :: ds) ++ [pS])) := calm_app (a := [pO]) (calm_one (by simp)) (calm_app (calm_body _ _) (calm_one (by simp)))
  have k1 := toks_key g1 c1
  have k2 := toks_key g2 c2
  rw [← f1, ← hl] at k1
  rw [← f2, ← hm] at k2
  have hp := nest_shut d ds [none, pY]
  rw [← partsL_key k1, ← nil_fst l] at hp
  have hlen : m.length = (canP (pO :: (bodyF true (d :: ds) ++ [pS]))).length := by
    have := congrArg List.length k2
    simpa using this
  obtain ⟨h1, h2, h3, h4⟩ := col_nums hp
  have hw := spans_wide ds 1 (1 + (4 * d + 1))
  simp only at h1 h2 h3 h4
  rw [hw] at h1
  have hsl : (spansF 1 (1 + (4 * d + 1)) ds).length = ds.length + 1 := by
    have := congrArg List.length hw
    simpa using this
  rw [hsl] at h2
  refine ⟨by rw [h1, List.map_cons]; congr 1; omega, by omega, by rw [h3, hlen], by omega⟩

theorem nest_no (d : Nat) (ds : List Nat) {l : List Tm} (hl : l = toksL (nestT (d :: ds) ++ [32, 121])) : colP (l.map nilTf) = ([], [], 0) := by
  have f1 : nestT (d :: ds) ++ [32, 121] = flatP (pO :: (bodyF true (d :: ds) ++ [none, pY])) := by
    unfold nestT
    rw [show (pO :: (bodyF true (d :: ds) ++ [none, pY])) = (pO :: bodyF true (d :: ds)) ++ [none, pY] from rfl, flat_app]
    rfl
  have gy : GoodP [pY] := good_name (ps := []) (.inr rfl) trivial (by unfold endB; decide)
  have g1 := good_whole (ps := [none, pY]) gy (by unfold endB; decide) d ds
  have c1 : calmP (pO :: (bodyF true (d :: ds) ++ [none, pY])) := calm_app (a := [pO]) (calm_one (by simp)) (calm_app (calm_body _ _) (calm_app (a := [none]) (calm_one (by simp)) (calm_one (by simp))))
  have k1 := toks_key g1 c1
  rw [← f1, ← hl] at k1
  have hp := nest_open d ds
  rw [← partsL_key k1, ← nil_fst l] at hp
  exact col_none hp
end Go.Proofs.YtfaoamdlknlgpaaGreat

/- args: Shape: how many arguments are parameters. -/
namespace Go.Proofs.YtfaoamdlknlgpaaGreat
open Go.RowKit
set_option linter.unusedVariables false

def shapeL (np : Nat) (va : Bool) (hv : Nat) (em : Bool) : Nat × Bool :=
  if np = 0 then (0, decide (hv = 1) && em) else if va then (np - 1, decide (np - 1 ≤ hv)) else (np, decide (hv = np))

set_option maxRecDepth 100000 in
theorem shape_any (name : ByteArray) (fn va : Bool) (pao : Option Addr) (np pcap : Nat) (bo : Value) (file : ByteArray) (f t : Int) (hv : Nat) (em : Bool) (hn : np ≤ 1000000) (hh : hv ≤ 1000000) (w : World) :
    Calls Tryz.prog 55 #[.agg #[.string name, .bool fn, .bool va, .slice pao np pcap, bo, .string file, .int .i64 f, .int .i64 t], .int .i64 hv, .bool em] w fun e w' => e = .returned (.tuple #[.int .i64 (shapeL np va hv em).1, .bool (shapeL np va hv em).2]) ∧ Below w.heap.size w w' := by
  have hb : ∀ o, Below w.heap.size w (w.alloc o) := fun o => (Below.refl _ w).alloc (Nat.le_refl _) o
  unfold shapeL
  go_enter Tryz.func55, Tryz.ntmps55
  by_cases h0 : np = 0
  · have h0' : ((np : Int) == 0) = true := by rw [h0]; rfl
    rw [if_pos h0]
    by_cases h1 : hv = 1
    · have h1' : ((hv : Int) == 1) = true := by rw [h1]; rfl
      have h1d : decide (hv = 1) = true := decide_eq_true h1
      rw [h1d]
      replace h1 := Lib.hid h1
      replace h0 := Lib.hid h0
      go_wp2
      go_ret2
      exact ⟨by simp, hb _⟩
    · have h1' : ((hv : Int) == 1) = false := beq_false_of_ne (by omega)
      have h1d : decide (hv = 1) = false := decide_eq_false h1
      rw [h1d]
      replace h0 := Lib.hid h0
      go_wp2
      go_ret2
      exact ⟨by simp, hb _⟩
  · have h0' : ((np : Int) == 0) = false := beq_false_of_ne (by omega)
    rw [if_neg h0]
    cases va with
    | true =>
      have g1 : IntKind.i64.wrap ((np : Int) - 1) = ((np - 1 : Nat) : Int) := by rw [IntWalk.i64_in _ (by omega)]; omega
      go_wp2
      go_ret2
      exact ⟨by simp, hb _⟩
    | false =>
      by_cases h1 : hv = np
      · have h1' : ((hv : Int) == np) = true := by rw [h1]; simp
        have h1d : decide (hv = np) = true := decide_eq_true h1
        simp only [h1d]
        replace h1 := Lib.hid h1
        go_wp2
        go_ret2
        exact ⟨by simp, hb _⟩
      · have h1' : ((hv : Int) == np) = false := beq_false_of_ne (by omega)
        have h1d : decide (hv = np) = false := decide_eq_false h1
        simp only [h1d]
        go_wp2
        go_ret2
        exact ⟨by simp, hb _⟩
end Go.Proofs.YtfaoamdlknlgpaaGreat
