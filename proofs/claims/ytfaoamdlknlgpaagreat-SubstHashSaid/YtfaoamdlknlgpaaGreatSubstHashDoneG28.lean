/- Texts of this seat's proofs, laid into one file. -/
import Derived.Test.YtfaoamdlknlgpaaGreatSubstHashDoneG27
import Derived.Test.YtfaoamdlknlgpaaGreatSubstHashDoneG15
import Derived.Test.YtfaoamdlknlgpaaGreatSubstHashDoneG25
import Derived.Deep.RegionHeld3
import Derived.Deep.LoopGhost
/- ArgsWhole: the plain law: places stand in a row; what Fit makes has all tokens. -/
namespace Go.Proofs.YtfaoamdlknlgpaaGreat
open Go.RowKit
set_option linter.unusedVariables false

/-- places one behind the other, a token between -/
def chainP : Nat → List (Nat × Nat) → Nat → Prop
  | s, [], e => s = e
  | s, p :: r, e => p.1 = s ∧ p.1 ≤ p.2 ∧ chainP (p.2 + 1) r e

theorem chain_snoc : ∀ (ps : List (Nat × Nat)) (s e i : Nat), chainP s ps e → e ≤ i → chainP s (ps ++ [(e, i)]) (i + 1)
  | [], s, e, i, h, hi => by
    have h' : s = e := h
    subst h'
    exact ⟨rfl, hi, rfl⟩
  | p :: r, s, e, i, h, hi => ⟨h.1, h.2.1, chain_snoc r _ e i h.2.2 hi⟩

theorem partsR_chain : ∀ (X : List Tm) (i dep fr : Nat) (out : List (Nat × Nat)) (r : List (Nat × Nat) × Nat), chainP 1 out fr → fr ≤ i → partsR X i dep fr out = some r → chainP 1 r.1 r.2
  | [], _, _, _, _, _, _, _, h => by simp [partsR] at h
  | t :: X, i, dep, fr, out, r, hc, hf, h => by
    unfold partsR at h
    split at h
    · exact partsR_chain X _ _ _ _ r hc (by omega) h
    · split at h
      · split at h
        · simp only [Option.some.injEq] at h
          subst h
          exact chain_snoc out 1 fr i hc hf
        · exact partsR_chain X _ _ _ _ r hc (by omega) h
      · split at h
        · exact partsR_chain X _ _ _ _ r (chain_snoc out 1 fr i hc hf) (Nat.le_refl _) h
        · exact partsR_chain X _ _ _ _ r hc (by omega) h

theorem partsL_chain {X : List Tm} {r : List (Nat × Nat) × Nat} (h : partsL X = some r) : chainP 1 r.1 r.2 := by
  cases X with
  | nil => simp [partsL] at h
  | cons t X =>
    by_cases ho : pOpen t = true
    · rw [show partsL (t :: X) = partsR X 1 1 1 [] from if_pos ho] at h
      exact partsR_chain X 1 1 1 [] r rfl (Nat.le_refl _) h
    · rw [show partsL (t :: X) = none from if_neg ho] at h
      cases h

/-- where the place after so many begins -/
def stA (ps : List (Nat × Nat)) (u i : Nat) : Nat := ((ps[i]?).map (·.1)).getD u

theorem chain_start : ∀ (ps : List (Nat × Nat)) (s e : Nat), chainP s ps e → stA ps e 0 = s ∧ ∀ (i : Nat) p, ps[i]? = some p → stA ps e (i + 1) = p.2 + 1 ∧ stA ps e i = p.1 ∧ p.1 ≤ p.2
  | [], s, e, h => ⟨Eq.symm h, by simp⟩
  | q :: r, s, e, h => by
    obtain ⟨h1, h2, h3⟩ := h
    obtain ⟨k1, k2⟩ := chain_start r _ e h3
    refine ⟨by simp [stA, h1], ?_⟩
    intro i p hp
    cases i with
    | zero =>
      simp only [List.getElem?_cons_zero, Option.some.injEq] at hp
      subst hp
      refine ⟨?_, by simp [stA], h2⟩
      rw [← k1]
      simp [stA]
    | succ i =>
      have hp' : r[i]? = some p := by simpa using hp
      obtain ⟨z1, z2, z3⟩ := k2 i p hp'
      refine ⟨?_, ?_, z3⟩
      · rw [← z1]; simp [stA]
      · rw [← z2]; simp [stA]

theorem chain_sum : ∀ (ps : List (Nat × Nat)) (s e : Nat), chainP s ps e → s + ((ps.map (fun p => p.2 - p.1)).sum + ps.length) = e
  | [], s, e, h => by
    have h' : s = e := h
    simp [h']
  | q :: r, s, e, h => by
    obtain ⟨h1, h2, h3⟩ := h
    have := chain_sum r _ e h3
    simp only [List.map_cons, List.sum_cons, List.length_cons]
    omega

theorem restF_sum (pl : Nat) (CC : List Tf) : ∀ (YY : List (List Tf)) (i : Nat), 0 < i → pl + i - 1 + YY.length ≤ CC.length → (restF pl CC i YY).length = (YY.map List.length).sum + YY.length
  | [], i, _, _ => by simp [restF]
  | Y :: r, i, hi, h => by
    rw [List.length_cons] at h
    obtain ⟨c, hc⟩ : ∃ c, CC[pl + i - 1]? = some c := ⟨_, List.getElem?_eq_getElem (by omega)⟩
    rw [restF, if_pos hi, hc, List.length_append, List.length_append, restF_sum pl CC r (i + 1) (by omega) (by omega)]
    simp only [Option.toList_some, List.length_nil, List.map_cons, List.sum_cons, List.length_cons]
    omega

theorem restF_sum0 (pl : Nat) (CC : List Tf) (YY : List (List Tf)) (h : pl + YY.length ≤ CC.length + 1) : (restF pl CC 0 YY).length = (YY.map List.length).sum + (YY.length - 1) := by
  cases YY with
  | nil => simp [restF]
  | cons Y r =>
    rw [List.length_cons] at h
    rw [restF, if_neg (by decide), List.length_append, List.length_append, restF_sum pl CC r 1 (by decide) (by omega)]
    simp only [List.length_nil, List.map_cons, List.sum_cons, List.length_cons]
    omega

/-- what Fit makes of a macro with dots and so many names ahead of them -/
theorem fit_dots {XX : List (List Tf)} {CC : List Tf} {n : Nat} (hc : XX.length = CC.length + 1) :
    (fitP (n + 1) true XX CC).2 = decide (n ≤ XX.length) ∧ (n ≤ XX.length → (fitP (n + 1) true XX CC).1.length = n + 1 ∧ ((fitP (n + 1) true XX CC).1.map List.length).sum + min n CC.length = (XX.map List.length).sum + CC.length) ∧ (¬ n ≤ XX.length → (fitP (n + 1) true XX CC).1 = []) := by
  have hs : shapeL (n + 1) true XX.length (emptyB XX) = (n, decide (n ≤ XX.length)) := by
    unfold shapeL
    rw [if_neg (by omega)]
    simp
  unfold fitP
  rw [hs]
  by_cases h : n ≤ XX.length
  · simp only [decide_eq_true h]
    rw [if_neg (by simp)]
    refine ⟨rfl, fun _ => ⟨?_, ?_⟩, fun h' => absurd h h'⟩
    · simp only [if_true, List.length_append, List.length_take, List.length_singleton]
      omega
    · have hr := restF_sum0 n CC (XX.drop n) (by rw [List.length_drop]; omega)
      have hsum : (XX.map List.length).sum = ((XX.take n).map List.length).sum + ((XX.drop n).map List.length).sum := by
        rw [← List.sum_append, ← List.map_append, List.take_append_drop]
      simp only [if_true, List.map_append, List.map_cons, List.map_nil, List.sum_append, List.sum_cons, List.sum_nil, hr, hsum]
      rw [List.length_drop]
      omega
  · simp only [decide_eq_false h]
    rw [if_pos (.inl trivial)]
    exact ⟨rfl, fun h' => absurd h' h, fun _ => rfl⟩

/-- the argument's tokens, with what their sites hold -/
theorem sites_of {w : World} : ∀ (T : List (Tm × Value)), (∀ p ∈ T, SiteRd w p.2) → (∀ p ∈ T, siteLen p.2 ≤ 20) → ∃ X : List Tf, X.length = T.length ∧ ∀ (i : Nat) p x, T[i]? = some p → X[i]? = some x → p.1 = x.1 ∧ SiteIn w p.2 x.2 ∧ SiteTy x.2
  | [], _, _ => ⟨[], rfl, by simp⟩
  | p :: T, h, hl => by
    obtain ⟨X, h1, h2⟩ := sites_of T (fun q hq => h q (by simp [hq])) (fun q hq => hl q (by simp [hq]))
    obtain ⟨ao, cap, css, hv, k1, k2, k3, k4, k5⟩ := h p (by simp)
    have hln := hl p (by simp)
    refine ⟨(p.1, css) :: X, by simp [h1], ?_⟩
    intro i q x hq hx
    cases i with
    | zero =>
      simp only [List.getElem?_cons_zero, Option.some.injEq] at hq hx
      subst hq hx
      rw [hv] at hln ⊢
      exact ⟨rfl, ⟨ao, cap, rfl, by simp only [siteLen] at hln; show css.length ≤ 1000000; omega, k1, k2, k3, k4⟩, k5⟩
    | succ i => exact h2 i q x (by simpa using hq) (by simpa using hx)

theorem args_mem {X : List Tf} {ps : List (Nat × Nat)} {Y : List Tf} {x : Tf} (hY : Y ∈ argsOf X ps) (hx : x ∈ Y) : x ∈ X := by
  unfold argsOf at hY
  obtain ⟨p, _, rfl⟩ := List.mem_map.1 hY
  exact List.mem_of_mem_drop (List.mem_of_mem_take hx)

theorem commas_mem {X : List Tf} {ps : List (Nat × Nat)} {x : Tf} (hx : x ∈ commasOf X ps) : x ∈ X := by
  unfold commasOf at hx
  obtain ⟨p, _, hp⟩ := List.mem_filterMap.1 hx
  exact List.mem_of_getElem? hp
end Go.Proofs.YtfaoamdlknlgpaaGreat

/- ArgsWhole: what the walk reads. -/
namespace Go.Proofs.YtfaoamdlknlgpaaGreat
open Go.RowKit
set_option linter.unusedVariables false

/-- eight cells of a token, from a place on -/
def Tok8 (x : World) (b o : Nat) (t : Tm) (v : Value) : Prop :=
  x.cell? ⟨b, o, none⟩ = some (.int .i64 t.kind) ∧ x.cell? ⟨b, o + 1, none⟩ = some (.string t.text) ∧ x.cell? ⟨b, o + 2, none⟩ = some (.bool t.sp) ∧ x.cell? ⟨b, o + 3, none⟩ = some (.string t.file) ∧ x.cell? ⟨b, o + 4, none⟩ = some (.int .i64 t.f) ∧ x.cell? ⟨b, o + 5, none⟩ = some (.int .i64 t.t) ∧ x.cell? ⟨b, o + 6, none⟩ = some (.bool t.made) ∧ x.cell? ⟨b, o + 7, none⟩ = some v

theorem Tok8.below {x y : World} {b o : Nat} {t : Tm} {v : Value} (h : Tok8 x b o t v) (hb : Below x.heap.size x y) : Tok8 y b o t v := by
  obtain ⟨h0, h1, h2, h3, h4, h5, h6, h7⟩ := h
  exact ⟨kept_cell hb h0, kept_cell hb h1, kept_cell hb h2, kept_cell hb h3, kept_cell hb h4, kept_cell hb h5, kept_cell hb h6, kept_cell hb h7⟩

/-- an argument of the list, and its tokens: the same as stand in the row -/
theorem whole_cell {X : List Tf} {T : List (Tm × Value)} {w w2 : World} {tb tq B lb lo n cap : Nat} {ps : List (Nat × Nat)} (hat : RowAt w 8 tb tq (T.map tvC)) (hlen : X.length = T.length) (hs : ∀ (i : Nat) p x, T[i]? = some p → X[i]? = some x → p.1 = x.1 ∧ SiteIn w p.2 x.2 ∧ SiteTy x.2) (hb : Below w.heap.size w w2)
    (hO : OwnLs (argsOf X ps) B (.slice (some ⟨lb, lo, none⟩) n cap) w2) {i f t : Nat} (hp : ps[i]? = some (f, t)) (hft : f ≤ t) (ht : t ≤ X.length) :
    ∃ (la : Option Addr) (lc : Nat), (∀ x, Below w2.heap.size w2 x → x.cell? ⟨lb, lo + i, none⟩ = some (.slice la (t - f) lc)) ∧ t - f ≤ lc ∧
      ∀ k, k < t - f → ∃ (ab aq : Nat) (tm : Tm) (sa1 sa2 : Option Addr) (sn sc1 sc2 : Nat), la = some ⟨ab, aq, none⟩ ∧ ∀ x, Below w2.heap.size w2 x →
        Tok8 x tb (tq + (f + k) * 8) tm (.slice sa1 sn sc1) ∧ Tok8 x ab (aq + k * 8) tm (.slice sa2 sn sc2) ∧
        Calls Tryz.prog 31 #[.agg #[.int .i64 tm.kind, .string tm.text, .bool tm.sp, .string tm.file, .int .i64 tm.f, .int .i64 tm.t, .bool tm.made, .slice sa1 sn sc1], .agg #[.int .i64 tm.kind, .string tm.text, .bool tm.sp, .string tm.file, .int .i64 tm.f, .int .i64 tm.t, .bool tm.made, .slice sa2 sn sc2]] x fun e w' => e = .returned (.bool true) ∧ Below x.heap.size x w' := by
  have hY : (argsOf X ps)[i]? = some ((X.drop f).take (t - f)) := by
    unfold argsOf
    rw [List.getElem?_map, hp]
    rfl
  have hYl : ((X.drop f).take (t - f)).length = t - f := by rw [List.length_take, List.length_drop]; omega
  obtain ⟨b', o', la, lc, he, hc, hT⟩ := hO.cell hY
  simp only [Option.some.injEq, Addr.mk.injEq, and_true] at he
  obtain ⟨rfl, rfl⟩ := he
  rw [hYl] at hc hT
  obtain ⟨T2, o2, l2, r2⟩ := hT
  obtain ⟨ao2, cap2, hv2, k1, _, hrow2, _⟩ := o2.rown (n := t - f) (by rw [List.length_map, l2, hYl])
  simp only [Value.slice.injEq] at hv2
  obtain ⟨rfl, _, rfl⟩ := hv2
  refine ⟨la, lc, fun x hx => kept_cell hx hc, k1, fun k hk => ?_⟩
  obtain ⟨p1, hp1⟩ : ∃ p, T[f + k]? = some p := ⟨_, List.getElem?_eq_getElem (by omega)⟩
  obtain ⟨x1, hx1⟩ : ∃ x, X[f + k]? = some x := ⟨_, List.getElem?_eq_getElem (by omega)⟩
  obtain ⟨p2, hp2⟩ : ∃ p, T2[k]? = some p := ⟨_, List.getElem?_eq_getElem (by rw [l2, hYl]; exact hk)⟩
  have hx2 : ((X.drop f).take (t - f))[k]? = some x1 := by rw [List.getElem?_take, if_pos hk, List.getElem?_drop]; exact hx1
  obtain ⟨e1, s1, ty⟩ := hs _ _ _ hp1 hx1
  obtain ⟨e2, o3⟩ := r2 _ _ _ hp2 hx2
  have s2 : SiteIn w2 p2.2 x1.2 := own_siteIn o3 s1.ok
  have s1' := s1.below hb
  obtain ⟨ab, aq, rfl, hat2⟩ := hrow2 (by intro e; simp at e; rw [e] at hp2; simp at hp2)
  have c1 := tok8 (tok_at (hat.below hb) hp1)
  have c2 := tok8 (tok_at hat2 hp2)
  obtain ⟨t1, v1⟩ := p1
  obtain ⟨t2, v2⟩ := p2
  obtain ⟨tx, css⟩ := x1
  simp only at e1 e2 s1' s2 c1 c2 ty
  subst e1 e2
  have HS := fun x (hx : Below w2.heap.size w2 x) => sameTok_any t2 v1 v2 css x (s1'.below hx) (s2.below hx) ty
  obtain ⟨sa1, sc1, rfl, _⟩ := s1'
  obtain ⟨sa2, sc2, rfl, _⟩ := s2
  exact ⟨ab, aq, t2, sa1, sa2, css.length, sc1, sc2, rfl, fun x hx => ⟨Tok8.below (x := w2) c1 hx, Tok8.below (x := w2) c2 hx, HS x hx⟩⟩

/-- 'a' and so many more -/
theorem byte_a {i : Nat} (hi : i < 26) : ((UInt8.ofNat (97 + i)).toNat : Int) = 97 + (i : Int) := by
  have : (UInt8.ofNat (97 + i)).toNat = 97 + i := by simp [UInt8.toNat_ofNat']; omega
  rw [this]
  push_cast
  rfl

theorem conv_a {i : Nat} (hi : i < 26) (w : World) : (convert 58 9 (.slice (some ⟨w.heap.size, 0, none⟩) 1 1)).run Tryz.prog (w.alloc (.cells #[.int .u8 (97 + (i : Int))] 5)) = .ok (.string ⟨#[UInt8.ofNat (97 + i)]⟩) (w.alloc (.cells #[.int .u8 (97 + (i : Int))] 5)) :=
  run_convert_bytes_back (P := Tryz.prog) (w.alloc (.cells #[.int .u8 (97 + (i : Int))] 5)) 58 9 5 ⟨w.heap.size, 0, none⟩ 1 [UInt8.ofNat (97 + i)] Tryz.underlying58 Tryz.underlying5 Tryz.underlying9 (by
    intro j hj
    obtain rfl : j = 0 := by simpa using hj
    have := Lib.cell_of_heap (heap_alloc_new w (.cells #[.int .u8 (97 + (i : Int))] 5)) 0
    simp only [List.getElem_cons_zero, byte_a hi]
    exact this)

theorem take_sum : ∀ (l : List Nat) (i : Nat), (l.take i).sum ≤ l.sum
  | [], i => by simp
  | a :: l, 0 => by simp
  | a :: l, i + 1 => by
    simp only [List.take_succ_cons, List.sum_cons]
    have := take_sum l i
    omega
end Go.Proofs.YtfaoamdlknlgpaaGreat

/- The document's Collect: its state, and Is. -/
namespace Go.Proofs.YtfaoamdlknlgpaaGreat
open Go.RowKit
set_option linter.unusedVariables false

set_option maxRecDepth 100000 in
theorem rIs_any (t : Tm) (v : Value) (s : ByteArray) (w : World) :
    Calls Tryz.prog 54 #[.agg (tmC t v).toArray, .string s] w fun e w' => e = .returned (.bool (isP t s)) ∧ Below w.heap.size w w' := by
  have hkk := t.kind
  unfold isP
  rw [← beq_text2]
  obtain ⟨k, hk⟩ : ∃ k, k = t.kind := ⟨_, rfl⟩
  unfold tmC
  rw [← hk]
  replace hk := Lib.hid hk
  go_enter Tryz.func54, Tryz.ntmps54
  by_cases h5 : k = 5
  · subst h5
    go_wp2
    go_ret
    exact ⟨by simp, (Below.refl _ w).alloc (Nat.le_refl _) _⟩
  · have hb : (k == 5) = false := by simpa using h5
    go_wp2
    go_ret
    exact ⟨by simp [h5], (Below.refl _ w).alloc (Nat.le_refl _) _⟩

/-- the three signs: one at most -/
theorem signs_one (t : Tm) : (isP t sOpen = true → isP t sShut = false ∧ isP t sComma = false) ∧ (isP t sShut = true → isP t sOpen = false ∧ isP t sComma = false) := by
  unfold isP
  simp only [Bool.and_eq_true, decide_eq_true_eq, Bool.and_eq_false_iff, decide_eq_false_iff_not]
  refine ⟨fun ⟨_, h⟩ => ⟨.inr ?_, .inr ?_⟩, fun ⟨_, h⟩ => ⟨.inr ?_, .inr ?_⟩⟩ <;> (rw [h]; decide)

def cutT (T : List (Tm × Value)) (f t : Nat) : List (Tm × Value) := (T.drop f).take (t - f)
/-- the commas behind each -/
def comR (T : List (Tm × Value)) (out : List (Nat × Nat)) : List (Tm × Value) := out.filterMap fun p => T[p.2]?

theorem cutT_snoc {T : List (Tm × Value)} {f i : Nat} {p : Tm × Value} (hf : f ≤ i) (hp : T[i]? = some p) : cutT T f (i + 1) = cutT T f i ++ [p] := by
  unfold cutT
  have h : (T.drop f)[i - f]? = some p := by rw [List.getElem?_drop, show f + (i - f) = i by omega]; exact hp
  rw [show i + 1 - f = i - f + 1 by omega, List.take_add_one, h]
  rfl
theorem cutT_none (T : List (Tm × Value)) (f : Nat) : cutT T f f = [] := by unfold cutT; rw [Nat.sub_self]; rfl

/-- what is collected so far -/
structure RcSt (T : List (Tm × Value)) (B i fr : Nat) (out : List (Nat × Nat)) (v7 v8 v9 : Value) (wx : World) : Prop where
  now : Own wx B 34 8 v8 ((cutT T fr i).map tvC)
  ls : ∃ vs : List Value, Own wx B 22 1 v7 (vs.map fun u => [u]) ∧ vs.length = out.length ∧ (∀ (j : Nat) u p, vs[j]? = some u → out[j]? = some p → Own wx B 34 8 u ((cutT T p.1 p.2).map tvC)) ∧ ∀ u ∈ vs, ∀ k, u.ownBlock = some k → v9.ownBlock ≠ some k
  cm : Own wx B 34 8 v9 ((comR T out).map tvC)
  d1 : ∀ k, v8.ownBlock = some k → v9.ownBlock ≠ some k

theorem RcSt.below {T : List (Tm × Value)} {B i fr : Nat} {out : List (Nat × Nat)} {v7 v8 v9 : Value} {w w' : World} (h : RcSt T B i fr out v7 v8 v9 w) (hb : Below w.heap.size w w') : RcSt T B i fr out v7 v8 v9 w' := by
  obtain ⟨vs, l1, l2, l3, l4⟩ := h.ls
  exact ⟨h.now.below hb, ⟨vs, l1.below hb, l2, fun j u p hu hp => (l3 j u p hu hp).below hb, l4⟩, h.cm.below hb, h.d1⟩

/-- a token more -/
theorem RcSt.more {T : List (Tm × Value)} {B i fr : Nat} {out : List (Nat × Nat)} {v7 v8 v9 v8' : Value} {w w' : World} {p : Tm × Value} (h : RcSt T B i fr out v7 v8 v9 w) (hb : Below w.heap.size w w') (hBw : B ≤ w.heap.size) (hf : fr ≤ i) (hp : T[i]? = some p)
    (ho : Own w' w.heap.size 34 8 v8' ((cutT T fr i).map tvC ++ [tvC p])) : RcSt T B (i + 1) fr out v7 v8' v9 w' := by
  have h2 := h.below hb
  refine ⟨by rw [cutT_snoc hf hp, List.map_append]; exact ho.mono hBw, h2.ls, h2.cm, fun k hk e => ?_⟩
  have h3 := ho.ge k hk
  obtain ⟨c, fz, hh⟩ := h.cm.size_lt k e
  have := lt_of_block hh
  omega

/-- a list more -/
theorem RcSt.list {T : List (Tm × Value)} {B i fr : Nat} {out : List (Nat × Nat)} {v7 v8 v9 v7' : Value} {w w' : World} (h : RcSt T B i fr out v7 v8 v9 w) {vs : List Value} (l1 : Own w B 22 1 v7 (vs.map fun u => [u])) (l2 : vs.length = out.length) (l3 : ∀ (j : Nat) u p, vs[j]? = some u → out[j]? = some p → Own w B 34 8 u ((cutT T p.1 p.2).map tvC)) (l4 : ∀ u ∈ vs, ∀ k, u.ownBlock = some k → v9.ownBlock ≠ some k)
    (ho : Own w' B 22 1 v7' (vs.map (fun u => [u]) ++ [[v8]])) (hg : w.grownBy w' v7.ownBlock) :
    (∃ vs' : List Value, Own w' B 22 1 v7' (vs'.map fun u => [u]) ∧ vs'.length = (out ++ [(fr, i)]).length ∧ (∀ (j : Nat) u p, vs'[j]? = some u → (out ++ [(fr, i)])[j]? = some p → Own w' B 34 8 u ((cutT T p.1 p.2).map tvC)) ∧ ∀ u ∈ vs', ∀ k, u.ownBlock = some k → v9.ownBlock ≠ some k) ∧ Own w' B 34 8 v9 ((comR T out).map tvC) := by
  refine ⟨⟨vs ++ [v8], by rw [List.map_append]; exact ho, by simp [l2], ?_, ?_⟩, h.cm.kept hg (own_apart h.cm l1 (by decide))⟩
  · intro j u p hu hp
    by_cases hj : j < vs.length
    · rw [List.getElem?_append_left hj] at hu
      rw [List.getElem?_append_left (by omega)] at hp
      exact (l3 j u p hu hp).kept hg (own_apart (l3 j u p hu hp) l1 (by decide))
    · rw [List.getElem?_append_right (by omega)] at hu
      rw [List.getElem?_append_right (by omega)] at hp
      have h0 : j - vs.length = 0 := by
        have := (List.getElem?_eq_some_iff.1 hu).1
        simp at this; omega
      rw [h0] at hu
      rw [← l2, h0] at hp
      simp at hu hp
      subst hu hp
      exact h.now.kept hg (own_apart h.now l1 (by decide))
  · intro u hu k hk
    rcases List.mem_append.1 hu with hu | hu
    · exact l4 u hu k hk
    · simp at hu
      subst hu
      exact h.d1 k hk

/-- a comma more -/
theorem rc_comma {T : List (Tm × Value)} {B i fr g' n cap : Nat} {out : List (Nat × Nat)} {v7 v9 : Value} {w w' : World} {p : Tm × Value} {vs : List Value} (l1 : Own w B 22 1 v7 (vs.map fun u => [u])) (l2 : vs.length = (out ++ [(fr, i)]).length) (l3 : ∀ (j : Nat) u q, vs[j]? = some u → (out ++ [(fr, i)])[j]? = some q → Own w B 34 8 u ((cutT T q.1 q.2).map tvC)) (l4 : ∀ u ∈ vs, ∀ k, u.ownBlock = some k → v9.ownBlock ≠ some k)
    (hc : Own w B 34 8 v9 ((comR T out).map tvC)) (hp : T[i]? = some p) (ho : Own w' B 34 8 (.slice (some ⟨g', 0, none⟩) n cap) ((comR T out).map tvC ++ [tvC p])) (hg : w.grownBy w' v9.ownBlock) (hd : v9.ownBlock = some g' ∨ w.heap.size ≤ g') :
    RcSt T B (i + 1) (i + 1) (out ++ [(fr, i)]) v7 (.slice none 0 0) (.slice (some ⟨g', 0, none⟩) n cap) w' := by
  refine ⟨by rw [cutT_none]; exact Own.nil _ _ _ _, ⟨vs, l1.kept hg (own_apart l1 hc (by decide)), l2, fun j u q hu hq => ?_, fun u hu k hk e => ?_⟩, ?_, fun k hk => by simp [Value.ownBlock] at hk⟩
  · refine (l3 j u q hu hq).kept hg ?_
    cases hub : u.ownBlock with
    | none => exact .inl rfl
    | some k => exact .inr fun e => l4 u (List.mem_of_getElem? hu) k hub e.symm
  · have hgk : g' = k := by simpa [Value.ownBlock] using e
    subst hgk
    rcases hd with hd | hd
    · exact l4 u hu g' hk hd
    · obtain ⟨j, hj⟩ := List.getElem?_of_mem hu
      obtain ⟨q, hq⟩ : ∃ q, (out ++ [(fr, i)])[j]? = some q := ⟨_, List.getElem?_eq_getElem (by rw [← l2]; exact (List.getElem?_eq_some_iff.1 hj).1)⟩
      obtain ⟨c, fz, hh⟩ := (l3 j u q hj hq).size_lt g' hk
      have := lt_of_block hh
      omega
  · have : comR T (out ++ [(fr, i)]) = comR T out ++ [p] := by
      unfold comR
      rw [List.filterMap_append]
      simp [hp]
    rw [this, List.map_append]
    exact ho
end Go.Proofs.YtfaoamdlknlgpaaGreat

/- The document's small words of macros: Paster, Hash, Param, kept. -/
namespace Go.Proofs.YtfaoamdlknlgpaaGreat
open Go.RowKit
set_option linter.unusedVariables false

theorem hash_two (t : Tm) : hashP t = (isP t (bs [35]) || isP t (bs [37, 58])) := by
  unfold hashP isP
  cases decide (t.kind = 5) <;> simp

set_option maxRecDepth 100000 in
theorem rPaster_any (t : Tm) (v : Value) (w : World) :
    Calls Tryz.prog 83 #[.agg (tmC t v).toArray] w fun e w' => e = .returned (.bool (pasteP t)) ∧ Below w.heap.size w w' := by
  have H1 := fun w => rIs_any t v (bs [35, 35]) w
  have H2 := fun w => rIs_any t v (bs [37, 58, 37, 58]) w
  unfold pasteP
  obtain ⟨x, hx⟩ : ∃ x, x = isP t (bs [35, 35]) := ⟨_, rfl⟩
  obtain ⟨y, hy⟩ : ∃ y, y = isP t (bs [37, 58, 37, 58]) := ⟨_, rfl⟩
  simp only [← hx, ← hy] at H1 H2 ⊢
  clear hx hy
  replace H1 := Lib.hid H1
  replace H2 := Lib.hid H2
  unfold tmC at *
  go_enter Tryz.func83, Tryz.ntmps83
  go_wp2_with fail
  refine (H1.out _).mono ?_
  rintro e w1 ⟨rfl, hb1⟩
  have hA : Below w.heap.size w w1 := ((Below.refl _ w).alloc (Nat.le_refl _) _).trans (hb1.mono (by simp))
  cases x with
  | true =>
    go_wp2
    go_ret
    exact ⟨rfl, hA⟩
  | false =>
    obtain ⟨d0, d1, d2, d3, d4, d5, d6, d7⟩ := cells8 ((hb1.block w.heap.size (by simp)).trans (heap_alloc_new w _))
    go_wp2_with fail
    refine (H2.out _).mono ?_
    rintro e w2 ⟨rfl, hb2⟩
    go_wp2
    go_ret
    exact ⟨by simp, hA.trans (hb2.mono hA.size)⟩

set_option maxRecDepth 100000 in
theorem rHash_any (t : Tm) (v : Value) (w : World) :
    Calls Tryz.prog 84 #[.agg (tmC t v).toArray] w fun e w' => e = .returned (.bool (hashP t)) ∧ Below w.heap.size w w' := by
  have H1 := fun w => rIs_any t v (bs [35]) w
  have H2 := fun w => rIs_any t v (bs [37, 58]) w
  rw [hash_two]
  obtain ⟨x, hx⟩ : ∃ x, x = isP t (bs [35]) := ⟨_, rfl⟩
  obtain ⟨y, hy⟩ : ∃ y, y = isP t (bs [37, 58]) := ⟨_, rfl⟩
  simp only [← hx, ← hy] at H1 H2 ⊢
  clear hx hy
  replace H1 := Lib.hid H1
  replace H2 := Lib.hid H2
  unfold tmC at *
  go_enter Tryz.func84, Tryz.ntmps84
  go_wp2_with fail
  refine (H1.out _).mono ?_
  rintro e w1 ⟨rfl, hb1⟩
  have hA : Below w.heap.size w w1 := ((Below.refl _ w).alloc (Nat.le_refl _) _).trans (hb1.mono (by simp))
  cases x with
  | true =>
    go_wp2
    go_ret
    exact ⟨rfl, hA⟩
  | false =>
    obtain ⟨d0, d1, d2, d3, d4, d5, d6, d7⟩ := cells8 ((hb1.block w.heap.size (by simp)).trans (heap_alloc_new w _))
    go_wp2_with fail
    refine (H2.out _).mono ?_
    rintro e w2 ⟨rfl, hb2⟩
    go_wp2
    go_ret
    exact ⟨by simp, hA.trans (hb2.mono hA.size)⟩


set_option maxRecDepth 100000 in
theorem rKept_any (n : ByteArray) (w : World) : Calls Tryz.prog 61 #[.string n] w fun e w' => e = .returned (.bool (fixedP n)) ∧ w' = w := by
  unfold fixedP restN
  rw [← beq_text, ← beq_text, ← beq_text, ← beq_text]
  go_enter Tryz.func61, Tryz.ntmps61
  go_wp2
  all_goals
    go_ret
    exact ⟨by simp [*], rfl⟩

theorem idxFrom_step (x : ByteArray) : ∀ (zs : List ByteArray) (i : Nat), Lib.idxFromS zs x i = match zs with | [] => -1 | z :: r => if z = x then (i : Int) else Lib.idxFromS r x (i + 1)
  | [], i => rfl
  | z :: r, i => by
    by_cases h : z = x
    · simp [Lib.idxFromS, h]
    · simp [Lib.idxFromS, h]

set_option maxRecDepth 100000 in
theorem rParam_any (name : ByteArray) (fn va : Bool) (body : Value) (file : ByteArray) (f t : Int) (ps : List ByteArray) (ao : Option Addr) (cap : Nat) (x : ByteArray) (hn : ps.length ≤ 1000000000) (hb : ∃ a n c, body = .slice a n c) (w : World) (hrow : Row w 1 ao (ps.map fun p => [.string p])) :
    Calls Tryz.prog 82 #[.agg #[.string name, .bool fn, .bool va, .slice ao ps.length cap, body, .string file, .int .i64 f, .int .i64 t], .string x] w fun e w' => e = .returned (.int .i64 (Lib.idxOfS ps x)) ∧ Below w.heap.size w w' := by
  obtain ⟨ba, bn, bc, rfl⟩ := hb
  obtain ⟨n, hnn⟩ : ∃ n, n = ps.length := ⟨_, rfl⟩
  have HN : Hid (ps.length = n) := Lib.hid hnn.symm
  rw [← hnn] at hn ⊢
  clear hnn
  obtain ⟨W1, hW1⟩ : ∃ W1, W1 = w.alloc (.cells #[.string name, .bool fn, .bool va, .slice ao n cap, .slice ba bn bc, .string file, .int .i64 f, .int .i64 t] 47) := ⟨_, rfl⟩
  have b1 : Hid (Below w.heap.size w W1) := Lib.hid (by rw [hW1]; exact (Below.refl _ w).alloc (Nat.le_refl _) _)
  have hc1 : Hid (W1.heap[w.heap.size]? = some (.cells #[.string name, .bool fn, .bool va, .slice ao n cap, .slice ba bn bc, .string file, .int .i64 f, .int .i64 t] 47 (0, 0))) := Lib.hid (by rw [hW1]; exact heap_alloc_new w _)
  replace hrow := Lib.hid (hrow.below b1.out)
  obtain ⟨x0, x1, x2, x3, x4, x5, x6, x7⟩ := cells8 hc1.out
  go_enter Tryz.func82, Tryz.ntmps82
  go_wp2_with fail
  rw [← hW1]
  replace hW1 := Lib.hid hW1
  go_loopg [5] n (fun q v5 wx => ∃ i : Nat, q = n - i ∧ i ≤ n ∧ v5 = .int .i64 i ∧ Hid (Lib.idxFromS (ps.drop i) x i = Lib.idxOfS ps x) ∧ wx = W1)
  case atStart => exact ⟨0, rfl, Nat.zero_le _, rfl, Lib.hid rfl, rfl⟩
  case round =>
    obtain ⟨i, hq, hi, rfl, hid, hw⟩ := hrel
    replace hq := hq.symm
    subst hq
    replace hw := hw.symm
    subst hw
    by_cases hin : i < n
    · have hin' : (i : Int) < n := by omega
      have f4 : Hid (n - (i + 1) < n - i) := Lib.hid (by omega)
      have g1 : IntKind.i64.wrap ((i : Int) + 1) = (i : Int) + 1 := IntWalk.i64_in _ (by omega)
      obtain ⟨p, hp⟩ : ∃ p, ps[i]? = some p := ⟨_, List.getElem?_eq_getElem (by rw [HN.out]; exact hin)⟩
      obtain ⟨rb, ro, rfl, hat⟩ := hrow.out (by intro e; simp at e; rw [e] at hp; simp at hp)
      have hc := hat.cell (i := i) (cs := [.string p]) (by rw [List.getElem?_map, hp]; rfl) (j := 0) rfl
      simp only [Nat.mul_one, Nat.add_zero] at hc
      have hd : ps.drop i = p :: ps.drop (i + 1) := by
        rw [List.drop_eq_getElem_cons (by rw [HN.out]; exact hin), (List.getElem?_eq_some_iff.1 hp).2]
      have hst := hid.out
      rw [hd, idxFrom_step] at hst
      simp only at hst
      clear hat hp hd
      by_cases hpx : p = x
      · have hbx : (p.toList == x.toList) = true := by rw [hpx]; simp
        rw [if_pos hpx] at hst
        replace hst := Lib.hid hst
        replace hpx := Lib.hid hpx
        go_wp2
        go_ret
        exact ⟨by rw [← hst.out]; rfl, b1.out⟩
      · have hbx : (p.toList == x.toList) = false := by rw [beq_text2]; exact decide_eq_false hpx
        rw [if_neg hpx] at hst
        replace hst := Lib.hid hst
        replace hpx := Lib.hid hpx
        go_wp2_with fail
        go_roundg (n - (i + 1))
        case measure => exact f4.out
        case rel => exact ⟨i + 1, rfl, hin, by simp, hst, rfl⟩
    · have hin' : ¬ (i : Int) < n := by omega
      have hst := hid.out
      rw [List.drop_eq_nil_of_le (by rw [HN.out]; omega), idxFrom_step] at hst
      simp only at hst
      replace hst := Lib.hid hst
      go_wp2
      go_ret
      exact ⟨by rw [← hst.out]; rfl, b1.out⟩
end Go.Proofs.YtfaoamdlknlgpaaGreat
