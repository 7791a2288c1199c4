/- Files: the document's table: where a path stands. -/
import Derived.Test.YtekbilieddficaaDoorFi10
import Derived.Test.YtekbilieddficaaDoorAppN
import Derived.Deep.CutRange
import Derived.Deep.Cut
import Derived.Deep.CutBlock
import Derived.Deep.RegionHeld3
namespace Go.Proofs.YtekbilieddficaaDoor
open Go.RowKit
set_option linter.unusedVariables false

theorem bytesLess_lt : ∀ x y : List UInt8, Op.bytesLess x y = decide (x < y)
  | _, [] => by simp [Op.bytesLess]
  | [], _ :: _ => by simp [Op.bytesLess]
  | a :: x, b :: y => by
    by_cases h : a = b
    · subst h; simp [Op.bytesLess, bytesLess_lt x y]
    · have h2 : (a == b) = false := beq_false_of_ne h
      simp [Op.bytesLess, List.cons_lt_cons_iff, bytesLess_lt x y, h, h2]
theorem less_true {a b : ByteArray} (h : a.data.toList < b.data.toList) : Op.bytesLess a.toList b.toList = true := by
  rw [bytesLess_lt, Lib.toList_data, Lib.toList_data]
  exact decide_eq_true h
theorem less_false {a b : ByteArray} (h : ¬ a.data.toList < b.data.toList) : Op.bytesLess a.toList b.toList = false := by
  rw [bytesLess_lt, Lib.toList_data, Lib.toList_data]
  exact decide_eq_false h

theorem own_atN {w : World} {B e n lc sz : Nat} {lo : Option Addr} {css : List (List Value)} {k j : Nat} {cs : List Value} {u : Value} (h : Own w B e sz (.slice lo n lc) css) (hk : css[k]? = some cs) (hj : cs[j]? = some u) :
    ∃ gb, lo = some ⟨gb, 0, none⟩ ∧ w.cell? ⟨gb, k * sz + j, none⟩ = some u ∧ B ≤ gb := by
  have hkl := (List.getElem?_eq_some_iff.1 hk).1
  rcases h.1.2 with ⟨hv, h0⟩ | ⟨g, cap, cur, hv, hb, hg, hn, hm, hs, ht⟩
  · omega
  · simp only [Value.slice.injEq] at hv
    refine ⟨g, hv.1, ?_, hb⟩
    have := h.1.cells (g := g) (by rw [hv.1]; rfl) (k * sz + j) u (flatten_at h.2 hk hj)
    rw [Addr.add_lit] at this
    simpa using this

theorem own_casesN {w : World} {B e n lc sz : Nat} {lo : Option Addr} {css : List (List Value)} (h : Own w B e sz (.slice lo n lc) css) : (lo = none ∧ n = 0 ∧ lc = 0) ∨ ∃ gb, lo = some ⟨gb, 0, none⟩ := by
  rcases h.1.2 with ⟨hv, h0⟩ | ⟨g, cap, cur, hv, _⟩
  · simp only [Value.slice.injEq] at hv
    exact .inl hv
  · simp only [Value.slice.injEq] at hv
    exact .inr ⟨g, hv.1⟩

theorem Row.dropN {w : World} {sz b o : Nat} {css : List (List Value)} (h : Row w sz (some ⟨b, o, none⟩) css) (k : Nat) : Row w sz (some ⟨b, o + k * sz, none⟩) (css.drop k) := by
  intro hne
  obtain ⟨b', o', e, hat⟩ := h (by rintro rfl; simp at hne)
  simp only [Option.some.injEq, Addr.mk.injEq, and_true] at e
  obtain ⟨rfl, rfl⟩ := e
  refine ⟨b, o + k * sz, rfl, fun i cs hi j u hj => ?_⟩
  rw [List.getElem?_drop] at hi
  have := hat (k + i) cs hi j u hj
  rw [← this]
  congr 2
  rw [Nat.add_mul]
  omega

/-- the cells of a file of the document's, whose text is empty -/
def filC (p : ByteArray) : List Value := [.string p, .string ⟨#[]⟩]
theorem filC_at {P : List ByteArray} {k : Nat} {s : ByteArray} (h : P[k]? = some s) : (P.map filC)[k]? = some (filC s) := by rw [List.getElem?_map, h]; rfl

/-- The document's table: its directories, its paths in their order (each of an empty text), the names that changed (once each). -/
structure RTab (w : World) (B g : Nat) (dv : Value) (P N : List ByteArray) : Prop where
  tab : ∃ lv nv tv, w.heap[g]? = some (.cells #[dv, lv, nv, tv] 34 (0, 0)) ∧ Own w B 98 2 lv (P.map filC) ∧ Own w B 9 1 nv (strsB N) ∧ Own w B 3 1 tv (List.replicate N.length [.int .i64 1])
  low : B ≤ g
  sz : ∀ p ∈ P, p.size ≤ 80

theorem RTab.moved {w w' : World} {B g : Nat} {dv : Value} {P N : List ByteArray} (h : RTab w B g dv P N) (hb : Below w.heap.size w w') : RTab w' B g dv P N := by
  obtain ⟨lv, nv, tv, h1, h2, h3, h4⟩ := h.tab
  exact ⟨⟨lv, nv, tv, (hb.block g (lt_of_block h1)).trans h1, h2.below hb, h3.below hb, h4.below hb⟩, h.low, h.sz⟩

def RiseB (P : List ByteArray) : Prop := P.Pairwise fun p q => p.data.toList < q.data.toList

/-- what At tells -/
def AtPost (P : List ByteArray) (s : ByteArray) (e : Ending) : Prop :=
  ∃ k : Nat, ∃ b : Bool, e = .returned (.tuple #[.int .i64 k, .bool b]) ∧ k ≤ P.length ∧ (∀ (j : Nat) p, j < k → P[j]? = some p → p.data.toList < s.data.toList) ∧ (∀ p, P[k]? = some p → ¬ p.data.toList < s.data.toList) ∧ (b = true ↔ P[k]? = some s)

set_option maxRecDepth 100000 in
set_option maxHeartbeats 2000000 in
theorem rat_any {B g : Nat} {dv : Value} {P N : List ByteArray} (w : World) (h : RTab w B g dv P N) (hl : P.length ≤ 1000) (s : ByteArray) :
    Calls Tryd.prog 31 #[.pointer (some ⟨g, 0, none⟩), .string s] w fun e w' => AtPost P s e ∧ Below w.heap.size w w' := by
  obtain ⟨lv, nv, tv, hg, hO, _, _⟩ := h.tab
  clear h
  obtain ⟨n, hn⟩ : ∃ n, n = P.length := ⟨_, rfl⟩
  obtain ⟨lo, lc, rfl, hnc, hcm, _, _⟩ := hO.rown (n := n) (by rw [List.length_map, hn])
  have c1 := Lib.cell_of_heap hg 1
  have HO := Lib.hid hO
  have HN := Lib.hid hn.symm
  have hn1 : n ≤ 1000 := by omega
  clear hO hn hg hl
  go_enter Tryd.func31, Tryd.ntmps31
  go_wp2_with fail
  go_loopg [6] n (fun q v6 wx => ∃ k : Nat, q = n - k ∧ k ≤ n ∧ v6 = .int .i64 k ∧ Hid (∀ (j : Nat) p, j < k → P[j]? = some p → p.data.toList < s.data.toList) ∧ wx = w)
  case atStart => exact ⟨0, rfl, Nat.zero_le _, rfl, Lib.hid (fun j p hj => absurd hj (by omega)), rfl⟩
  case round =>
    obtain ⟨k, hq, hk, rfl, hlow, hw⟩ := hrel
    replace hq := hq.symm
    subst hq
    replace hw := hw.symm
    subst hw
    by_cases hkm : k < n
    · have hkm' : (k : Int) < n := by omega
      have f4 : Hid (n - (k + 1) < n - k) := Lib.hid (by omega)
      have g1 : IntKind.i64.wrap ((k : Int) + 1) = (k : Int) + 1 := IntWalk.i64_in _ (by omega)
      obtain ⟨t, hLk⟩ : ∃ q, P[k]? = some q := ⟨_, List.getElem?_eq_getElem (by rw [HN.out]; exact hkm)⟩
      obtain ⟨gl, rfl, x2, _⟩ := own_atN HO.out (filC_at hLk) (j := 0) rfl
      replace x2 : w.cell? ⟨gl, k * 2, none⟩ = some (.string t) := x2
      replace hLk := Lib.hid hLk
      by_cases hless : t.data.toList < s.data.toList
      · have hb1 := less_true hless
        replace hless := Lib.hid hless
        go_wp2_with fail
        go_roundg (n - (k + 1))
        case measure => exact f4.out
        case rel => exact ⟨k + 1, rfl, by omega, rfl, Lib.hid (fun j p hj hp => by
          by_cases e : j = k
          · subst e
            rw [hLk.out] at hp
            cases hp
            exact hless.out
          · exact hlow.out j p (by omega) hp), rfl⟩
      · have hb1 := less_false hless
        replace hless := Lib.hid hless
        have hkne2 : decide (k < n) = true := decide_eq_true hkm
        by_cases hts : t = s
        · subst hts
          go_wp2_with fail
          go_quiet (fail)
          go_wp2
          go_ret2
          exact ⟨⟨k, true, rfl, by rw [HN.out]; omega, hlow.out, (fun p hp => by rw [hLk.out] at hp; cases hp; exact hless.out), ⟨fun _ => hLk.out, fun _ => rfl⟩⟩, below_drewN (Below.refl _ w) nq⟩
        · have hb2 : (t.toList == s.toList) = false := beq_false_of_ne (fun e => hts (by cases t; cases s; simpa [Lib.toList_data, Array.toList_inj] using e))
          go_wp2_with fail
          go_quiet (fail)
          go_wp2
          go_ret2
          exact ⟨⟨k, false, rfl, by rw [HN.out]; omega, hlow.out, (fun p hp => by rw [hLk.out] at hp; cases hp; exact hless.out), ⟨fun e => absurd e (by decide), fun e => by rw [hLk.out] at e; exact absurd (Option.some.inj e) hts⟩⟩, below_drewN (Below.refl _ w) nq⟩
    · obtain rfl : k = n := by omega
      have hkm' : ¬ (k : Int) < (k : Int) := by omega
      go_wp2_with fail
      go_quiet (fail)
      go_wp2
      go_ret2
      have hnone : P[k]? = none := List.getElem?_eq_none (by rw [HN.out]; exact Nat.le_refl _)
      exact ⟨⟨k, false, rfl, by rw [HN.out]; omega, hlow.out, (fun p hp => by rw [hnone] at hp; cases hp), ⟨fun e => absurd e (by decide), fun e => by rw [hnone] at e; cases e⟩⟩, below_drewN (Below.refl _ w) nq⟩
end Go.Proofs.YtekbilieddficaaDoor
