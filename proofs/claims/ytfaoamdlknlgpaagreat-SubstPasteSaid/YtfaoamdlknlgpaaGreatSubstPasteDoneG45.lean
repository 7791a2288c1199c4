/- Texts of this seat's proofs, laid into one file. -/
import Derived.Test.YtfaoamdlknlgpaaGreatSubstPasteDoneG14
import Derived.Deep.Slices
import Derived.DataReads
/- An argument of tokens, opened: its cells, and its tokens' sites. -/
namespace Go.Proofs.YtfaoamdlknlgpaaGreat
open Go.RowKit
set_option linter.unusedVariables false

theorem row_open {W : World} {base len m sz : Nat} {a : Addr} {Pr : List Value → Prop} (hsz : 0 < sz) (hl : len ≤ m) (hel : ∀ i, i < m → ∃ cs', W.cells? base (a.add (i * sz)) sz = some cs' ∧ Pr cs') :
    ∃ css : List (List Value), css.length = len ∧ (∀ c ∈ css, c.length = sz ∧ Pr c) ∧ Row W sz (some a) css := by
  obtain ⟨f, hf⟩ := Go.Deep.choose_lt hel
  refine ⟨(List.range len).map f, by simp, fun c hc => ?_, fun hne => ?_⟩
  · obtain ⟨i, hi, rfl⟩ := List.mem_map.1 hc
    have h := hf i (by have := List.mem_range.1 hi; omega)
    exact ⟨(World.cells?_some h.1).2.1, h.2⟩
  · have hpos : 0 < len := by
      rcases Nat.eq_zero_or_pos len with h | h
      · subst h; simp at hne
      · exact h
    have hspot : a.spot = none := by
      have h0 := World.cells?_some (hf 0 (by omega)).1
      have h1 := h0.2.2 0 hsz
      have h2 : (f 0)[0]? = some ((f 0)[0]'(by rw [h0.2.1]; exact hsz)) := List.getElem?_eq_getElem _
      rw [h2] at h1
      simp only [Nat.zero_mul, Addr.add, if_true] at h1
      unfold World.cell? at h1
      split at h1
      · split at h1
        · simp at h1
        · rename_i hs
          simpa using hs
      · simp at h1
    obtain ⟨b, o, sp⟩ := a
    simp only at hspot
    subst hspot
    refine ⟨b, o, rfl, fun i cs hi j u hj => ?_⟩
    rw [List.getElem?_map] at hi
    cases hr : (List.range len)[i]? with
    | none => rw [hr] at hi; simp at hi
    | some k =>
      rw [hr] at hi
      simp only [Option.map_some, Option.some.injEq] at hi
      have hlt := (List.getElem?_eq_some_iff.1 hr).1
      have hk : k = i := by
        have := (List.getElem?_eq_some_iff.1 hr).2
        simpa using this.symm
      subst hk hi
      have h0 := World.cells?_some (hf k (by simp at hlt; omega)).1
      have hj' : j < sz := by rw [← h0.2.1]; exact (List.getElem?_eq_some_iff.1 hj).1
      have h1 := h0.2.2 j hj'
      rw [hj, Addr.add_lit, Addr.add_lit] at h1
      exact h1

section
variable {H : Type} {enc : TypeId × Value → H} {W : World} {base : Nat} {sp : Nat → Bool} {held : Bool}

theorem cells_token : Tryz.prog.cellsOf 34 = 8 := by kernel_rfl
theorem cells_site : Tryz.prog.cellsOf 66 = 5 := by kernel_rfl
theorem cells_span : Tryz.prog.cellsOf 31 = 3 := by kernel_rfl
theorem cells_str : Tryz.prog.cellsOf 9 = 1 := by kernel_rfl
theorem cells_int : Tryz.prog.cellsOf 3 = 1 := by kernel_rfl
theorem cells_bool : Tryz.prog.cellsOf 4 = 1 := by kernel_rfl
theorem cells_sites : Tryz.prog.cellsOf 32 = 1 := by kernel_rfl

/-- a field's reading -/
theorem field_some {n m : Nat} {t : TypeId} {cs : List Value} {xs : List (DataW H × List MemPlace)} {i : Nat} (h : DataW.trod enc Tryz.prog W base sp held n t cs = xs[i]?) (hl : xs.length = m) (hi : i < m) : ∃ y, DataW.trod enc Tryz.prog W base sp held n t cs = some y :=
  ⟨xs[i]'(by omega), by rw [h, List.getElem?_eq_getElem]⟩

set_option maxRecDepth 100000 in
theorem open_span {n : Nat} {cs : List Value} {x : DataW H × List MemPlace} (h : DataW.trod enc Tryz.prog W base sp held n 31 cs = some x) : ∃ file f t, cs = [.string file, .int .i64 f, .int .i64 t] := by
  obtain ⟨xs, m, _, _, hl, hn, hf⟩ := DataW.trod_struct Tryz.underlying31 h
  rw [cells_span] at hl
  match cs, hl with
  | [v0, v1, v2], _ =>
    obtain ⟨y0, g0⟩ := field_some (hf 0 ⟨"File", 9, 0, false, "", "", 0⟩ rfl) hn (by decide)
    obtain ⟨y1, g1⟩ := field_some (hf 1 ⟨"From", 3, 1, false, "", "", 16⟩ rfl) hn (by decide)
    obtain ⟨y2, g2⟩ := field_some (hf 2 ⟨"To", 3, 2, false, "", "", 24⟩ rfl) hn (by decide)
    simp only [cells_str, cells_int, List.drop_zero, List.drop_succ_cons, List.take_succ_cons, List.take_zero] at g0 g1 g2
    obtain ⟨a, ha, _⟩ := DataW.trod_string Tryz.underlying9 g0
    obtain ⟨b, hb, _⟩ := DataW.trod_int Tryz.underlying3 g1
    obtain ⟨c, hc, _⟩ := DataW.trod_int Tryz.underlying3 g2
    simp only [List.cons.injEq, and_true] at ha hb hc
    subst ha hb hc
    exact ⟨a, b, c, rfl⟩

set_option maxRecDepth 100000 in
theorem open_site {n : Nat} {cs : List Value} {x : DataW H × List MemPlace} (h : DataW.trod enc Tryz.prog W base sp held n 66 cs = some x) : (∀ u ∈ cs, u.oneCell' = true) ∧ ∃ m file f t made, cs = siC m file f t made := by
  obtain ⟨xs, m, _, _, hl, hn, hf⟩ := DataW.trod_struct Tryz.underlying66 h
  rw [cells_site] at hl
  match cs, hl with
  | [v0, v1, v2, v3, v4], _ =>
    obtain ⟨y0, g0⟩ := field_some (hf 0 ⟨"Macro", 9, 0, false, "", "", 0⟩ rfl) hn (by decide)
    obtain ⟨y1, g1⟩ := field_some (hf 1 ⟨"Name", 31, 1, false, "", "", 16⟩ rfl) hn (by decide)
    obtain ⟨y2, g2⟩ := field_some (hf 2 ⟨"Made", 4, 4, false, "", "", 48⟩ rfl) hn (by decide)
    simp only [cells_str, cells_span, cells_bool, List.drop_zero, List.drop_succ_cons, List.take_succ_cons, List.take_zero] at g0 g1 g2
    obtain ⟨a, ha, _⟩ := DataW.trod_string Tryz.underlying9 g0
    obtain ⟨f, p, q, hs⟩ := open_span g1
    obtain ⟨c, hc, _⟩ := DataW.trod_bool Tryz.underlying4 g2
    simp only [List.cons.injEq, and_true] at ha hs hc
    obtain ⟨rfl, rfl, rfl⟩ := hs
    subst ha hc
    refine ⟨?_, _, _, _, _, _, rfl⟩
    intro u hu
    simp only [List.mem_cons, List.not_mem_nil, or_false] at hu
    rcases hu with rfl | rfl | rfl | rfl | rfl <;> rfl

theorem open_sites {n : Nat} {v : Value} {x : DataW H × List MemPlace} (h : DataW.trod enc Tryz.prog W base (fun _ => true) held n 32 [v] = some x) : SiteRd W v := by
  rcases Go.Deep.open_slice Tryz.underlying32 h with ⟨hc, _⟩ | ⟨a, len, cap, m, n', D, Pl, hc, _, hl, _, hm, _, hel⟩
  · simp only [List.cons.injEq, and_true] at hc
    subst hc
    exact ⟨none, 0, [], rfl, fun _ => ⟨rfl, rfl⟩, Row.nil _ _ _, by simp, by simp, by simp⟩
  · simp only [List.cons.injEq, and_true] at hc
    subst hc
    simp only [if_true] at hm
    rw [cells_site] at hel
    obtain ⟨css, h1, h2, h3⟩ := row_open (Pr := fun cs => ∃ y, DataW.trod enc Tryz.prog W base (fun _ => true) held n' 66 cs = some y) (by decide) (by omega : len ≤ m) (fun i hi => let ⟨cs', c1, c2⟩ := hel i hi; ⟨cs', c1, _, c2⟩)
    subst h1
    refine ⟨some a, cap, css, rfl, by simp, h3, fun c hc => (h2 c hc).1, fun u hu => ?_, fun c hc => ?_⟩
    · obtain ⟨c, hc, huc⟩ := List.mem_flatten.1 hu
      obtain ⟨y, hy⟩ := (h2 c hc).2
      exact (open_site hy).1 u huc
    · obtain ⟨y, hy⟩ := (h2 c hc).2
      exact (open_site hy).2

set_option maxRecDepth 100000 in
theorem open_token {n : Nat} {cs : List Value} {x : DataW H × List MemPlace} (h : DataW.trod enc Tryz.prog W base (fun _ => true) held n 34 cs = some x) : ∃ t v, cs = tmC t v ∧ SiteRd W v := by
  obtain ⟨xs, m, _, _, hl, hn, hf⟩ := DataW.trod_struct Tryz.underlying34 h
  rw [cells_token] at hl
  match cs, hl with
  | [v0, v1, v2, v3, v4, v5, v6, v7], _ =>
    obtain ⟨y0, g0⟩ := field_some (hf 0 ⟨"Kind", 3, 0, false, "", "", 0⟩ rfl) hn (by decide)
    obtain ⟨y1, g1⟩ := field_some (hf 1 ⟨"Text", 9, 1, false, "", "", 8⟩ rfl) hn (by decide)
    obtain ⟨y2, g2⟩ := field_some (hf 2 ⟨"Space", 4, 2, false, "", "", 24⟩ rfl) hn (by decide)
    obtain ⟨y3, g3⟩ := field_some (hf 3 ⟨"Span", 31, 3, false, "", "", 32⟩ rfl) hn (by decide)
    obtain ⟨y4, g4⟩ := field_some (hf 4 ⟨"Made", 4, 6, false, "", "", 64⟩ rfl) hn (by decide)
    obtain ⟨y5, g5⟩ := field_some (hf 5 ⟨"Sites", 32, 7, false, "", "", 72⟩ rfl) hn (by decide)
    simp only [cells_str, cells_span, cells_bool, cells_int, cells_sites, List.drop_zero, List.drop_succ_cons, List.take_succ_cons, List.take_zero] at g0 g1 g2 g3 g4 g5
    obtain ⟨k, hk, _⟩ := DataW.trod_int Tryz.underlying3 g0
    obtain ⟨tx, htx, _⟩ := DataW.trod_string Tryz.underlying9 g1
    obtain ⟨s, hs, _⟩ := DataW.trod_bool Tryz.underlying4 g2
    obtain ⟨f, p, q, hsp⟩ := open_span g3
    obtain ⟨mk, hmk, _⟩ := DataW.trod_bool Tryz.underlying4 g4
    simp only [List.cons.injEq, and_true] at hk htx hs hsp hmk
    obtain ⟨rfl, rfl, rfl⟩ := hsp
    subst hk htx hs hmk
    exact ⟨⟨k, tx, s, f, p, q, mk⟩, v7, rfl, open_sites g5⟩

/-- the argument itself -/
theorem open_toks {n : Nat} {v : Value} {x : DataW H × List MemPlace} (h : DataW.trod enc Tryz.prog W base (fun _ => true) held n 22 [v] = some x) : ∃ (T : List (Tm × Value)) (ao : Option Addr) (cap : Nat), v = .slice ao T.length cap ∧ T.length ≤ cap ∧ Row W 8 ao (T.map tvC) ∧ ∀ p ∈ T, SiteRd W p.2 := by
  rcases Go.Deep.open_slice Tryz.underlying22 h with ⟨hc, _⟩ | ⟨a, len, cap, m, n', D, Pl, hc, _, hl, _, hm, _, hel⟩
  · simp only [List.cons.injEq, and_true] at hc
    subst hc
    exact ⟨[], none, 0, rfl, Nat.le_refl _, Row.nil _ _ _, by simp⟩
  · simp only [List.cons.injEq, and_true] at hc
    subst hc
    simp only [if_true] at hm
    rw [cells_token] at hel
    obtain ⟨css, h1, h2, h3⟩ := row_open (Pr := fun cs => ∃ t v, cs = tmC t v ∧ SiteRd W v) (by decide) (by omega : len ≤ m) (fun i hi => let ⟨cs', c1, c2⟩ := hel i hi; ⟨cs', c1, open_token c2⟩)
    have : ∀ css : List (List Value), (∀ c ∈ css, ∃ t v, c = tmC t v ∧ SiteRd W v) → ∃ T : List (Tm × Value), T.map tvC = css ∧ ∀ p ∈ T, SiteRd W p.2 := by
      intro css
      induction css with
      | nil => intro _; exact ⟨[], rfl, by simp⟩
      | cons c css ih =>
        intro hc
        obtain ⟨T, h4, h5⟩ := ih (fun c' h' => hc c' (by simp [h']))
        obtain ⟨t, v, rfl, hv⟩ := hc c (by simp)
        refine ⟨(t, v) :: T, by simp [h4, tvC], fun p hp => ?_⟩
        rcases List.mem_cons.1 hp with rfl | hp
        · exact hv
        · exact h5 p hp
    obtain ⟨T, h4, h5⟩ := this css (fun c hc => (h2 c hc).2)
    have hTl : T.length = len := by rw [← h1, ← h4, List.length_map]
    subst hTl
    exact ⟨T, some a, cap, rfl, hl, by rw [h4]; exact h3, h5⟩
end
end Go.Proofs.YtfaoamdlknlgpaaGreat
