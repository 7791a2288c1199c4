/- Ropes: walk, Text. -/
import Derived.Test.YtekbilieddficaaDoorRp1
namespace Go.Proofs.YtekbilieddficaaDoor
open Go.RowKit
set_option linter.unusedVariables false

/-- what a builder's methods leave, leaves ropes -/
theorem RAt.kb {w w' : World} {B Bb b : Nat} {l : List UInt8} : ∀ {t : RT} {g : Nat}, RAt w B t g → Bld w Bb b l → Kb Bb b w w' → RAt w' B t g := by
  intro t g h hb hk
  have key : ∀ (k : Nat) (c : Array Value), w.heap[k]? = some (.cells c 122 (0, 0)) → w'.heap[k]? = some (.cells c 122 (0, 0)) := by
    intro k c hc
    refine hk.others k _ hc ?_ ?_
    · intro e
      injection e with e
      subst e
      rcases hb with ⟨_, v, hbk, _⟩ | ⟨_, v, hbk, _⟩
      all_goals
        rw [hbk] at hc
        simp only [Option.some.injEq, Obj.cells.injEq] at hc
        exact absurd hc.2.1 (by decide)
    · intro c' fz e
      injection e with _ e
      exact absurd e (by decide)
  induction t generalizing g with
  | leaf s =>
    obtain ⟨h1, d, ll, hm, e⟩ := h
    exact ⟨h1, d, ll, hm, key _ _ e⟩
  | node a b iha ihb =>
    obtain ⟨h1, ga, gb, d, ll, hga, hgb, hm, e, ha, hb'⟩ := h
    exact ⟨h1, ga, gb, d, ll, hga, hgb, hm, key _ _ e, iha ha, ihb hb'⟩

set_option maxRecDepth 100000 in
theorem text1_any {Bb b : Nat} {l : List UInt8} (s : ByteArray) (w : World) (hb : Bld w Bb b l) (hl : l.length ≤ 1000000000) (hs : s.size ≤ 1000000000) (hB : Bb ≤ w.heap.size) :
    Calls Tryd.prog 41 #[.string s, .pointer (some ⟨b, 0, none⟩)] w fun e w' => e = .returned (.tuple #[]) ∧ Bld w' Bb b (l ++ s.data.toList) ∧ Kb Bb b w w' := by
  have H := Lib.hid (bld_str hb hl s hs hB)
  go_enter Tryd.func41, Tryd.ntmps41
  go_wp2_with fail
  refine H.out.mono ?_
  rintro e w1 ⟨rfl, h1, h2⟩
  go_wp2
  go_end0
  exact ⟨rfl, h1, h2⟩

set_option maxRecDepth 100000 in
theorem walk_any {B Bb b : Nat} : ∀ (t : RT) (g : Nat) (l : List UInt8) (w : World), t.Good → RAt w B t g → Bld w Bb b l → l.length + t.text.length ≤ 1000000 → Bb ≤ w.heap.size →
    Calls Tryd.prog 40 #[.pointer (some ⟨g, 0, none⟩), .func (.func 41) #[] #[.pointer (some ⟨b, 0, none⟩)]] w fun e w' => e = .returned (.tuple #[]) ∧ Bld w' Bb b (l ++ t.text) ∧ Kb Bb b w w' := by
  intro t
  induction t with
  | leaf s =>
    intro g l w hg hr hb hl hB
    have hL := len_any w (B := B) (p := some ⟨g, 0, none⟩) (o := some (.leaf s)) ⟨hg, g, rfl, hr⟩
    obtain ⟨_, d, ll, _, e⟩ := hr
    obtain ⟨c0, c1, _⟩ := rope9 e
    simp only [textO, RT.text] at hL hl ⊢
    by_cases hs : s = []
    · subst hs
      replace hL := Lib.hid hL
      clear hg e
      go_enter Tryd.func40, Tryd.ntmps40
      go_wp2_with fail
      refine hL.out.mono ?_
      rintro e w' ⟨rfl, hw'⟩
      replace hw' := hw'.symm
      subst hw'
      go_wp2
      refine bodyPost_ret (results_none rfl _ _ _) rfl ?_
      exact ⟨rfl, by simpa using hb, Kb.refl _ _ _⟩
    · have hpos := List.length_pos_iff.2 hs
      obtain ⟨n, hn⟩ : ∃ n, n = s.length := ⟨_, rfl⟩
      rw [← hn] at hL hl hpos
      have hn0 : ((n : Int) == 0) = false := by simp; omega
      have hsz : (⟨s.toArray⟩ : ByteArray).size = n := by rw [Lib.size_eq]; simp [hn]
      have HT := Lib.hid (text1_any ⟨s.toArray⟩ w hb (by omega) (by omega) hB)
      obtain ⟨sb, hsb⟩ : ∃ sb : ByteArray, sb = ⟨s.toArray⟩ := ⟨_, rfl⟩
      rw [← hsb] at HT c0
      have hst : Hid (sb.data.toList = s) := Lib.hid (by rw [hsb])
      replace hL := Lib.hid hL
      replace hn := Lib.hid hn
      replace hsb := Lib.hid hsb
      replace hsz := Lib.hid hsz
      replace hb := Lib.hid hb
      clear hg e
      go_enter Tryd.func40, Tryd.ntmps40
      go_wp2_with fail
      refine hL.out.mono ?_
      rintro e w' ⟨rfl, hw'⟩
      replace hw' := hw'.symm
      subst hw'
      go_wp2_with fail
      refine HT.out.mono ?_
      rintro e w1 ⟨rfl, h1, h2⟩
      go_wp2
      refine bodyPost_ret (results_none rfl _ _ _) rfl ?_
      exact ⟨rfl, by rw [← hst.out]; exact h1, h2⟩
  | node a b' iha ihb =>
    intro g l w hg hr hb hl hB
    have hnice : (RT.node a b').Nice := by rcases hg with h | h; exact h; cases h
    have hL := len_any w (B := B) (p := some ⟨g, 0, none⟩) (o := some (.node a b')) ⟨hg, g, rfl, hr⟩
    have hpos := RT.nice_pos hnice
    obtain ⟨_, ga, gb, d, ll, hga, hgb, _, e, ha, hb'⟩ := hr
    obtain ⟨c0, c1, c2, _⟩ := rope9 e
    simp only [textO] at hL
    obtain ⟨n, hn⟩ : ∃ n, n = (RT.node a b').text.length := ⟨_, rfl⟩
    rw [← hn] at hL hl hpos
    have hn2 : n = a.text.length + b'.text.length := by rw [hn]; simp [RT.text]
    have hn0 : ((n : Int) == 0) = false := by simp; omega
    have HA := Lib.hid (iha ga l w (.inl hnice.1) ha hb (by omega) hB)
    have HB := fun w1 h1 h2 h3 => ihb gb (l ++ a.text) w1 (.inl hnice.2) h1 h2 (by rw [List.length_append]; omega) h3
    replace HB := Lib.hid HB
    have hge : ∀ w1, Kb Bb b w w1 → RAt w1 B b' gb := fun w1 hk => hb'.kb hb hk
    replace hL := Lib.hid hL
    replace hn := Lib.hid hn
    replace hn2 := Lib.hid hn2
    replace e := Lib.hid e
    replace hge := Lib.hid hge
    have hbl := Lib.hid hb
    clear hg iha ihb hb
    have hcell : Hid (∀ w1, Kb Bb b w w1 → w1.cell? ⟨g, 2, none⟩ = some (.pointer (some ⟨gb, 0, none⟩))) := Lib.hid (by
      intro w1 hk
      refine hk.cell c2 ?_ ?_
      · intro e1
        simp only at e1
        subst e1
        rcases hbl.out with ⟨_, v, hbk, _⟩ | ⟨_, v, hbk, _⟩
        all_goals
          rw [hbk] at e
          have := e.out
          simp only [Option.some.injEq, Obj.cells.injEq] at this
          exact absurd this.2.1 (by decide)
      · intro c fz e1
        rw [e.out] at e1
        simp only [Option.some.injEq, Obj.cells.injEq] at e1
        exact absurd e1.2.1 (by decide))
    go_enter Tryd.func40, Tryd.ntmps40
    go_wp2_with fail
    refine hL.out.mono ?_
    rintro e w' ⟨rfl, hw'⟩
    replace hw' := hw'.symm
    subst hw'
    go_wp2_with fail
    refine HA.out.mono ?_
    rintro e w1 ⟨rfl, h1, h2⟩
    have d2 := hcell.out w1 h2
    have H2 := Lib.hid (HB.out w1 (hge.out w1 h2) h1 (Nat.le_trans hB h2.below.size))
    go_wp2_with fail
    refine H2.out.mono ?_
    rintro e w2 ⟨rfl, h3, h4⟩
    go_wp2
    go_end0
    exact ⟨rfl, by rw [RT.text, ← List.append_assoc]; exact h3, h2.trans h4⟩

set_option maxRecDepth 100000 in
theorem text_any {B : Nat} {p : Option Addr} {o : Option RT} (w : World) (h : RP w B p o) (hl : (textO o).length ≤ 1000000) :
    Calls Tryd.prog 20 #[.pointer p] w fun e w' => e = .returned (.string ⟨(textO o).toArray⟩) ∧ Below w.heap.size w w' := by
  cases o with
  | none =>
    obtain rfl : p = none := h
    have hL := len_any (w.alloc (.cells #[.pointer none, .slice none 0 0] 79)) (B := B) (p := none) (o := none) rfl
    have HD := Lib.hid (bld_done (bld_new w) (by simp))
    have HW : Calls Tryd.prog 40 #[.pointer none, .func (.func 41) #[] #[.pointer (some ⟨w.heap.size, 0, none⟩)]] (w.alloc (.cells #[.pointer none, .slice none 0 0] 79)) fun e w' => e = .returned (.tuple #[]) ∧ w' = w.alloc (.cells #[.pointer none, .slice none 0 0] 79) := by
      simp only [textO, List.length_nil] at hL
      replace hL := Lib.hid hL
      clear HD
      go_enter Tryd.func40, Tryd.ntmps40
      go_wp2_with fail
      refine hL.out.mono ?_
      rintro e w' ⟨rfl, hw'⟩
      replace hw' := hw'.symm
      subst hw'
      go_wp2
      refine bodyPost_ret (results_none rfl _ _ _) rfl ?_
      exact ⟨rfl, rfl⟩
    replace HW := Lib.hid HW
    clear hL
    go_enter Tryd.func20, Tryd.ntmps20
    go_wp2_with fail
    refine HW.out.mono ?_
    rintro e w1 ⟨rfl, rfl⟩
    go_wp2_with fail
    refine HD.out.mono ?_
    rintro e w2 ⟨rfl, h1, h2⟩
    go_wp2
    go_ret
    exact ⟨rfl, ((Below.refl _ w).alloc (Nat.le_refl _) _).trans h2.below⟩
  | some t =>
    obtain ⟨hg, g, rfl, hr⟩ := h
    simp only [textO] at hl ⊢
    have HW := walk_any (Bb := w.heap.size) (b := w.heap.size) t g [] (w.alloc (.cells #[.pointer none, .slice none 0 0] 79)) hg (hr.below ((Below.refl _ w).alloc (Nat.le_refl _) _)) (bld_new w) (by simpa using hl) (by simp)
    rw [List.nil_append] at HW
    have HD := fun w1 (h : Bld w1 w.heap.size w.heap.size t.text) (hs : w.heap.size ≤ w1.heap.size) => bld_done h hs
    obtain ⟨L, hL⟩ : ∃ L, L = t.text := ⟨_, rfl⟩
    rw [← hL] at HW HD ⊢
    replace HW := Lib.hid HW
    replace HD := Lib.hid HD
    clear hL hr hg hl
    go_enter Tryd.func20, Tryd.ntmps20
    go_wp2_with fail
    refine HW.out.mono ?_
    rintro e w1 ⟨rfl, h1, h2⟩
    have hb1 := ((Below.refl _ w).alloc (Nat.le_refl _) _).trans h2.below
    have H3 := Lib.hid (HD.out w1 h1 hb1.size)
    go_wp2_with fail
    refine H3.out.mono ?_
    rintro e w2 ⟨rfl, h3, h4⟩
    go_wp2
    go_ret
    exact ⟨rfl, hb1.trans h4.below⟩
end Go.Proofs.YtekbilieddficaaDoor
