/- Ropes: Len, Depth, leaf, node, within, made. -/
import Derived.Test.YtekbilieddficaaDoorRpSpec
import Derived.Test.YtekbilieddficaaDoorBuilder
import Derived.Deep.LoopGhost
namespace Go.Proofs.YtekbilieddficaaDoor
open Go.RowKit
set_option linter.unusedVariables false

theorem rope9 {w : World} {g : Nat} {s : ByteArray} {pa pb : Option Addr} {z h d l : Int} (e : w.heap[g]? = some (.cells (ropeC s pa pb z h d l) 122 (0, 0))) :
    w.cell? ⟨g, 0, none⟩ = some (.string s) ∧ w.cell? ⟨g, 1, none⟩ = some (.pointer pa) ∧ w.cell? ⟨g, 2, none⟩ = some (.pointer pb) ∧ w.cell? ⟨g, 3, none⟩ = some (.int .i64 z) ∧ w.cell? ⟨g, 4, none⟩ = some (.int .i64 h) ∧
    w.cell? ⟨g, 5, none⟩ = some (.int .u32 d) ∧ w.cell? ⟨g, 6, none⟩ = some (.int .i32 0) ∧ w.cell? ⟨g, 7, none⟩ = some (.int .u32 0) ∧ w.cell? ⟨g, 8, none⟩ = some (.int .i64 l) :=
  ⟨Lib.cell_of_heap e 0, Lib.cell_of_heap e 1, Lib.cell_of_heap e 2, Lib.cell_of_heap e 3, Lib.cell_of_heap e 4, Lib.cell_of_heap e 5, Lib.cell_of_heap e 6, Lib.cell_of_heap e 7, Lib.cell_of_heap e 8⟩

theorem len_any {B : Nat} {p : Option Addr} {o : Option RT} (w : World) (h : RP w B p o) : Calls Tryd.prog 63 #[.pointer p] w fun e w' => e = .returned (.int .i64 (textO o).length) ∧ w' = w := by
  cases o with
  | none =>
    obtain rfl : p = none := h
    go_enter Tryd.func63, Tryd.ntmps63
    go_wp2
    go_ret
    exact ⟨rfl, rfl⟩
  | some t =>
    obtain ⟨_, g, rfl, hr⟩ := h
    obtain ⟨s, pa, pb, d, l, _, e⟩ := hr.own
    have c3 := (rope9 e).2.2.2.1
    obtain ⟨n, hn⟩ : ∃ n, n = t.text.length := ⟨_, rfl⟩
    rw [← hn] at c3
    show Calls _ _ _ _ fun e w' => e = .returned (.int .i64 t.text.length) ∧ w' = w
    rw [← hn]
    clear hn hr e
    go_enter Tryd.func63, Tryd.ntmps63
    go_wp2
    go_ret
    exact ⟨rfl, rfl⟩

theorem depth_any {B : Nat} {p : Option Addr} {o : Option RT} (w : World) (h : RP w B p o) : Calls Tryd.prog 80 #[.pointer p] w fun e w' => e = .returned (.int .i64 (highO o)) ∧ w' = w := by
  cases o with
  | none =>
    obtain rfl : p = none := h
    go_enter Tryd.func80, Tryd.ntmps80
    go_wp2
    go_ret
    exact ⟨rfl, rfl⟩
  | some t =>
    obtain ⟨_, g, rfl, hr⟩ := h
    obtain ⟨s, pa, pb, d, l, _, e⟩ := hr.own
    have c4 := (rope9 e).2.2.2.2.1
    obtain ⟨n, hn⟩ : ∃ n, n = t.high := ⟨_, rfl⟩
    rw [← hn] at c4
    show Calls _ _ _ _ fun e w' => e = .returned (.int .i64 t.high) ∧ w' = w
    rw [← hn]
    clear hn hr e
    go_enter Tryd.func80, Tryd.ntmps80
    go_wp2
    go_ret
    exact ⟨rfl, rfl⟩

/-- a rope, or nil, of that text -/
def RPPost (B : Nat) (l : List UInt8) (e : Ending) (w' : World) : Prop := ∃ p o, e = .returned (.pointer p) ∧ RP w' B p o ∧ textO o = l
/-- a rope of that text, without empty leaves -/
def RNPost (B : Nat) (l : List UInt8) (e : Ending) (w' : World) : Prop := ∃ g t, e = .returned (.pointer (some ⟨g, 0, none⟩)) ∧ RAt w' B t g ∧ t.Nice ∧ t.text = l

theorem leaf_any (B : Nat) (s : ByteArray) (hs : s.size ≤ 1000000) (w : World) (hB : B ≤ w.heap.size) : Calls Tryd.prog 74 #[.string s] w fun e w' => RPPost B s.data.toList e w' ∧ Below w.heap.size w w' := by
  by_cases h : s.data.toList = []
  · obtain rfl : s = ⟨#[]⟩ := by cases s with | mk d => simp only [ByteArray.mk.injEq]; exact Array.toList_inj.1 h
    go_enter Tryd.func74, Tryd.ntmps74
    go_wp2
    go_ret
    exact ⟨⟨none, none, rfl, rfl, rfl⟩, Below.refl _ _⟩
  · have e1 : s.toList.isEmpty = false := by rw [Lib.toList_data]; simpa using h
    go_enter Tryd.func74, Tryd.ntmps74
    go_wp2
    go_ret
    refine ⟨⟨_, some (.leaf s.data.toList), rfl, ⟨.inl h, _, rfl, hB, 0, 0, .inl ⟨rfl, rfl⟩, ?_⟩, rfl⟩, (Below.refl _ w).alloc (Nat.le_refl _) _⟩
    rw [heap_alloc_new]
    simp only [RT.high, if_neg h, ropeC, Lib.size_eq]
    rfl

theorem node_any {B ga gb : Nat} {a b : RT} (w : World) (hB : B ≤ w.heap.size) (ha : RAt w B a ga) (hb : RAt w B b gb) (na : a.Nice) (nb : b.Nice) (hl : a.text.length + b.text.length ≤ 1000000) :
    Calls Tryd.prog 75 #[.pointer (some ⟨ga, 0, none⟩), .pointer (some ⟨gb, 0, none⟩)] w fun e w' => RNPost B (a.text ++ b.text) e w' ∧ Below w.heap.size w w' := by
  have hpa : RP w B (some ⟨ga, 0, none⟩) (some a) := ⟨.inl na, ga, rfl, ha⟩
  have hpb : RP w B (some ⟨gb, 0, none⟩) (some b) := ⟨.inl nb, gb, rfl, hb⟩
  have L1 := len_any w hpa
  have L2 := len_any w hpb
  have D1 := depth_any w hpa
  have D2 := depth_any w hpb
  simp only [textO, highO] at L1 L2 D1 D2
  obtain ⟨n1, hn1⟩ : ∃ n, n = a.text.length := ⟨_, rfl⟩
  obtain ⟨n2, hn2⟩ : ∃ n, n = b.text.length := ⟨_, rfl⟩
  obtain ⟨h1, hh1⟩ : ∃ n, n = a.high := ⟨_, rfl⟩
  obtain ⟨h2, hh2⟩ : ∃ n, n = b.high := ⟨_, rfl⟩
  have b1 := RT.high_le na
  have b2 := RT.high_le nb
  rw [← hn1] at L1 hl b1
  rw [← hn2] at L2 hl b2
  rw [← hh1] at D1 b1
  rw [← hh2] at D2 b2
  have hga := ha.lt
  have hgb := hb.lt
  replace L1 := Lib.hid L1
  replace L2 := Lib.hid L2
  replace D1 := Lib.hid D1
  replace D2 := Lib.hid D2
  replace hn1 := Lib.hid hn1
  replace hn2 := Lib.hid hn2
  replace hh1 := Lib.hid hh1
  replace hh2 := Lib.hid hh2
  clear hpa hpb
  go_enter Tryd.func75, Tryd.ntmps75
  go_wp2_with fail
  refine L1.out.mono ?_
  rintro e w' ⟨rfl, hw'⟩
  replace hw' := hw'.symm
  subst hw'
  go_wp2_with fail
  refine L2.out.mono ?_
  rintro e w' ⟨rfl, hw'⟩
  replace hw' := hw'.symm
  subst hw'
  go_wp2_with fail
  refine D1.out.mono ?_
  rintro e w' ⟨rfl, hw'⟩
  replace hw' := hw'.symm
  subst hw'
  go_wp2_with fail
  refine D2.out.mono ?_
  rintro e w' ⟨rfl, hw'⟩
  replace hw' := hw'.symm
  subst hw'
  go_wp2
  go_ret
  refine ⟨⟨_, .node a b, rfl, ⟨hB, ga, gb, 0, 0, hga, hgb, .inl ⟨rfl, rfl⟩, ?_, ha.below ((Below.refl _ w).alloc (Nat.le_refl _) _), hb.below ((Below.refl _ w).alloc (Nat.le_refl _) _)⟩, ⟨na, nb⟩, rfl⟩, (Below.refl _ w).alloc (Nat.le_refl _) _⟩
  rw [heap_alloc_new]
  have e1 : ((n1 : Int) + n2) = ((a.text ++ b.text).length : Int) := by rw [List.length_append, hn1.out, hn2.out]; omega
  have e2 : (1 + max (h1 : Int) h2) = ((RT.node a b).high : Int) := by rw [RT.high, hh1.out, hh2.out]; omega
  rw [e1, e2]
  rfl

/-- are two places a rope's, in order? -/
theorem within_any {B : Nat} {p : Option Addr} {o : Option RT} (w : World) (h : RP w B p o) (hl : (textO o).length ≤ 1000000) (f t : Int) : Calls Tryd.prog 62 #[.pointer p, .int .i64 f, .int .i64 t] w fun e w' => e = .returned (.bool (decide (0 ≤ f ∧ f ≤ t ∧ t ≤ (textO o).length))) ∧ w' = w := by
  have L := Lib.hid (len_any w h)
  obtain ⟨n, hn⟩ : ∃ n, n = (textO o).length := ⟨_, rfl⟩
  rw [← hn] at L hl ⊢
  clear hn h
  by_cases h1 : 0 ≤ f
  · by_cases h2 : f ≤ t
    · go_enter Tryd.func62, Tryd.ntmps62
      go_wp2_with fail
      refine L.out.mono ?_
      rintro e w' ⟨rfl, hw'⟩
      replace hw' := hw'.symm
      subst hw'
      go_wp2
      go_ret
      refine ⟨?_, rfl⟩
      refine congrArg (fun b => Ending.returned (Value.bool b)) ?_
      exact decide_eq_decide.2 (by omega)
    · go_enter Tryd.func62, Tryd.ntmps62
      go_wp2
      go_ret
      refine ⟨?_, rfl⟩
      refine congrArg (fun b => Ending.returned (Value.bool b)) ?_
      rw [Bool.eq_iff_iff]; simp; omega
  · go_enter Tryd.func62, Tryd.ntmps62
    go_wp2
    go_ret
    refine ⟨?_, rfl⟩
    refine congrArg (fun b => Ending.returned (Value.bool b)) ?_
    rw [Bool.eq_iff_iff]; simp; omega

/-- a rope that is told -/
def RGPost (B : Nat) (l : List UInt8) (e : Ending) (w' : World) : Prop := ∃ g t, e = .returned (.pointer (some ⟨g, 0, none⟩)) ∧ RAt w' B t g ∧ t.Good ∧ t.text = l

theorem made_any {B : Nat} {p : Option Addr} {o : Option RT} (w : World) (h : RP w B p o) (hB : B ≤ w.heap.size) : Calls Tryd.prog 53 #[.pointer p] w fun e w' => RGPost B (textO o) e w' ∧ Below w.heap.size w w' := by
  cases o with
  | none =>
    obtain rfl : p = none := h
    go_enter Tryd.func53, Tryd.ntmps53
    go_wp2
    go_ret
    refine ⟨⟨_, .leaf [], rfl, ⟨hB, 0, 0, .inl ⟨rfl, rfl⟩, ?_⟩, .inr rfl, rfl⟩, (Below.refl _ w).alloc (Nat.le_refl _) _⟩
    rw [heap_alloc_new]
    rfl
  | some t =>
    obtain ⟨hg, g, rfl, hr⟩ := h
    go_enter Tryd.func53, Tryd.ntmps53
    go_wp2
    go_ret
    exact ⟨⟨g, t, rfl, hr, hg, rfl⟩, Below.refl _ _⟩
end Go.Proofs.YtekbilieddficaaDoor
