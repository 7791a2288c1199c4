/- MeterCounts: the law's state in memory. -/
import Derived.Test.YtcfadekcdcphnaaMeSpec
import Derived.Test.YtcfadekcdcphnaaAlike
namespace Go.Proofs.Ytcfadekcdcphnaa
open Go.RowKit
set_option linter.unusedVariables false

def namesC (L : List (ByteArray × Int)) : List (List Value) := L.map fun p => [.string p.1]
def sumsC (L : List (ByteArray × Int)) : List (List Value) := L.map fun p => [.int .i64 p.2]
theorem namesC_len (L : List (ByteArray × Int)) : (namesC L).length = L.length := by simp [namesC]
theorem sumsC_len (L : List (ByteArray × Int)) : (sumsC L).length = L.length := by simp [sumsC]

theorem flatten_set1 {css : List (List Value)} (h : ∀ c ∈ css, c.length = 1) : ∀ (k : Nat) (u : Value), (css.set k [u]).flatten = css.flatten.set k u := by
  induction css with
  | nil => intro k u; simp
  | cons c r ih =>
    intro k u
    obtain ⟨x, rfl⟩ : ∃ x, c = [x] := List.length_eq_one_iff.1 (h c (by simp))
    cases k with
    | zero => simp
    | succ k =>
      simp only [List.set_cons_succ, List.flatten_cons, List.singleton_append]
      rw [ih (fun c hc => h c (by simp [hc]))]

/-- an element of an owned slice of one-celled elements -/
theorem own_at {w : World} {B e : Nat} {v : Value} {css : List (List Value)} {k : Nat} {u : Value} (h : Own w B e 1 v css) (hk : css[k]? = some [u]) :
    ∃ gb cap cur, v = .slice (some ⟨gb, 0, none⟩) css.length cap ∧ w.heap[gb]? = some (.cells cur e (0, 0)) ∧ w.cell? ⟨gb, k, none⟩ = some u ∧ w.frozen? ⟨gb, k, none⟩ = false ∧ css.length ≤ cap ∧ cap ≤ maxLen ∧ B ≤ gb := by
  have hkl := (List.getElem?_eq_some_iff.1 hk).1
  rcases h.1.2 with ⟨hv, h0⟩ | ⟨g, cap, cur, hv, hb, hg, hn, hm, hs, ht⟩
  · omega
  · refine ⟨g, cap, cur, hv, hg, ?_, Lib.frozen_of_heap hg k, hn, hm, hb⟩
    have := h.1.cells (g := g) (by rw [hv]; rfl) (k * 1 + 0) u (flatten_at h.2 hk rfl)
    rw [Addr.add_lit] at this
    simpa using this

/-- a store into an owned slice of one-celled elements -/
theorem own_store {w : World} {B e gb n cap k : Nat} {css : List (List Value)} {u : Value} (h : Own w B e 1 (.slice (some ⟨gb, 0, none⟩) n cap) css) (hk : k < css.length) : Own (w.setCell ⟨gb, k, none⟩ u) B e 1 (.slice (some ⟨gb, 0, none⟩) n cap) (css.set k [u]) := by
  rcases h.1.2 with ⟨hv, h0⟩ | ⟨g, cap', cur, hv, hb, hg, hn, hm, hs, ht⟩
  · cases hv
  · simp only [Value.slice.injEq, Option.some.injEq, Addr.mk.injEq, and_true] at hv
    obtain ⟨rfl, rfl, rfl⟩ := hv
    refine ⟨⟨?_, .inr ⟨gb, cap, cur.setIfInBounds k u, by rw [List.length_set], hb, heap_set hg, by rw [List.length_set]; exact hn, hm, by simpa using hs, ?_⟩⟩, ?_⟩
    · rw [flatten_set1 h.2, List.length_set, List.length_set]
      exact h.1.1
    · rw [flatten_set1 h.2, ← ht, List.length_set, Array.toList_setIfInBounds, List.take_set]
    · intro c hc
      rcases List.mem_or_eq_of_mem_set hc with hc | rfl
      · exact h.2 c hc
      · rfl

theorem others_store {w : World} {gb k : Nat} {cur : Array Value} {e : TypeId} {fz : Nat × Nat} {u : Value} (h : w.heap[gb]? = some (.cells cur e fz)) : Lib.OthersKept e none w (w.setCell ⟨gb, k, none⟩ u) := by
  intro b o hb _ hne
  rw [Below.heap_setCell _ _ _ _ ?_]
  · exact hb
  · rintro rfl
    rw [h] at hb
    cases hb
    exact hne _ _ rfl

theorem MeterAt.others {w w' : World} {g : Nat} {p : Option Addr} {L : List (ByteArray × Int)} {e : TypeId} (h : MeterAt w g p L) (he1 : e ≠ 64) (he2 : e ≠ 66) (hk : Lib.OthersKept e none w w') : MeterAt w' g p L := by
  have kc : ∀ {b : Nat} {c : Array Value} {t : TypeId} {fz : Nat × Nat}, w.heap[b]? = some (.cells c t fz) → e ≠ t → w'.heap[b]? = some (.cells c t fz) := fun {b c t fz} e0 hne => hk b _ e0 (by simp) (by intro c' fz' h'; simp only [Obj.cells.injEq] at h'; exact hne h'.2.1.symm)
  refine ⟨kc h.own he1, ?_⟩
  rcases h.has with h1 | ⟨nb, mb, rfl, h2, h3⟩
  · exact .inl h1
  · obtain ⟨es, clock, hb, hM⟩ := h3.map
    exact .inr ⟨nb, mb, rfl, kc h2 he2, ⟨es, clock, hk _ _ hb (by simp) (by intro c' fz' h'; cases h'), hM⟩, h3.nd, h3.ok⟩

theorem MeterAt.below {w w' : World} {g : Nat} {p : Option Addr} {L : List (ByteArray × Int)} (h : MeterAt w g p L) (hb : Below w.heap.size w w') : MeterAt w' g p L := by
  refine ⟨(hb.block _ (lt_of_block h.own)).trans h.own, ?_⟩
  rcases h.has with h1 | ⟨nb, mb, rfl, h2, h3⟩
  · exact .inl h1
  · obtain ⟨es, clock, hb', hM⟩ := h3.map
    exact .inr ⟨nb, mb, rfl, (hb.block _ (lt_of_block h2)).trans h2, ⟨es, clock, (hb.block _ (lt_of_block hb')).trans hb', hM⟩, h3.nd, h3.ok⟩

theorem MeterAt.keys {w : World} {g : Nat} {p : Option Addr} {L : List (ByteArray × Int)} (h : MeterAt w g p L) : (L.map (·.1)).Nodup := by
  rcases h.has with ⟨_, rfl⟩ | ⟨nb, mb, rfl, h2, h3⟩
  · simp
  · exact h3.nd

theorem onlyG_grown {g : Nat} {w w' : World} (h : OnlyG g w w') : w.grownBy w' (some g) := by
  have hb := h.below 0 (Nat.zero_le _)
  exact ⟨hb.os, hb.tape, hb.output, h.size, fun i hi hr => h.kept i (fun e => hr (by rw [e])) hi⟩

theorem own_onlyG {w w' : World} {B e sz g : Nat} {v : Value} {css : List (List Value)} {c : Array Value} {fz : Nat × Nat} (h : Own w B e sz v css) (he : e ≠ 64) (hg : w.heap[g]? = some (.cells c 64 fz)) (ho : OnlyG g w w') : Own w' B e sz v css := by
  refine h.kept (onlyG_grown ho) ?_
  cases hv : v.ownBlock with
  | none => exact .inl rfl
  | some b =>
    refine .inr ?_
    intro e1
    simp only [Option.some.injEq] at e1
    subst e1
    obtain ⟨c', fz', h1⟩ := h.size_lt b hv
    rw [hg] at h1
    simp only [Option.some.injEq, Obj.cells.injEq] at h1
    exact he h1.2.1.symm

/-- the law's state -/
structure MeSt (w0 w : World) (g : Nat) (L M : List (ByteArray × Int)) (vl vs : Value) : Prop where
  meter : ∃ p, MeterAt w g p M
  ownl : Own w w0.heap.size 9 1 vl (namesC L)
  owns : Own w w0.heap.size 3 1 vs (sumsC L)
  below : Below w0.heap.size w0 w
  low : w0.heap.size ≤ g

theorem MeSt.start (w : World) : MeSt w (w.alloc (.cells #[.pointer none] 64)) w.heap.size [] [] (.slice none 0 0) (.slice none 0 0) :=
  ⟨⟨none, heap_alloc_new w _, .inl ⟨rfl, rfl⟩⟩, Own.nil _ _ _ _, Own.nil _ _ _ _, (Below.refl _ w).alloc (Nat.le_refl _) _, Nat.le_refl _⟩

theorem MeSt.glt {w0 w : World} {g : Nat} {L M : List (ByteArray × Int)} {vl vs : Value} (h : MeSt w0 w g L M vl vs) : g < w.heap.size := by
  obtain ⟨p, hp⟩ := h.meter
  exact lt_of_block hp.own

theorem MeSt.moved {w0 w w' : World} {g : Nat} {L M : List (ByteArray × Int)} {vl vs : Value} (h : MeSt w0 w g L M vl vs) (hb : Below w.heap.size w w') : MeSt w0 w' g L M vl vs := by
  obtain ⟨p, hp⟩ := h.meter
  exact ⟨⟨p, hp.below hb⟩, h.ownl.below hb, h.owns.below hb, h.below.trans (hb.mono h.below.size), h.low⟩

theorem MeSt.only {w0 w w' : World} {g : Nat} {L M M' : List (ByteArray × Int)} {vl vs : Value} (h : MeSt w0 w g L M vl vs) (ho : OnlyG g w w') (hm : ∃ p, MeterAt w' g p M') : MeSt w0 w' g L M' vl vs := by
  obtain ⟨p, hp⟩ := h.meter
  exact ⟨hm, own_onlyG h.ownl (by decide) hp.own ho, own_onlyG h.owns (by decide) hp.own ho, h.below.trans (ho.below _ h.low), h.low⟩

/-- a store into the sums -/
theorem MeSt.store {w0 w : World} {g gb n cap k : Nat} {L L' M : List (ByteArray × Int)} {vl : Value} {x : Int} (h : MeSt w0 w g L M vl (.slice (some ⟨gb, 0, none⟩) n cap)) (hk : k < L.length) (hn : namesC L' = namesC L) (hs : sumsC L' = (sumsC L).set k [.int .i64 x]) :
    MeSt w0 (w.setCell ⟨gb, k, none⟩ (.int .i64 x)) g L' M vl (.slice (some ⟨gb, 0, none⟩) n cap) := by
  obtain ⟨p, hp⟩ := h.meter
  obtain ⟨cur, fz, hgb⟩ := h.owns.size_lt gb rfl
  have ho := others_store (k := k) (u := .int .i64 x) hgb
  refine ⟨⟨p, hp.others (by decide) (by decide) ho⟩, ?_, ?_, ?_, h.low⟩
  · rw [hn]
    exact own_kt0 h.ownl (by decide) ho
  · rw [hs]
    exact own_store h.owns (by rw [sumsC_len]; exact hk)
  · exact h.below.trans ((Below.refl _ w).setCell (h.owns.ge gb rfl) _)

/-- names and sums behind an insertion -/
theorem MeSt.names {w0 w w' : World} {g : Nat} {L M : List (ByteArray × Int)} {vl vs vl' : Value} {css : List (List Value)} (h : MeSt w0 w g L M vl vs) (hk : Lib.OthersKept 9 none w w') (hb : Below w0.heap.size w w') :
    (∃ p, MeterAt w' g p M) ∧ Own w' w0.heap.size 3 1 vs (sumsC L) ∧ Below w0.heap.size w0 w' := by
  obtain ⟨p, hp⟩ := h.meter
  exact ⟨⟨p, hp.others (by decide) (by decide) hk⟩, own_kt0 h.owns (by decide) hk, h.below.trans hb⟩
end Go.Proofs.Ytcfadekcdcphnaa
