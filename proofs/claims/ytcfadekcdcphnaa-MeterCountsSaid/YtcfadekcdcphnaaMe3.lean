/- MeterCounts: beginning anew. -/
import Derived.Test.YtcfadekcdcphnaaMe2
namespace Go.Proofs.Ytcfadekcdcphnaa
open Go.RowKit
set_option linter.unusedVariables false

theorem own_at' {w : World} {B e n lc : Nat} {lo : Option Addr} {css : List (List Value)} {k : Nat} {u : Value} (h : Own w B e 1 (.slice lo n lc) css) (hk : css[k]? = some [u]) :
    ∃ gb, lo = some ⟨gb, 0, none⟩ ∧ w.cell? ⟨gb, k, none⟩ = some u ∧ w.frozen? ⟨gb, k, none⟩ = false ∧ B ≤ gb := by
  obtain ⟨gb, cap, cur, h1, _, h2, h3, _, _, h4⟩ := own_at h hk
  simp only [Value.slice.injEq] at h1
  exact ⟨gb, h1.1, h2, h3, h4⟩

theorem namesC_at {L : List (ByteArray × Int)} {k : Nat} {s : ByteArray} {x : Int} (h : L[k]? = some (s, x)) : (namesC L)[k]? = some [.string s] := by unfold namesC; rw [List.getElem?_map, h]; rfl
theorem sumsC_at {L : List (ByteArray × Int)} {k : Nat} {s : ByteArray} {x : Int} (h : L[k]? = some (s, x)) : (sumsC L)[k]? = some [.int .i64 x] := by unfold sumsC; rw [List.getElem?_map, h]; rfl

/-- an append to a row of names that is not the law's -/
theorem MeSt.appended {w0 w w' : World} {g n lc B2 : Nat} {lo : Option Addr} {L M : List (ByteArray × Int)} {vs vw : Value} {css : List (List Value)} (h : MeSt w0 w g L M (.slice lo n lc) vs) (hw : Own w B2 9 1 vw css) (hlo : ∀ a, lo = some a → a.block < B2) (hB : w0.heap.size ≤ B2) (hg : w.grownBy w' vw.ownBlock) :
    MeSt w0 w' g L M (.slice lo n lc) vs := by
  have ho := others_app hw hg
  obtain ⟨p, hp⟩ := h.meter
  refine ⟨⟨p, hp.others (by decide) (by decide) ho⟩, h.ownl.kept hg ?_, own_kt0 h.owns (by decide) ho, h.below.grown hg h.below.size (fun k hk => by have := hw.ge k hk; omega), h.low⟩
  cases lo with
  | none => exact .inl rfl
  | some a =>
    refine .inr ?_
    intro e
    have h1 := hw.ge a.block e.symm
    have h2 := hlo a rfl
    omega

def zeroTo (k : Nat) (L : List (ByteArray × Int)) : List (ByteArray × Int) := zeroed (L.take k) ++ L.drop k

theorem zeroTo_zero (L : List (ByteArray × Int)) : zeroTo 0 L = L := by simp [zeroTo, zeroed]
theorem zeroTo_all (L : List (ByteArray × Int)) {k : Nat} (h : L.length ≤ k) : zeroTo k L = zeroed L := by simp [zeroTo, List.take_of_length_le h, List.drop_eq_nil_of_le h]
theorem zeroTo_len (k : Nat) (L : List (ByteArray × Int)) : (zeroTo k L).length = L.length := by
  unfold zeroTo zeroed
  rw [List.length_append, List.length_map, ← List.length_append, List.take_append_drop]
theorem zeroTo_at {k : Nat} {L : List (ByteArray × Int)} {q : ByteArray × Int} (h : L[k]? = some q) : (zeroTo k L)[k]? = some q := by
  have hk := (List.getElem?_eq_some_iff.1 h).1
  have hl : (zeroed (L.take k)).length = k := by simp [zeroed]; omega
  unfold zeroTo
  rw [List.getElem?_append_right (by omega), hl, Nat.sub_self, List.getElem?_drop]
  exact h
theorem zeroTo_names (k : Nat) (L : List (ByteArray × Int)) : namesC (zeroTo k L) = namesC L := by
  unfold namesC zeroTo zeroed
  rw [List.map_append, List.map_map]
  show ((L.take k).map fun p => [Value.string p.1]) ++ _ = _
  rw [← List.map_append, List.take_append_drop]
theorem zeroTo_sums {k : Nat} {L : List (ByteArray × Int)} (hk : k < L.length) : sumsC (zeroTo (k + 1) L) = (sumsC (zeroTo k L)).set k [.int .i64 0] := by
  apply List.ext_getElem?
  intro j
  have hlk : (zeroed (L.take k)).length = k := by simp [zeroed]; omega
  have hlk1 : (zeroed (L.take (k + 1))).length = k + 1 := by simp [zeroed]; omega
  unfold sumsC
  rw [List.getElem?_set, List.getElem?_map, List.getElem?_map, List.length_map, zeroTo_len]
  by_cases hj : k = j
  · subst hj
    rw [if_pos rfl, if_pos hk]
    unfold zeroTo
    rw [List.getElem?_append_left (by omega)]
    unfold zeroed
    rw [List.getElem?_map, List.getElem?_take_of_lt (by omega), List.getElem?_eq_getElem hk]
    rfl
  · rw [if_neg hj]
    unfold zeroTo
    by_cases hlt : j < k
    · rw [List.getElem?_append_left (by omega), List.getElem?_append_left (by omega)]
      unfold zeroed
      rw [List.getElem?_map, List.getElem?_map, List.getElem?_take_of_lt (by omega), List.getElem?_take_of_lt (by omega)]
    · rw [List.getElem?_append_right (by omega), List.getElem?_append_right (by omega), hlk, hlk1, List.getElem?_drop, List.getElem?_drop]
      congr 2
      omega

theorem wantL_succ {L : List (ByteArray × Int)} {k : Nat} {s : ByteArray} {x : Int} (h : L[k]? = some (s, x)) : wantL (L.take (k + 1)) = if 0 < x then wantL (L.take k) ++ [s] else wantL (L.take k) := by
  unfold wantL
  rw [List.take_add_one, h, List.filter_append, List.map_append]
  by_cases hx : 0 < x
  · rw [if_pos hx]
    simp [hx]
  · rw [if_neg hx]
    simp [hx]

def strsC (A : List ByteArray) : List (List Value) := A.map fun s => [.string s]
theorem strsC_len (A : List ByteArray) : (strsC A).length = A.length := by simp [strsC]

theorem keys_strs {L M : List (ByteArray × Int)} (hI : MInv L M) (hnd : (M.map (·.1)).Nodup) : ((keysB M).map fun s => [Value.string ⟨s.toArray⟩]) = strsC (wantL L) := by
  rw [keys_want hI hnd, List.map_map]
  unfold strsC
  refine List.map_congr_left fun s _ => ?_
  simp

theorem minv_len {L M : List (ByteArray × Int)} (hI : MInv L M) (hnd : (M.map (·.1)).Nodup) : M.length ≤ L.length := by
  have h := congrArg List.length (keys_want hI hnd)
  unfold keysB sortedB at h
  rw [List.length_mergeSort, List.length_map, List.length_map] at h
  have h1 : (wantL L).length ≤ L.length := by unfold wantL; rw [List.length_map]; exact List.length_filter_le _ _
  omega

theorem reset_st {w0 w : World} {g : Nat} {L L0 M : List (ByteArray × Int)} {vl vs : Value} (h : MeSt w0 w g L0 M vl vs) (hI : MInv L M) (hl : L.length ≤ 1000000) :
    Calls Try.prog 15 #[.pointer (some ⟨g, 0, none⟩)] w fun e w' => (∃ v, e = .returned v ∧ Own w' w.heap.size 9 1 v (strsC (wantL L))) ∧ MeSt w0 w' g L0 [] vl vs ∧ ∀ B u css, Own w B 9 1 u css → Own w' B 9 1 u css := by
  obtain ⟨p, hp⟩ := h.meter
  refine (reset_any w hp (Nat.le_trans (minv_len hI hp.keys) hl)).mono ?_
  rintro e w' ⟨⟨v, rfl, hv⟩, hm, ho⟩
  rw [keys_strs hI hp.keys] at hv
  exact ⟨⟨v, rfl, hv⟩, h.only ho ⟨none, hm⟩, fun B u css hu => own_onlyG hu (by decide) hp.own ho⟩

/-- Add, at the law's state -/
theorem add_st {w0 w : World} {g : Nat} {L M : List (ByteArray × Int)} {vl vs : Value} (h : MeSt w0 w g L M vl vs) (s : ByteArray) (hs : s.size ≤ 1000) (z : Int) (hz : -9223372036854775808 ≤ z ∧ z ≤ 9223372036854775807) :
    Calls Try.prog 16 #[.pointer (some ⟨g, 0, none⟩), .string s, .int .i64 z] w fun e w' => e = .returned (.tuple #[]) ∧ ∃ M', ((z ≤ 0 ∧ M' = M) ∨ (0 < z ∧ M' = putI M s (sumOf M s z))) ∧ MeSt w0 w' g L M' vl vs := by
  by_cases h0 : z ≤ 0
  · refine (add_less g s z h0 w).mono ?_
    rintro e w' ⟨rfl, rfl⟩
    exact ⟨rfl, M, .inl ⟨h0, rfl⟩, h⟩
  · obtain ⟨p, hp⟩ := h.meter
    refine (add_any w hp s (by unfold maxLen; omega) z (by omega) hz.2).mono ?_
    rintro e w' ⟨rfl, hm, ho⟩
    exact ⟨rfl, _, .inr ⟨by omega, rfl⟩, h.only ho hm⟩

theorem read_st {w0 w : World} {g : Nat} {L M : List (ByteArray × Int)} {vl vs : Value} (h : MeSt w0 w g L M vl vs) (hI : MInv L M) {s : ByteArray} {x : Int} (hs : s.size ≤ 1000) (hm : (s, x) ∈ L) :
    Calls Try.prog 17 #[.pointer (some ⟨g, 0, none⟩), .string s] w fun e w' => e = .returned (.int .i64 x) ∧ w' = w := by
  obtain ⟨p, hp⟩ := h.meter
  have hr := read_any w hp s (by unfold maxLen; omega)
  rw [hI.same s, numOf_mem hI.rise.nd hm] at hr
  exact hr
end Go.Proofs.Ytcfadekcdcphnaa
