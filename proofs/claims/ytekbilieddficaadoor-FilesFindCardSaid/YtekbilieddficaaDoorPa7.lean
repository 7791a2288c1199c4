/- Paths: strings.SplitSeq: its iterator. -/
import Derived.Test.YtekbilieddficaaDoorPa6
import Derived.Test.YtekbilieddficaaDoorPaRange
import Derived.Shelf.Abstract
import Derived.Shelf.RegionOpen
import Derived.WalkKit
import Derived.OwnWalkIn
import Derived.TacticsInMore
import Derived.LoopNIn
import Derived.LoopIn
import Derived.Sort.LoopGhostIn
namespace Go.Proofs.YtekbilieddficaaDoor
open Go.RowKit Go.Shelf
set_option linter.unusedVariables false
attribute [local go_sem] Oper.semAt_some

/-- the wide fence asks for no depth -/
theorem round_any {m m' : Nat} {P : Program} {l : Nat} {f : FuncId} {tmps : Array Value} {assign body : Code} {w : World} {R : Ending → World → Prop}
    (h : RoundIn Fence.wide m P l f tmps assign body w R) : RoundIn Fence.wide m' P l f tmps assign body w R := ⟨h.1, fun c cs _ => h.2 c cs (room_wide _)⟩

theorem idx_cases (l : List UInt8) : (Lib.indexByte l 47 = -1 ∧ partsL l = [l]) ∨ ∃ k : Nat, Lib.indexByte l 47 = k ∧ k < l.length ∧ partsL l = l.take k :: partsL (l.drop (k + 1)) := by
  induction l with
  | nil => exact .inl ⟨rfl, rfl⟩
  | cons b l ih =>
    by_cases hb : b = 47
    · subst hb
      exact .inr ⟨0, by simp [Lib.indexByte], by simp, by simp [partsL]⟩
    · rcases ih with ⟨h1, h2⟩ | ⟨k, h1, h2, h3⟩
      · exact .inl ⟨by simp [Lib.indexByte, hb, h1], by simp only [partsL, if_neg hb, h2]⟩
      · refine .inr ⟨k + 1, ?_, by simp; omega, ?_⟩
        · have : ¬ (k : Int) = -1 := by omega
          simp [Lib.indexByte, hb, h1, this]
        · simp only [partsL, if_neg hb, h3]
          rfl

/-- a list of texts -/
def bsl (l : List (List UInt8)) : List ByteArray := l.map fun x => ⟨x.toArray⟩
theorem txs_bsl (l : List (List UInt8)) : txs (bsl l) = l := by
  unfold txs bsl
  rw [List.map_map]
  exact (List.map_congr_left (g := id) fun _ _ => rfl).trans (List.map_id l)

set_option maxRecDepth 100000 in
theorem splitSeq_any (s : ByteArray) (w : World) : Calls Tryd.prog 50 #[.string s, .string ⟨#[47]⟩] w fun e w' => e = .returned (.func (.func 87) #[] #[.pointer (some ⟨w.heap.size + 1, 0, none⟩), .pointer (some ⟨w.heap.size, 0, none⟩), .pointer (some ⟨w.heap.size + 2, 0, none⟩)]) ∧ w' = ((w.alloc (.cells #[.string s] 9)).alloc (.cells #[.string ⟨#[47]⟩] 9)).alloc (.cells #[.int .i64 0] 3) := by
  have H2 : Calls Tryd.prog 72 #[.string s, .string ⟨#[47]⟩, .int .i64 0] w fun e w' => e = .returned (.func (.func 87) #[] #[.pointer (some ⟨w.heap.size + 1, 0, none⟩), .pointer (some ⟨w.heap.size, 0, none⟩), .pointer (some ⟨w.heap.size + 2, 0, none⟩)]) ∧ w' = ((w.alloc (.cells #[.string s] 9)).alloc (.cells #[.string ⟨#[47]⟩] 9)).alloc (.cells #[.int .i64 0] 3) := by
    go_enter Tryd.func72, Tryd.ntmps72
    go_wp2
    go_ret
    exact ⟨rfl, rfl⟩
  replace H2 := Lib.hid H2
  go_enter Tryd.func50, Tryd.ntmps50
  go_wp2_with fail
  refine H2.out.mono ?_
  rintro e w' ⟨rfl, rfl⟩
  go_wp2
  go_ret
  exact ⟨rfl, rfl⟩

/-- the iterator's cells -/
def SeqAt (bs : Nat) (r : ByteArray) (w : World) : Prop := w.heap[bs]? = some (.cells #[.string r] 9 (0, 0)) ∧ w.heap[bs + 1]? = some (.cells #[.string ⟨#[47]⟩] 9 (0, 0)) ∧ w.heap[bs + 2]? = some (.cells #[.int .i64 0] 3 (0, 0))

theorem SeqAt.kept {bs : Nat} {r : ByteArray} {w w' : World} (h : SeqAt bs r w) (hk : Kept3 bs w w') : SeqAt bs r w' :=
  ⟨(hk bs (by omega) (by omega)).trans h.1, (hk (bs + 1) (by omega) (by omega)).trans h.2.1, (hk (bs + 2) (by omega) (by omega)).trans h.2.2⟩

theorem SeqAt.cells {bs : Nat} {r : ByteArray} {w : World} (h : SeqAt bs r w) : w.cell? ⟨bs, 0, none⟩ = some (.string r) ∧ w.cell? ⟨bs + 1, 0, none⟩ = some (.string ⟨#[47]⟩) ∧ w.cell? ⟨bs + 2, 0, none⟩ = some (.int .i64 0) ∧ w.frozen? ⟨bs, 0, none⟩ = false :=
  ⟨by simpa using Lib.cell_of_heap h.1 0, by simpa using Lib.cell_of_heap h.2.1 0, by simpa using Lib.cell_of_heap h.2.2 0, Lib.frozen_of_heap h.1 0⟩

theorem SeqAt.set {bs : Nat} {r r' : ByteArray} {w : World} (h : SeqAt bs r w) : SeqAt bs r' (w.setCell ⟨bs, 0, none⟩ (.string r')) := by
  refine ⟨?_, (Below.heap_setCell _ _ _ _ (by simp)).trans h.2.1, (Below.heap_setCell _ _ _ _ (by simp)).trans h.2.2⟩
  have := h.1
  simp [World.setCell, Array.getElem?_modify, this]

set_option maxRecDepth 100000 in
set_option maxHeartbeats 4000000 in
theorem split_self (s : ByteArray) (hs : s.size ≤ 1000000) (bs : Nat) (w : World) (hw : SeqAt bs s w) :
    SeqSelf Tryd.prog 87 #[.pointer (some ⟨bs + 1, 0, none⟩), .pointer (some ⟨bs, 0, none⟩), .pointer (some ⟨bs + 2, 0, none⟩)] (fun x : ByteArray => #[.string x]) bs (bsl (partsL s.data.toList)) w := by
  intro l J Jx W hkW hJs hY h0
  have hW := hw.kept hkW
  refine callsIn_of_wp Tryd.func87 rfl trivial ?_ rfl
  simp only [Tryd.ntmps87, List.size_toArray, List.length_cons, List.length_nil, Nat.reduceAdd, Nat.reduceSub, Array.replicate_succ, Array.replicate_zero, List.push_toArray, List.append_toArray, List.nil_append, List.cons_append]
  obtain ⟨c0, c1, c2, c3⟩ := hW.cells
  replace hw := Lib.hid hw
  replace hkW := Lib.hid hkW
  gi_wp2
  clear c0 c1 c2 c3
  gi_loopg [] (s.size + 1) (fun u wr => ∃ (pre : List ByteArray) (r : ByteArray), u = r.size + 1 ∧ r.size ≤ s.size ∧ SeqAt bs r wr ∧ J pre wr ∧ Hid (bsl (partsL s.data.toList) = pre ++ bsl (partsL r.data.toList)))
  case atStart => exact ⟨[], s, rfl, Nat.le_refl _, hW, h0, Lib.hid rfl⟩
  case round =>
    obtain ⟨pre, r, rfl, hrs, hA, hJ, hF⟩ := hrel
    obtain ⟨c0, c1, c2, c3⟩ := hA.cells
    have HX := Lib.hid (idx_cases r.data.toList)
    have HI := Lib.hid (Tryd.strings_Index_one r 47 wr)
    replace hA := Lib.hid hA
    rcases HX.out with ⟨hi, hp⟩ | ⟨k, hi, hk, hp⟩
    · rw [hi] at HI
      have hpre : (pre ++ [r]) <+: bsl (partsL s.data.toList) := by
        rw [hF.out, hp]
        have : bsl [r.data.toList] = [r] := rfl
        rw [this]
        exact List.prefix_refl _
      have hfull : pre ++ [r] = bsl (partsL s.data.toList) := by rw [hF.out, hp]; rfl
      obtain ⟨fn, tmps, assign, body, hy, hR⟩ := hY pre r wr hJ hpre
      replace hfull := Lib.hid hfull
      replace hpre := Lib.hid hpre
      clear hF HX hi hp
      gi_wp2_with fail
      refine ⟨trivial, (callsIn_wide.2 HI.out).mono ?_⟩
      rintro e w' ⟨rfl, hw'⟩
      replace hw' := hw'.symm
      subst hw'
      gi_wp2_with fail
      refine (round_any hR).mono ?_
      rintro e W' (⟨rfl, hJ', hk⟩ | ⟨rfl, hJx'⟩)
      · gi_wp2
        go_end0
        exact ⟨⟨_, rfl⟩, .inl (by rw [← hfull.out]; exact hJ')⟩
      · gi_wp2
        go_end0
        exact ⟨⟨_, rfl⟩, .inr ⟨_, hpre.out, hJx'⟩⟩
    · rw [hi] at HI
      have hkr : k < r.size := by rw [Lib.size_eq]; exact hk
      have hf2 : Hid (∀ f t, f = r.extract 0 k → t = r.extract (k + 1) r.size → (pre ++ [f]) <+: bsl (partsL s.data.toList) ∧ bsl (partsL s.data.toList) = (pre ++ [f]) ++ bsl (partsL t.data.toList) ∧ t.size + 1 < r.size + 1) := Lib.hid (by
        rintro f t rfl rfl
        have hft : (r.extract 0 k).data.toList = r.data.toList.take k := ext_take r k
        have htt : (r.extract (k + 1) r.size).data.toList = r.data.toList.drop (k + 1) := by
          rw [Lib.extract_data, Lib.size_eq]
          rw [List.take_of_length_le (by rw [List.length_drop]; exact Nat.le_refl _)]
        have hb : bsl (partsL r.data.toList) = r.extract 0 k :: bsl (partsL (r.extract (k + 1) r.size).data.toList) := by
          rw [hp, htt]
          unfold bsl
          rw [List.map_cons]
          congr 1
          exact ext_toList (by rw [hft])
        refine ⟨?_, ?_, ?_⟩
        · rw [hF.out, hb]
          exact ⟨bsl (partsL (r.extract (k + 1) r.size).data.toList), by simp⟩
        · rw [hF.out, hb]; simp
        · rw [Lib.size_eq, htt, List.length_drop, ← Lib.size_eq]; omega)
      obtain ⟨f, hf⟩ : ∃ f, f = r.extract 0 k := ⟨_, rfl⟩
      obtain ⟨t, ht⟩ : ∃ t, t = r.extract (k + 1) r.size := ⟨_, rfl⟩
      obtain ⟨g1, g2, g3⟩ := hf2.out f t hf ht
      obtain ⟨fn, tmps, assign, body, hy, hR⟩ := hY pre f wr hJ g1
      have q1 : (k : Int) < (r.size : Int) := by omega
      have q2 : (k : Int) ≤ (r.size : Int) := by omega
      have q3 : r.size ≤ 9223372036854775807 := by omega
      replace g1 := Lib.hid g1
      replace g2 := Lib.hid g2
      replace g3 := Lib.hid g3
      rw [hf] at hy
      replace hf := Lib.hid hf
      replace ht := Lib.hid ht
      clear hF HX hi hp hk
      gi_wp2_with fail
      refine ⟨trivial, (callsIn_wide.2 HI.out).mono ?_⟩
      rintro e w' ⟨rfl, hw'⟩
      replace hw' := hw'.symm
      subst hw'
      gi_wp2_with fail
      refine (round_any hR).mono ?_
      rintro e W' (⟨rfl, hJ', hk⟩ | ⟨rfl, hJx'⟩)
      · have hA2 := hA.out.kept hk
        obtain ⟨d0, d1, d2, d3⟩ := hA2.cells
        have hA3 : SeqAt bs t (W'.setCell ⟨bs, 0, none⟩ (.string (r.extract (k + 1) r.size))) := by rw [ht.out]; exact hA2.set
        have hJ3 := hJs _ _ (.string (r.extract (k + 1) r.size)) hJ'
        replace hA2 := Lib.hid hA2
        replace hA3 := Lib.hid hA3
        replace hJ3 := Lib.hid hJ3
        clear c0 c1 c2 c3
        gi_wp2_with fail
        go_roundg (t.size + 1)
        case measure => exact g3.out
        case rel => exact ⟨pre ++ [f], t, rfl, by have := g3.out; omega, hA3.out, hJ3.out, g2⟩
      · gi_wp2
        refine bodyPost_ret (results_none rfl _ _ _) rfl ?_
        exact ⟨⟨_, rfl⟩, .inr ⟨_, g1.out, hJx'⟩⟩
end Go.Proofs.YtekbilieddficaaDoor
