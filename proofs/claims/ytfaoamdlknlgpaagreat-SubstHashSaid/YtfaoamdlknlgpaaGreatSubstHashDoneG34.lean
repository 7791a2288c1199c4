/- Texts of this seat's proofs, laid into one file. -/
import Derived.Test.YtfaoamdlknlgpaaGreatSubstHashDoneG33
import Derived.Test.YtfaoamdlknlgpaaGreatSubstHashDoneG12
import Derived.Test.YtfaoamdlknlgpaaGreatSubstHashDoneG4
import Derived.Deep.LoopGhost
import Derived.Deep.WholeRow
import Derived.Test.YtfaoamdlknlgpaaGreatSubstHashDoneG11
import Derived.Lib.JoinLaws
import Derived.Lib.ConvBytes
/- strings.Replacer: the replacer that args builds: of two bytes, each by two. -/
namespace Go.Proofs.YtfaoamdlknlgpaaGreat
open Go.RowKit
set_option linter.unusedVariables false

abbrev rq : ByteArray := ⟨#[34]⟩
abbrev rbq : ByteArray := ⟨#[92, 34]⟩
abbrev rs : ByteArray := ⟨#[92]⟩
abbrev rss : ByteArray := ⟨#[92, 92]⟩

theorem infoStr : (Tryz.prog.info? 9).map (fun i => (i.zero, i.size, i.bytes)) = some (some (.string ⟨#[]⟩), 1, 16) := by kernel_rfl
theorem rep_zero (w : World) : (zeroValue 195).run Tryz.prog w = .ok (.agg (Array.replicate 256 (.slice none 0 0))) w := by kernel_rfl

theorem Er9 : EI Tryz.prog 45 9 (.string ⟨#[]⟩) 1 16 := ⟨Tryz.underlying45, by kernel_rfl, rfl, by decide⟩

def rstrs (l : List ByteArray) : List (List Value) := l.map fun p => [.string p]

/-- two bytes in a row of bytes -/
def Two (W : World) (g : Nat) (a b : UInt8) : Prop := ∃ x fz, W.heap[g]? = some (.cells x 5 fz) ∧ x[0]? = some (.int .u8 a.toNat) ∧ x[1]? = some (.int .u8 b.toNat)

theorem Two.cells {W : World} {g : Nat} {a b : UInt8} (h : Two W g a b) : W.cell? ⟨g, 0, none⟩ = some (.int .u8 a.toNat) ∧ W.cell? ⟨g, 1, none⟩ = some (.int .u8 b.toNat) := by
  obtain ⟨x, fz, h1, h2, h3⟩ := h
  exact ⟨(Lib.cell_of_heap h1 0).trans h2, (Lib.cell_of_heap h1 1).trans h3⟩

/-- the replacer while it is built: its table, its texts -/
structure RepSt (B : Nat) (W : World) (rb : Nat) (f : Nat → Value) (tv : List ByteArray) (v : Value) : Prop where
  blk : ∃ A, W.heap[rb]? = some (.cells A 197 (0, 0)) ∧ A.size = 257 ∧ (∀ j, j < 256 → A[j]? = some (f j)) ∧ A[256]? = some v
  own : Own W B 9 1 v (rstrs tv)
  low : B ≤ rb

theorem RepSt.cell {B : Nat} {W : World} {rb : Nat} {f : Nat → Value} {tv : List ByteArray} {v : Value} (h : RepSt B W rb f tv v) {j : Nat} (hj : j < 256) : W.cell? ⟨rb, j, none⟩ = some (f j) := by
  obtain ⟨A, h1, _, h2, _⟩ := h.blk
  exact (Lib.cell_of_heap h1 j).trans (h2 j hj)
theorem RepSt.cellT {B : Nat} {W : World} {rb : Nat} {f : Nat → Value} {tv : List ByteArray} {v : Value} (h : RepSt B W rb f tv v) : W.cell? ⟨rb, 256, none⟩ = some v := by
  obtain ⟨A, h1, _, _, h2⟩ := h.blk
  exact (Lib.cell_of_heap h1 256).trans h2
theorem RepSt.fz {B : Nat} {W : World} {rb : Nat} {f : Nat → Value} {tv : List ByteArray} {v : Value} (h : RepSt B W rb f tv v) (j : Nat) : W.frozen? ⟨rb, j, none⟩ = false := by
  obtain ⟨A, h1, _, _, h2⟩ := h.blk
  exact Lib.frozen_of_heap h1 j
theorem RepSt.below {B : Nat} {W W' : World} {rb : Nat} {f : Nat → Value} {tv : List ByteArray} {v : Value} (h : RepSt B W rb f tv v) (hb : Below W.heap.size W W') : RepSt B W' rb f tv v := by
  obtain ⟨A, h1, h2⟩ := h.blk
  exact ⟨⟨A, (hb.block rb (lt_of_block h1)).trans h1, h2⟩, h.own.below hb, h.low⟩
theorem RepSt.set {B : Nat} {W : World} {rb : Nat} {f : Nat → Value} {tv : List ByteArray} {v : Value} (h : RepSt B W rb f tv v) {j : Nat} (hj : j < 256) (u : Value) : RepSt B (W.setCell ⟨rb, j, none⟩ u) rb (fun i => if i = j then u else f i) tv v := by
  obtain ⟨A, h1, h2, h3, h4⟩ := h.blk
  refine ⟨⟨A.setIfInBounds j u, heap_setCell_same _ _ _ _ _ _ h1, by simp [h2], fun i hi => ?_, ?_⟩, h.own.setType h1 (by decide) j u, h.low⟩
  · rw [Array.getElem?_setIfInBounds]
    by_cases e : j = i
    · subst e; simp [h2]; omega
    · rw [if_neg e, if_neg (fun x => e x.symm)]; exact h3 i hi
  · rw [Array.getElem?_setIfInBounds, if_neg (by omega)]; exact h4
/-- a text more -/
theorem RepSt.app {B : Nat} {W W' : World} {rb : Nat} {f : Nat → Value} {tv : List ByteArray} {v v' : Value} {s : ByteArray} (h : RepSt B W rb f tv v) (ho : Own W' B 9 1 v' (rstrs tv ++ [[.string s]])) (hg : W.grownBy W' v.ownBlock) : RepSt B (W'.setCell ⟨rb, 256, none⟩ v') rb f (tv ++ [s]) v' := by
  obtain ⟨A, h1, h2, h3, h4⟩ := h.blk
  have h1' : W'.heap[rb]? = some (.cells A 197 (0, 0)) := (hg.block rb (lt_of_block h1) (by
    rcases own_ne h.own h1 (by decide) with e | e
    · rw [e]; simp
    · exact fun e2 => e e2.symm)).trans h1
  refine ⟨⟨A.setIfInBounds 256 v', heap_setCell_same _ _ _ _ _ _ h1', by simp [h2], fun i hi => ?_, ?_⟩, ?_, h.low⟩
  · rw [Array.getElem?_setIfInBounds, if_neg (by omega)]; exact h3 i hi
  · rw [Array.getElem?_setIfInBounds, if_pos rfl, if_pos (by omega)]
  · have := ho.setType h1' (by decide) 256 v'
    simpa [rstrs] using this

theorem rep_zeros : Tryz.zeroCells197 = Array.replicate 257 (.slice none 0 0) := by kernel_rfl

theorem rep_zsize : Tryz.zeroCells197.size = 257 := by rw [rep_zeros]; exact Array.size_replicate
theorem rep_zat {j : Nat} (hj : j < 257) : Tryz.zeroCells197[j]? = some (.slice none 0 0) := by rw [rep_zeros, Array.getElem?_replicate, if_pos hj]
theorem rep_zall : ∀ x ∈ Tryz.zeroCells197.toList, x = .slice none 0 0 := by
  intro x hx
  rw [rep_zeros, Array.toList_replicate] at hx
  exact List.eq_of_mem_replicate hx

theorem rep_size : (Tryz.prog.info? 197).map (·.size) = some 257 := by kernel_rfl

/-- the new replacer's block is laid -/
theorem rep_lay (w : World) (sl : Value) (h1 : sl.oneCell' = true) (n : Nat) (hn : n = w.heap.size) :
    (storeCells ⟨n, 0, none⟩ (Tryz.zeroCells197.toList.set 256 sl)).run Tryz.prog (w.alloc (.cells Tryz.zeroCells197 197)) = .ok () (w.alloc (.cells (Tryz.zeroCells197.toList.set 256 sl).toArray 197)) := by
  subst hn
  have hl : (Tryz.zeroCells197.toList.set 256 sl).toArray.size = 257 := by rw [List.size_toArray, List.length_set, Array.length_toList, rep_zsize]
  have := run_storeCells_new (P := Tryz.prog) w 197 Tryz.zeroCells197 (Tryz.zeroCells197.toList.set 256 sl).toArray (by rw [rep_size, hl]) (by rw [hl, rep_zsize]) (by
    rw [← Array.all_toList, List.all_eq_true]
    intro x hx
    rcases List.mem_or_eq_of_mem_set hx with h | rfl
    · rw [rep_zall x h]; rfl
    · exact h1)
  exact this

theorem rep_first (w : World) (sl : Value) (B : Nat) (hB : B ≤ w.heap.size) (ho : Own w B 9 1 sl []) : RepSt B (w.alloc (.cells (Tryz.zeroCells197.toList.set 256 sl).toArray 197)) w.heap.size (fun _ => .slice none 0 0) [] sl := by
  have hl : Tryz.zeroCells197.toList.length = 257 := by rw [Array.length_toList, rep_zsize]
  refine ⟨⟨_, heap_alloc_new _ _, by rw [List.size_toArray, List.length_set, hl], fun j hj => ?_, ?_⟩, ho.alloc _, hB⟩
  · rw [List.getElem?_toArray, List.getElem?_set_ne (by omega), Array.getElem?_toList]
    exact rep_zat (by omega)
  · rw [List.getElem?_toArray, List.getElem?_set_self (by omega)]
end Go.Proofs.YtfaoamdlknlgpaaGreat

/- strings.Replacer: build. -/
namespace Go.Proofs.YtfaoamdlknlgpaaGreat
open Go.RowKit
set_option linter.unusedVariables false

/-- a replacer that is built -/
def RepAt (B : Nat) (W : World) (rb : Nat) : Prop :=
  ∃ g1 c1 g2 c2 v, RepSt B W rb (fun j => if j = 34 then .slice (some ⟨g2, 0, none⟩) 2 c2 else (fun j => if j = 92 then .slice (some ⟨g1, 0, none⟩) 2 c1 else .slice none 0 0) j) [⟨#[92]⟩, ⟨#[34]⟩] v ∧ Two W g1 92 92 ∧ Two W g2 92 34 ∧ 2 ≤ c1 ∧ 2 ≤ c2

theorem conv_one (c : UInt8) (w : World) (z : Int) (hz : z = c.toNat) : (convert 58 9 (.slice (some ⟨w.heap.size, 0, none⟩) 1 1)).run Tryz.prog (w.alloc (.cells #[.int .u8 z] 5)) = .ok (.string ⟨#[c]⟩) (w.alloc (.cells #[.int .u8 z] 5)) := by
  subst hz
  have h := run_convert_bytes_back (P := Tryz.prog) (w.alloc (.cells #[.int .u8 (c.toNat : Int)] 5)) 58 9 5 ⟨w.heap.size, 0, none⟩ 1 [c] Tryz.underlying58 Tryz.underlying5 Tryz.underlying9 (by
    intro j hj
    have hj0 : j = 0 := by simpa using hj
    subst hj0
    rw [Addr.add_lit, Lib.cell_of_heap (heap_alloc_new w _)]
    rfl)
  exact h

theorem bytesWorld_below (w : World) (e : TypeId) (s : ByteArray) : Below w.heap.size w (Lib.bytesWorld w e s) :=
  ⟨rfl, rfl, rfl, by rw [Lib.bytesWorld_size]; omega, fun k hk => Lib.bytesWorld_at_old w e s k hk⟩

theorem bytesWorld_two (w : World) (s : ByteArray) (a b : UInt8) (hs : s = ⟨#[a, b]⟩) : Two (Lib.bytesWorld w 5 s) w.heap.size a b := by
  subst hs
  have h0 := Lib.bytesWorld_cell w 5 ⟨#[a, b]⟩ 0 (Nat.zero_lt_succ 1)
  have h1 := Lib.bytesWorld_cell w 5 ⟨#[a, b]⟩ 1 (Nat.lt_succ_self 1)
  have hb := Lib.bytesWorld_at_new w 5 ⟨#[a, b]⟩
  rw [Lib.cell_of_heap hb] at h0 h1
  exact ⟨_, _, hb, h0, h1⟩

theorem Two.below {W W' : World} {g : Nat} {a b : UInt8} (h : Two W g a b) (hb : Below W.heap.size W W') : Two W' g a b := by
  obtain ⟨x, fz, h1, h2⟩ := h
  exact ⟨x, fz, (hb.block g (lt_of_block h1)).trans h1, h2⟩
theorem Two.grown {W W' : World} {g r : Nat} {a b : UInt8} {c : Array Value} {T : TypeId} {fz : Nat × Nat} (h : Two W g a b) (hg : W.grownBy W' (some r)) (hr : W.heap[r]? = some (.cells c T fz)) (hT : T ≠ 5) : Two W' g a b := by
  obtain ⟨x, fz', h1, h2⟩ := h
  refine ⟨x, fz', (hg.block g (lt_of_block h1) ?_).trans h1, h2⟩
  intro e
  obtain rfl := Option.some.inj e
  rw [hr] at h1
  simp only [Option.some.injEq, Obj.cells.injEq] at h1
  exact hT h1.2.1
theorem Two.set {W : World} {g r j : Nat} {a b : UInt8} {c : Array Value} {T : TypeId} {fz : Nat × Nat} (h : Two W g a b) (hr : W.heap[r]? = some (.cells c T fz)) (hT : T ≠ 5) (u : Value) : Two (W.setCell ⟨r, j, none⟩ u) g a b :=
  h.grown (set_grown W r j u) hr hT

theorem RepSt.kept {B : Nat} {W W' : World} {rb : Nat} {f : Nat → Value} {tv : List ByteArray} {v : Value} (h : RepSt B W rb f tv v) (hg : W.grownBy W' v.ownBlock) : W'.cell? ⟨rb, 256, none⟩ = some v ∧ W'.frozen? ⟨rb, 256, none⟩ = false := by
  obtain ⟨A, h1, h2, h3, h4⟩ := h.blk
  have h1' : W'.heap[rb]? = some (.cells A 197 (0, 0)) := (hg.block rb (lt_of_block h1) (by
    rcases own_ne h.own h1 (by decide) with e | e
    · rw [e]; simp
    · exact fun e2 => e e2.symm)).trans h1
  exact ⟨(Lib.cell_of_heap h1' 256).trans h4, Lib.frozen_of_heap h1' 256⟩

theorem Two.own {W W' : World} {g B : Nat} {a b : UInt8} {v : Value} {css : List (List Value)} (h : Two W g a b) (ho : Own W B 9 1 v css) (hg : W.grownBy W' v.ownBlock) : Two W' g a b := by
  obtain ⟨x, fz, h1, h2⟩ := h
  refine ⟨x, fz, (hg.block g (lt_of_block h1) ?_).trans h1, h2⟩
  intro e
  obtain ⟨c, fz', h3⟩ := ho.size_lt g e.symm
  rw [h1] at h3
  simp only [Option.some.injEq, Obj.cells.injEq] at h3
  exact absurd h3.2.1 (by decide)

set_option maxRecDepth 100000 in
set_option maxHeartbeats 4000000 in
theorem rep_build (b o cp : Nat) (w : World) (h0 : w.cell? ⟨b, 4, none⟩ = some (.slice (some ⟨o, 0, none⟩) 4 cp))
    (x0 : w.cell? ⟨o, 0, none⟩ = some (.string ⟨#[34]⟩)) (x1 : w.cell? ⟨o, 1, none⟩ = some (.string ⟨#[92, 34]⟩)) (x2 : w.cell? ⟨o, 2, none⟩ = some (.string ⟨#[92]⟩)) (x3 : w.cell? ⟨o, 3, none⟩ = some (.string ⟨#[92, 92]⟩)) :
    Calls Tryz.prog 113 #[.pointer (some ⟨b, 0, none⟩)] w fun e w' => ∃ rb, e = .returned (.iface 198 (.pointer (some ⟨rb, 0, none⟩))) ∧ RepAt w.heap.size w' rb ∧ Below w.heap.size w w' := by
  have mk : ∀ w, (Instr.makeSlice 45 (.int .i64 0) (.int .i64 2)).run Tryz.prog w = .ok (.slice (some ⟨w.heap.size, 0, none⟩) 0 2) (w.alloc (.cells (madeCells #[.string ⟨#[]⟩] 2) 9)) := fun w => by
    have := run_make_room 45 9 (.string ⟨#[]⟩) 16 Tryz.underlying45 infoStr rfl .i64 .i64 2 (by decide) (by decide) w
    exact this
  have hW0 : Hid (∀ W, Below w.heap.size w W → W.cell? ⟨o, 0, none⟩ = some (.string ⟨#[34]⟩) ∧ W.cell? ⟨o, 1, none⟩ = some (.string ⟨#[92, 34]⟩) ∧ W.cell? ⟨o, 2, none⟩ = some (.string ⟨#[92]⟩) ∧ W.cell? ⟨o, 3, none⟩ = some (.string ⟨#[92, 92]⟩)) := Lib.hid fun W hW => ⟨kept_cell hW x0, kept_cell hW x1, kept_cell hW x2, kept_cell hW x3⟩
  have hlay := rep_lay (w.alloc (.cells (madeCells #[.string ⟨#[]⟩] 2) 9)) (.slice (some ⟨w.heap.size, 0, none⟩) 0 2) rfl (w.heap.size + 1) (by simp)
  have hfirst := rep_first (w.alloc (.cells (madeCells #[.string ⟨#[]⟩] 2) 9)) (.slice (some ⟨w.heap.size, 0, none⟩) 0 2) w.heap.size (by simp) ⟨World.ownsRow_made w _ 2 (Nat.le_refl _) (by decide) (size_madeCells _ _), by simp⟩
  rw [World.size_alloc] at hfirst
  have hb1 : Below w.heap.size w ((w.alloc (.cells (madeCells #[.string ⟨#[]⟩] 2) 9)).alloc (.cells (Tryz.zeroCells197.toList.set 256 (.slice (some ⟨w.heap.size, 0, none⟩) 0 2)).toArray 197)) := ((Below.refl _ w).alloc (Nat.le_refl _) _).alloc (by simp) _
  have hbx : Below w.heap.size w ((w.alloc (.cells (madeCells #[.string ⟨#[]⟩] 2) 9)).alloc (.cells Tryz.zeroCells197 197)) := ((Below.refl _ w).alloc (Nat.le_refl _) _).alloc (by simp) _
  have hfz := Lib.frozen_of_heap (heap_alloc_new (w.alloc (.cells (madeCells #[.string ⟨#[]⟩] 2) 9)) (.cells Tryz.zeroCells197 197)) 0
  rw [World.size_alloc] at hfz
  replace hfirst := Lib.hid hfirst
  replace hb1 := Lib.hid hb1
  go_enter Tryz.func113, Tryz.ntmps113
  go_wp2_with fail
  go_loopg [4, 5] 3 (fun q v4 v5 wx => ((q = 3 ∧ v4 = .bool true ∧ v5 = .int .i64 0) ∨ (q = 2 ∧ v4 = .bool false ∧ v5 = .int .i64 2) ∨ (q = 1 ∧ v4 = .bool false ∧ v5 = .int .i64 4)) ∧ wx = w)
  case atStart => exact ⟨.inl ⟨rfl, rfl, rfl⟩, rfl⟩
  case round =>
    obtain ⟨hd, hw⟩ := hrel
    replace hw := hw.symm
    subst hw
    have y2 : w.cell? ⟨o, 1 + 2, none⟩ = some (.string ⟨#[92, 92]⟩) := x3
    rcases hd with ⟨rfl, rfl, rfl⟩ | ⟨rfl, rfl, rfl⟩ | ⟨rfl, rfl, rfl⟩
    · go_wp2_with fail
      go_roundg 2
      case measure => exact (by decide)
      case rel => exact ⟨.inr (.inl ⟨rfl, rfl, rfl⟩), rfl⟩
    · go_wp2_with fail
      go_roundg 1
      case measure => exact (by decide)
      case rel => exact ⟨.inr (.inr ⟨rfl, rfl, rfl⟩), rfl⟩
    · go_wp2_with fail
      go_loopg [12, 13, 14] 2 (fun q v12 v13 v14 wx => Hid (Below w.heap.size w wx) ∧ ((q = 2 ∧ v12 = .int .i64 2 ∧ ∃ v, Hid (RepSt w.heap.size wx (w.heap.size + 1) (fun _ => .slice none 0 0) [] v)) ∨ (q = 1 ∧ v12 = .int .i64 0 ∧ ∃ v g1 c1, 2 ≤ c1 ∧ Hid (RepSt w.heap.size wx (w.heap.size + 1) (fun j => if j = 92 then .slice (some ⟨g1, 0, none⟩) 2 c1 else .slice none 0 0) [⟨#[92]⟩] v) ∧ Hid (Two wx g1 92 92)) ∨ (q = 0 ∧ v12 = .int .i64 (-2) ∧ Hid (RepAt w.heap.size wx (w.heap.size + 1)))))
      case atStart => exact ⟨hb1, .inl ⟨rfl, rfl, _, hfirst⟩⟩
      case round =>
        clear hfirst hb1 hbx hfz hlay mk
        obtain ⟨hbw, hd⟩ := hrel
        obtain ⟨z0, z1, z2, z3⟩ := hW0.out wr hbw.out
        have hsB := hbw.out.size
        have y3 : wr.cell? ⟨o, 1 + 2, none⟩ = some (.string ⟨#[92, 92]⟩) := z3
        have y3' : wr.cell? ⟨o, 2 + 1, none⟩ = some (.string ⟨#[92, 92]⟩) := z3
        have y1' : wr.cell? ⟨o, 0 + 1, none⟩ = some (.string ⟨#[92, 34]⟩) := z1
        have hq : ∀ (w : World) (a : Option Addr) (n c : Nat), (binOp .eql 58 (.slice a n c) (.slice none 0 0)).run Tryz.prog w = .ok (.bool a.isNone) w := fun w a n c => Lib.run_eql_slice_nil w _ _ a n c 0 0 Tryz.underlying58
        have hcv2 : ∀ (W : World) (n : Nat) (s : ByteArray), n = W.heap.size → (convert 9 58 (.string s)).run Tryz.prog W = .ok (.slice (some ⟨n, 0, none⟩) s.size (grownCap W s.size 0 5)) (Lib.bytesWorld W 5 s) := fun W n s h => by subst h; exact Lib.run_convert_string_bytes W _ _ _ s Tryz.underlying9 Tryz.underlying58 Tryz.underlying5
        rcases hd with ⟨rfl, rfl, v, hst⟩ | ⟨rfl, rfl, v, g1, c1, hc1, hst, ht1⟩ | ⟨rfl, rfl, hst⟩
        · have d0 : wr.cell? ⟨w.heap.size + 1, 92, none⟩ = some (.slice none 0 0) := hst.out.cell (j := 92) (by decide)
          have d1 := hst.out.cellT
          have hcv1 := fun W => conv_one 92 W 92 rfl
          have hr92 : ∀ (h : 0 < (⟨#[92]⟩ : ByteArray).size), ((⟨#[92]⟩ : ByteArray)[0]'h).toNat = 92 := fun _ => rfl
          have b2 : Below wr.heap.size wr (wr.alloc (.cells #[.int .u8 92] 5)) := (Below.refl _ _).alloc (Nat.le_refl _) _
          have hst2 := Lib.hid (hst.out.below b2)
          have hown2 := hst2.out.own
          obtain ⟨ao, cpp, rfl, _, _, _, _⟩ := hst.out.own.rown (n := 0) rfl
          have d1' := kept_cell (b2.alloc (by simp) (.cells #[.string ⟨#[92]⟩] 9)) d1
          have hb2 := Lib.hid (hbw.out.alloc hsB (.cells #[.int .u8 92] 5))
          go_wp2_with (at_builtin; go_must (refine wpList_append1 Er9 rfl rfl hown2 rfl rfl (news := [.string ⟨#[92]⟩]) (by simp) rfl (by simp [Value.oneCell']) (by decide) (by decide) (by simp; omega) ?_); intro v5 w5 hown5 hg5; obtain ⟨d5, z5⟩ := hst2.out.kept hg5; obtain ⟨lo5, lc5, rfl, _, _, _, _⟩ := hown5.rown (n := 0+1) rfl; have hst6 := Lib.hid (hst2.out.app hown5 hg5); have hst7 := Lib.hid (hst6.out.below (bytesWorld_below _ 5 ⟨#[92, 92]⟩)); have d7 := hst7.out.cell (j := 92) (by decide); have z7 := hst7.out.fz 92; have hcx := hcv2 (w5.setCell ⟨w.heap.size + 1, 256, none⟩ (.slice lo5 (0+1) lc5)) w5.heap.size ⟨#[92, 92]⟩ (by simp))
          have hst8 := Lib.hid (hst7.out.set (j := 92) (by decide) (.slice (some ⟨w5.heap.size, 0, none⟩) 2 (grownCap (w5.setCell ⟨w.heap.size + 1, 256, none⟩ (.slice lo5 (0+1) lc5)) 2 0 5)))
          have hbw5 := bapp hb2.out hown2 hg5 (by simp; omega)
          have hbw6 : Below w.heap.size w (w5.setCell ⟨w.heap.size + 1, 256, none⟩ (.slice lo5 (0+1) lc5)) := hbw5.setCell (p := ⟨w.heap.size + 1, 256, none⟩) (by simp) _
          have hbw7 := hbw6.trans ((bytesWorld_below _ 5 ⟨#[92, 92]⟩).mono hbw6.size)
          have hbw8 := Lib.hid (hbw7.setCell (p := ⟨w.heap.size + 1, 92, none⟩) (by simp) (.slice (some ⟨w5.heap.size, 0, none⟩) 2 (grownCap (w5.setCell ⟨w.heap.size + 1, 256, none⟩ (.slice lo5 (0+1) lc5)) 2 0 5)))
          obtain ⟨A7, hA7, _⟩ := hst7.out.blk
          have hg2 : 2 ≤ grownCap (w5.setCell ⟨w.heap.size + 1, 256, none⟩ (.slice lo5 (0+1) lc5)) 2 0 5 := grownCap_ge _ 2 0 _
          have ht8 := (bytesWorld_two (w5.setCell ⟨w.heap.size + 1, 256, none⟩ (.slice lo5 (0+1) lc5)) ⟨#[92, 92]⟩ 92 92 rfl)
          rw [World.size_setCell] at ht8
          replace ht8 := Lib.hid (ht8.set (j := 92) hA7 (by decide) (.slice (some ⟨w5.heap.size, 0, none⟩) 2 (grownCap (w5.setCell ⟨w.heap.size + 1, 256, none⟩ (.slice lo5 (0+1) lc5)) 2 0 5)))
          go_roundg 1
          case measure => exact (by decide)
          case rel => exact ⟨hbw8, .inr (.inl ⟨rfl, rfl, _, _, _, hg2, hst8, ht8⟩)⟩
        · have d0 : wr.cell? ⟨w.heap.size + 1, 34, none⟩ = some (.slice none 0 0) := hst.out.cell (j := 34) (by decide)
          have d1 := hst.out.cellT
          have hcv1 := fun W => conv_one 34 W 34 rfl
          have hr92 : ∀ (h : 0 < (⟨#[34]⟩ : ByteArray).size), ((⟨#[34]⟩ : ByteArray)[0]'h).toNat = 34 := fun _ => rfl
          have b2 : Below wr.heap.size wr (wr.alloc (.cells #[.int .u8 34] 5)) := (Below.refl _ _).alloc (Nat.le_refl _) _
          have hst2 := Lib.hid (hst.out.below b2)
          have hown2 := hst2.out.own
          obtain ⟨ao, cpp, rfl, _, _, _, _⟩ := hst.out.own.rown (n := 1) rfl
          have d1' := kept_cell (b2.alloc (by simp) (.cells #[.string ⟨#[34]⟩] 9)) d1
          have hb2 := Lib.hid (hbw.out.alloc hsB (.cells #[.int .u8 34] 5))
          go_wp2_with (at_builtin; go_must (refine wpList_append1 Er9 rfl rfl hown2 rfl rfl (news := [.string ⟨#[34]⟩]) (by simp) rfl (by simp [Value.oneCell']) (by decide) (by decide) (by simp; omega) ?_); intro v5 w5 hown5 hg5; obtain ⟨d5, z5⟩ := hst2.out.kept hg5; obtain ⟨lo5, lc5, rfl, _, _, _, _⟩ := hown5.rown (n := 1+1) rfl; have hst6 := Lib.hid (hst2.out.app hown5 hg5); have hst7 := Lib.hid (hst6.out.below (bytesWorld_below _ 5 ⟨#[92, 34]⟩)); have d7 := hst7.out.cell (j := 34) (by decide); have z7 := hst7.out.fz 34; have hcx := hcv2 (w5.setCell ⟨w.heap.size + 1, 256, none⟩ (.slice lo5 (1+1) lc5)) w5.heap.size ⟨#[92, 34]⟩ (by simp))
          have hst8 := Lib.hid (hst7.out.set (j := 34) (by decide) (.slice (some ⟨w5.heap.size, 0, none⟩) 2 (grownCap (w5.setCell ⟨w.heap.size + 1, 256, none⟩ (.slice lo5 (1+1) lc5)) 2 0 5)))
          have hbw5 := bapp hb2.out hown2 hg5 (by simp; omega)
          have hbw6 : Below w.heap.size w (w5.setCell ⟨w.heap.size + 1, 256, none⟩ (.slice lo5 (1+1) lc5)) := hbw5.setCell (p := ⟨w.heap.size + 1, 256, none⟩) (by simp) _
          have hbw7 := hbw6.trans ((bytesWorld_below _ 5 ⟨#[92, 34]⟩).mono hbw6.size)
          have hbw8 := Lib.hid (hbw7.setCell (p := ⟨w.heap.size + 1, 34, none⟩) (by simp) (.slice (some ⟨w5.heap.size, 0, none⟩) 2 (grownCap (w5.setCell ⟨w.heap.size + 1, 256, none⟩ (.slice lo5 (1+1) lc5)) 2 0 5)))
          obtain ⟨A7, hA7, _⟩ := hst7.out.blk
          have hg2 : 2 ≤ grownCap (w5.setCell ⟨w.heap.size + 1, 256, none⟩ (.slice lo5 (1+1) lc5)) 2 0 5 := grownCap_ge _ 2 0 _
          have ht8 := (bytesWorld_two (w5.setCell ⟨w.heap.size + 1, 256, none⟩ (.slice lo5 (1+1) lc5)) ⟨#[92, 34]⟩ 92 34 rfl)
          rw [World.size_setCell] at ht8
          have ht8' := ht8.set (j := 34) hA7 (by decide) (.slice (some ⟨w5.heap.size, 0, none⟩) 2 (grownCap (w5.setCell ⟨w.heap.size + 1, 256, none⟩ (.slice lo5 (1+1) lc5)) 2 0 5))
          obtain ⟨A2, hA2, _⟩ := hst2.out.blk
          have hA5 : w5.heap[w.heap.size + 1]? = some (.cells A2 197 (0, 0)) := (hg5.block _ (lt_of_block hA2) (by
            rcases own_ne hown2 hA2 (by decide) with e | e
            · rw [e]; simp
            · exact fun e2 => e e2.symm)).trans hA2
          have ht5 := (((((ht1.out.below b2).own hown2 hg5).set (j := 256) hA5 (by decide) (.slice lo5 (1+1) lc5)).below (bytesWorld_below _ 5 ⟨#[92, 34]⟩)).set (j := 34) hA7 (by decide) (.slice (some ⟨w5.heap.size, 0, none⟩) 2 (grownCap (w5.setCell ⟨w.heap.size + 1, 256, none⟩ (.slice lo5 (1+1) lc5)) 2 0 5)))
          have hfin : Hid (RepAt w.heap.size ((Lib.bytesWorld (w5.setCell ⟨w.heap.size + 1, 256, none⟩ (.slice lo5 (1+1) lc5)) 5 ⟨#[92, 34]⟩).setCell ⟨w.heap.size + 1, 34, none⟩ (.slice (some ⟨w5.heap.size, 0, none⟩) 2 (grownCap (w5.setCell ⟨w.heap.size + 1, 256, none⟩ (.slice lo5 (1+1) lc5)) 2 0 5))) (w.heap.size + 1)) := Lib.hid ⟨_, _, _, _, _, hst8.out, ht5, ht8', hc1, hg2⟩
          go_roundg 0
          case measure => exact (by decide)
          case rel => exact ⟨hbw8, .inr (.inr ⟨rfl, rfl, hfin⟩)⟩
        · go_wp2
          go_ret
          exact ⟨_, rfl, hst.out, hbw.out⟩
end Go.Proofs.YtfaoamdlknlgpaaGreat

/- strings.Replacer: the Once's function. -/
namespace Go.Proofs.YtfaoamdlknlgpaaGreat
open Go.RowKit
set_option linter.unusedVariables false

set_option maxRecDepth 100000 in
set_option maxHeartbeats 4000000 in
theorem rep_once (b o cp : Nat) (x3' : Value) (w : World) (hb : w.heap[b]? = some (.cells #[.int .u32 0, .int .i32 1, .int .u32 0, x3', .slice (some ⟨o, 0, none⟩) 4 cp] 169 (0, 0)))
    (x0 : w.cell? ⟨o, 0, none⟩ = some (.string ⟨#[34]⟩)) (x1 : w.cell? ⟨o, 1, none⟩ = some (.string ⟨#[92, 34]⟩)) (x2 : w.cell? ⟨o, 2, none⟩ = some (.string ⟨#[92]⟩)) (x3 : w.cell? ⟨o, 3, none⟩ = some (.string ⟨#[92, 92]⟩)) :
    Calls Tryz.prog 94 #[.pointer (some ⟨b, 0, none⟩)] w fun e w' => e = .returned (.tuple #[]) ∧ ∃ rb, w'.heap[b]? = some (.cells #[.int .u32 0, .int .i32 1, .int .u32 0, .iface 198 (.pointer (some ⟨rb, 0, none⟩)), .slice none 0 0] 169 (0, 0)) ∧ RepAt w.heap.size w' rb ∧ w.grownBy w' (some b) := by
  have c4 := Lib.cell_of_heap hb 4
  have HB := Lib.hid (rep_build b o cp w c4 x0 x1 x2 x3)
  have hlt := lt_of_block hb
  go_enter Tryz.func94, Tryz.ntmps94
  go_wp2_with fail
  refine HB.out.mono ?_
  rintro e w1 ⟨rb, rfl, hR, b1⟩
  have hb1 := (b1.block b hlt).trans hb
  have d3 := Lib.cell_of_heap hb1 3
  have d4 := Lib.cell_of_heap hb1 4
  have z3 := Lib.frozen_of_heap hb1 3
  have z4 := Lib.frozen_of_heap hb1 4
  have hR' := Lib.hid hR
  have b1' := Lib.hid b1
  have hb1' := Lib.hid hb1
  clear hR b1 hb hb1 c4 HB x0 x1 x2 x3
  go_wp2
  go_end0
  refine ⟨rfl, rb, ?_, ?_, ?_⟩
  · have h1 := heap_setCell_same w1 b 3 _ _ (.iface 198 (.pointer (some ⟨rb, 0, none⟩))) hb1'.out
    exact heap_setCell_same _ b 4 _ _ (.slice none 0 0) h1
  · obtain ⟨g1, c1, g2, c2, v, hst, ht1, ht2, h1, h2⟩ := hR'.out
    have key : ∀ (W : World) (j : Nat) (u : Value) (A : Array Value), W.heap[b]? = some (.cells A 169 (0, 0)) → (RepSt w.heap.size W rb (fun j => if j = 34 then .slice (some ⟨g2, 0, none⟩) 2 c2 else (fun j => if j = 92 then .slice (some ⟨g1, 0, none⟩) 2 c1 else .slice none 0 0) j) [⟨#[92]⟩, ⟨#[34]⟩] v ∧ Two W g1 92 92 ∧ Two W g2 92 34) → (RepSt w.heap.size (W.setCell ⟨b, j, none⟩ u) rb (fun j => if j = 34 then .slice (some ⟨g2, 0, none⟩) 2 c2 else (fun j => if j = 92 then .slice (some ⟨g1, 0, none⟩) 2 c1 else .slice none 0 0) j) [⟨#[92]⟩, ⟨#[34]⟩] v ∧ Two (W.setCell ⟨b, j, none⟩ u) g1 92 92 ∧ Two (W.setCell ⟨b, j, none⟩ u) g2 92 34) := by
      rintro W j u A hA ⟨k1, k2, k3⟩
      obtain ⟨A', a1, a2⟩ := k1.blk
      have hne : rb ≠ b := by have := k1.low; omega
      exact ⟨⟨⟨A', (Below.heap_setCell _ _ _ _ hne).trans a1, a2⟩, k1.own.setType hA (by decide) j u, k1.low⟩, k2.set hA (by decide) u, k3.set hA (by decide) u⟩
    have h3 := key w1 3 (.iface 198 (.pointer (some ⟨rb, 0, none⟩))) _ hb1'.out ⟨hst, ht1, ht2⟩
    have h4 := key _ 4 (.slice none 0 0) _ (heap_setCell_same w1 b 3 _ _ (.iface 198 (.pointer (some ⟨rb, 0, none⟩))) hb1'.out) h3
    exact ⟨g1, c1, g2, c2, v, h4.1, h4.2.1, h4.2.2, h1, h2⟩
  · exact grown_trans ⟨b1'.out.os, b1'.out.tape, b1'.out.output, b1'.out.size, fun k hk _ => b1'.out.block k hk⟩ (grown_trans (set_grown _ _ _ _) (set_grown _ _ _ _))
end Go.Proofs.YtfaoamdlknlgpaaGreat

/- strings.Replacer: what it makes of a text, in plain Lean. -/
namespace Go.Proofs.YtfaoamdlknlgpaaGreat
open Go.RowKit
set_option linter.unusedVariables false

def escB (c : UInt8) : Bool := c == 34 || c == 92
def escC (c : UInt8) : List UInt8 := if escB c then [92, c] else [c]
def escL (s : List UInt8) : List UInt8 := s.flatMap escC
def escN (s : List UInt8) : Nat := s.countP escB

theorem escL_len (s : List UInt8) : (escL s).length = s.length + escN s := by
  induction s with
  | nil => rfl
  | cons c s ih =>
    unfold escL escN at *
    rw [List.flatMap_cons, List.length_append, ih, List.countP_cons]
    unfold escC
    cases escB c <;> simp <;> omega

theorem escL_none {s : List UInt8} (h : escN s = 0) : escL s = s := by
  induction s with
  | nil => rfl
  | cons c s ih =>
    unfold escN at h ih
    rw [List.countP_cons] at h
    have hc : escB c = false := by
      cases e : escB c with
      | false => rfl
      | true => rw [e] at h; simp at h
    have hs : List.countP escB s = 0 := by omega
    unfold escL at *
    rw [List.flatMap_cons, ih hs]
    unfold escC
    rw [hc]
    rfl

theorem escN_two (s : List UInt8) : escN s = Lib.countByte s 92 + Lib.countByte s 34 := by
  unfold escN
  induction s with
  | nil => rfl
  | cons c s ih =>
    rw [List.countP_cons, ih]
    simp only [Lib.countByte, List.count_cons, escB]
    by_cases h1 : c = 34
    · subst h1; simp; omega
    · by_cases h2 : c = 92
      · subst h2; simp; omega
      · simp [h1, h2]

theorem escL_take {s : List UInt8} {i : Nat} {c : UInt8} (h : s[i]? = some c) : escL (s.take (i + 1)) = escL (s.take i) ++ escC c := by
  unfold escL
  rw [List.take_add_one, h, List.flatMap_append]
  simp
theorem escN_take {s : List UInt8} {i : Nat} {c : UInt8} (h : s[i]? = some c) : escN (s.take (i + 1)) = escN (s.take i) + if escB c then 1 else 0 := by
  unfold escN
  rw [List.take_add_one, h, List.countP_append]
  cases e : escB c <;> simp [e]
theorem escN_le (s : List UInt8) : escN s ≤ s.length := List.countP_le_length
theorem escN_take_le (s : List UInt8) (i : Nat) : escN (s.take i) ≤ escN s := by
  unfold escN
  conv => rhs; rw [← List.take_append_drop i s, List.countP_append]
  omega
end Go.Proofs.YtfaoamdlknlgpaaGreat
