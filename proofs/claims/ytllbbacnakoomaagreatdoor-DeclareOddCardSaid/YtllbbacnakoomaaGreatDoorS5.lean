/- Texts of this seat's proofs, laid into one file. -/
import Derived.Test.YtllbbacnakoomaaGreatDoorS1
import Derived.Test.YtllbbacnakoomaaGreatDoorShelf
import Derived.Lib.Walk
import Derived.Lib.Builder
import Derived.Lib.AppendStr
import Derived.Lib.UnsafeStr
import Derived.Lib.MakeNoZero
import Derived.Lib.Slices
import Derived.Lib.FrozenHead2
import Derived.Lib.OthersKept
import Derived.Laws.Externs
import Derived.Laws.IdiomCopy
import Derived.Laws.BitsLemmas
import Derived.Test.YtllbbacnakoomaaGreatDoorS4
import Derived.Test.YtllbbacnakoomaaGreatDoorS3
set_option maxRecDepth 100000
set_option maxHeartbeats 16000000
set_option linter.unusedVariables false
namespace Go.Proofs.YtllbbacnakoomaaGreatDoor
open Go.RowKit
theorem Tryz.sizeBuilder : (Tryz.prog.info? 117).map (·.size) = some 2 := by kernel_rfl
theorem Tryz.liesBuilder : liesAt Tryz.prog Tryz.prog.depth 117 (2 / Tryz.prog.cellsOf 117) 0 117 1 = true := by kernel_rfl
theorem Tryz.infoByte : (Tryz.prog.info? 5).map (fun i => (i.zero, i.size, i.bytes)) = some (some (.int .u8 0), 1,1) := by kernel_rfl
theorem b_check_used (b : Nat) (w : World) (h0 : w.cell? ⟨b, 0, none⟩ = some (.pointer (some ⟨b, 0, none⟩))) :
 Calls Tryz.prog 161 #[.pointer (some ⟨b, 0, none⟩)] w fun e w' => e = .returned (.tuple #[]) ∧ w' = w := by
 obtain ⟨j, hj, _⟩ := Option.map_eq_some_iff.1 Tryz.sizeBuilder
 go_enter Tryz.func161, Tryz.ntmps161
 go_wp2
 rw [Lib.run_neq_ptr_same w _ Tryz.underlying114 hj]
 go_wp2
 go_end0
 exact ⟨rfl, rfl⟩
theorem b_check_fresh (b : Nat) (w : World) (h0 : w.cell? ⟨b, 0, none⟩ = some (.pointer none)) (hsh : w.shape? b = some (117,2)) (hfz : w.frozen? ⟨b, 0, none⟩ = false) :
 Calls Tryz.prog 161 #[.pointer (some ⟨b, 0, none⟩)] w fun e w' => e = .returned (.tuple #[]) ∧ w' = w.setCell ⟨b, 0, none⟩ (.pointer (some ⟨b, 0, none⟩)) := by
 obtain ⟨j, hj, hjs⟩ := Option.map_eq_some_iff.1 Tryz.sizeBuilder
 go_enter Tryz.func161, Tryz.ntmps161
 go_wp2
 rw [Lib.run_to_unsafe w ⟨b, 0, none⟩ Tryz.underlying114 Tryz.underlying226 hj (by rw [hjs]; decide) hsh (Nat.zero_lt_succ 1)]
 simp only [Result.andThen]
 rw [Oper.upon_value]
 go_wp2
 rw [run_callFunc_extern Tryz.func191 (by kernel_rfl) (by kernel_rfl) (by kernel_rfl) (e := Extern.AbiNoEscape.same) (by kernel_rfl)]
 rw [Lib.run_noEscape]
 simp only [Result.andThen]
 rw [Oper.upon_value]
 go_wp2
 rw [Lib.run_from_unsafe w ⟨b, 0, none⟩ Tryz.underlying226 Tryz.underlying114 hj hsh Tryz.liesBuilder]
 simp only [Result.andThen]
 rw [Oper.upon_value]
 go_wp2
 go_end0
 exact ⟨rfl, rfl⟩
theorem b_check_k (B b : Nat) (bs : List Value) (w : World) (h : Lib.IsBuilderF 117 5 B b bs w) :
 Calls Tryz.prog 161 #[.pointer (some ⟨b, 0, none⟩)] w fun e w' => e = .returned (.tuple #[]) ∧ (Lib.BuilderAtF 117 5 B b (.pointer (some ⟨b, 0, none⟩)) bs w' ∧ Below B w w' ∧ Lib.OthersKept 5 (some b) w w') := by
 rcases h with h | h
 ·refine (b_check_fresh b w h.cell0 h.shape h.frozen0).mono ?_
  rintro e w' ⟨rfl, rfl⟩
  exact ⟨rfl, h.used _, (Below.refl B w).setCell (p := ⟨b, 0, none⟩) h.1 _, (Lib.OthersKept.refl _ _ w).setCell ⟨b, 0, none⟩ rfl _⟩
 ·refine (b_check_used b w h.cell0).mono ?_
  rintro e w' ⟨rfl, rfl⟩
  exact ⟨rfl, h, Below.refl B _, Lib.OthersKept.refl _ _ _⟩
theorem b_byte_k (B b : Nat) (bs : List Value) (c : Int) (w : World) (h : Lib.IsBuilderF 117 5 B b bs w) (hlen : bs.length + 1 ≤ 140737488355328) (hBw : B ≤ w.heap.size) :
 Calls Tryz.prog 112 #[.pointer (some ⟨b, 0, none⟩), .int .u8 c] w fun e w' => e = .returned .nilIface ∧ (Lib.BuilderAtF 117 5 B b (.pointer (some ⟨b, 0, none⟩)) (bs ++ [.int .u8 c]) w' ∧ Below B w w' ∧ Lib.OthersKept 5 (some b) w w') := by
 obtain ⟨i0, hi, hz0, hz1, hz2⟩ := info_parts Tryz.infoByte
 go_enter Tryz.func112, Tryz.ntmps112
 go_wp2_with (go_at_call 161; refine (b_check_k B b bs _ h).mono ?_)
 rintro e w1 ⟨rfl, h1, hb1, hk1⟩
 obtain ⟨hB, v, hbk, hown, hne⟩ := h1
 have c0 : w1.cell? ⟨b, 0, none⟩ = some (.pointer (some ⟨b, 0, none⟩)) := by rw [Lib.cell_of_heap hbk]; rfl
 have c1 : w1.cell? ⟨b, 1, none⟩ = some v := by rw [Lib.cell_of_heap hbk]; rfl
 go_wp2_with (at_builtin; refine wpList_append_ownF _ rfl _ _ 115 rfl B 5 i0 (.int .u8 0) 1 1 Tryz.underlying115 hi hz0 hz1 hz2 rfl (by decide) _ _ _ rfl (hown.alloc _) ⟨w1.heap.size, 0, none⟩ 1 1 [.int .u8 c] rfl rfl ?c1 ?c2 ?c3 ?c4 ?c5 ?_)
 case c1 =>
  intro j u hj
  match j, hj with
  | 0, hj => simp at hj; subst hj; simp [Addr.add]
 case c2 => intro u hu; simp at hu; subst hu; rfl
 case c3 => unfold maxLen; omega
 case c4 => omega
 case c5 => have := hb1.size; simp; omega
 intro v' w2 hown' hgrow _
 have hlt : b < w1.heap.size := by
  rcases Nat.lt_or_ge b w1.heap.size with h' | h'
  ·exact h'
  ·simp [Array.getElem?_eq_none h'] at hbk
 have hb2 : w2.heap[b]? = some (.cells #[.pointer (some ⟨b, 0, none⟩), v] 117 (0,0)) := by
  rw [hgrow.block b (by simp; omega) (fun e => hne e.symm), Lib.alloc_old w1 _ b hlt]
  exact hbk
 have d0 : w2.cell? ⟨b, 0, none⟩ = some (.pointer (some ⟨b, 0, none⟩)) := by rw [Lib.cell_of_heap hb2]; rfl
 have d1 : w2.cell? ⟨b, 1, none⟩ = some v := by rw [Lib.cell_of_heap hb2]; rfl
 have f1 : w2.frozen? ⟨b, 1, none⟩ = false := Lib.frozen_of_heap hb2 1
 obtain ⟨g, cap, rfl⟩ : ∃ g cap, v' = .slice (some ⟨g, 0, none⟩) (bs.length + 1) cap := by
  rcases hown'.2 with ⟨_, h0⟩ | ⟨g, cap, cur, fz, hv, _⟩
  ·omega
  ·exact ⟨g, cap, hv⟩
 go_wp2
 go_ret
 refine ⟨rfl, ?_, ?_, ((hk1.alloc _).grown hgrow (Lib.ownsRowF_kind (hown.alloc _))).setCell ⟨b, 1, none⟩ rfl _⟩
 ·exact Lib.BuilderAtF.put (T := 117) (e := 5) hB hb2 (bs' := bs ++ [.int .u8 c]) (by simpa using hown') (by decide)
 ·exact ((hb1.alloc (by have := hb1.size; omega) _).grown hgrow (by have := hb1.size; simp; omega) (fun k hk => (hown.lt k hk).1)).setCell (p := ⟨b, 1, none⟩) hB _
theorem b_string_k (B b : Nat) (bs : List Value) (s : ByteArray) (w : World) (h : Lib.IsBuilderF 117 5 B b bs w) (hlen : bs.length + s.size ≤ 140737488355328) (hBw : B ≤ w.heap.size) :
 Calls Tryz.prog 111 #[.pointer (some ⟨b, 0, none⟩), .string s] w fun e w' => e = .returned (.tuple #[.int .i64 s.size, .nilIface]) ∧ (Lib.BuilderAtF 117 5 B b (.pointer (some ⟨b, 0, none⟩)) (bs ++ Lib.strCells s) w' ∧ Below B w w' ∧ Lib.OthersKept 5 (some b) w w') := by
 obtain ⟨i0, hi, hz0, hz1, hz2⟩ := info_parts Tryz.infoByte
 go_enter Tryz.func111, Tryz.ntmps111
 go_wp2_with (go_at_call 161; refine (b_check_k B b bs _ h).mono ?_)
 rintro e w1 ⟨rfl, h1, hb1, hk1⟩
 obtain ⟨hB, v, hbk, hown, hne⟩ := h1
 have c0 : w1.cell? ⟨b, 0, none⟩ = some (.pointer (some ⟨b, 0, none⟩)) := by rw [Lib.cell_of_heap hbk]; rfl
 have c1 : w1.cell? ⟨b, 1, none⟩ = some v := by rw [Lib.cell_of_heap hbk]; rfl
 go_wp2_with (at_builtin; refine Lib.wpList_append_own_stringF _ rfl _ _ 115 9 rfl B 5 i0 Tryz.underlying115 Tryz.underlying9 hi hz0 hz1 hz2 _ _ _ rfl hown s rfl ?c3 ?c4 ?c5 ?_)
 case c3 => unfold maxLen; omega
 case c4 => omega
 case c5 => have := hb1.size; omega
 intro v' w2 hown' hgrow _
 have hlt : b < w1.heap.size := by
  rcases Nat.lt_or_ge b w1.heap.size with h' | h'
  ·exact h'
  ·simp [Array.getElem?_eq_none h'] at hbk
 have hb2 : w2.heap[b]? = some (.cells #[.pointer (some ⟨b, 0, none⟩), v] 117 (0,0)) := by
  rw [hgrow.block b hlt (fun e => hne e.symm)]
  exact hbk
 have d0 : w2.cell? ⟨b, 0, none⟩ = some (.pointer (some ⟨b, 0, none⟩)) := by rw [Lib.cell_of_heap hb2]; rfl
 have d1 : w2.cell? ⟨b, 1, none⟩ = some v := by rw [Lib.cell_of_heap hb2]; rfl
 have f1 : w2.frozen? ⟨b, 1, none⟩ = false := Lib.frozen_of_heap hb2 1
 obtain ⟨ao, n', cap, rfl⟩ : ∃ ao n' cap, v' = .slice ao n' cap := by
  rcases hown'.2 with ⟨hv, _⟩ | ⟨g, cap, cur, fz, hv, _⟩
  ·exact ⟨_, _, _, hv⟩
  ·exact ⟨_, _, _, hv⟩
 go_wp2
 go_ret2
 refine ⟨rfl, ?_, ?_, (hk1.grown hgrow (Lib.ownsRowF_kind hown)).setCell ⟨b, 1, none⟩ rfl _⟩
 ·exact Lib.BuilderAtF.put (T := 117) (e := 5) hB hb2 (bs' := bs ++ Lib.strCells s) (by simpa [Lib.strCells_length] using hown') (by decide)
 ·exact (hb1.grown hgrow (by have := hb1.size; omega) (fun k hk => (hown.lt k hk).1)).setCell (p := ⟨b, 1, none⟩) hB _
def Bld (w : World) (B b : Nat) (l : List UInt8) : Prop := Lib.IsBuilderF 117 5 B b (Lib.byteCells l) w
structure Kb (B b : Nat) (w w' : World) : Prop where
 below : Below B w w'
 others : Lib.OthersKept 5 (some b) w w'
theorem Kb.refl (B b : Nat) (w : World) : Kb B b w w := ⟨Below.refl _ _, Lib.OthersKept.refl _ _ _⟩
theorem Kb.trans {B b : Nat} {w w1 w2 : World} (h : Kb B b w w1) (k : Kb B b w1 w2) : Kb B b w w2 := ⟨h.below.trans k.below, h.others.trans k.others⟩
theorem Kb.alloc {B b : Nat} {w w1 : World} (h : Kb B b w w1) (hB : B ≤ w1.heap.size) (o : Obj) : Kb B b w (w1.alloc o) := ⟨h.below.alloc hB o, h.others.alloc o⟩
theorem Kb.cell {B b : Nat} {w w' : World} (h : Kb B b w w') {p : Addr} {v : Value} (hc : w.cell? p = some v) (hb : p.block ≠ b) (ht : ∀ c fz, w.heap[p.block]? ≠ some (.cells c 5 fz)) : w'.cell? p = some v := by
 have hlt := cell_lt hc
 obtain ⟨o, ho⟩ : ∃ o, w.heap[p.block]? = some o := ⟨w.heap[p.block], by simp [hlt]⟩
 have := h.others p.block o ho (fun e => hb (Option.some.inj e)) (fun c fz e => ht c fz (by rw [ho, e]))
 rw [← hc]
 exact World.cell?_of_block (this.trans ho.symm)
theorem own_kb {w w' : World} {B e sz : Nat} {v : Value} {css : List (List Value)} {B1 B2 b : Nat} {l : List UInt8} (h : Own w B e sz v css) (hb : Bld w B1 b l) (he : e ≠ 5) (he2 : e ≠ 117) (hk : Kb B2 b w w') : Own w' B e sz v css := by
 refine ⟨⟨h.1.1, ?_⟩, h.2⟩
 rcases h.1.2 with h0 | ⟨g, cap, cur, hv, hg1, hg, r⟩
 ·exact .inl h0
 ·refine .inr ⟨g, cap, cur, hv, hg1, hk.others g _ hg ?_ ?_, r⟩
  ·intro e1
   obtain rfl := Option.some.inj e1
   obtain ⟨p, v', hbk⟩ : ∃ p v', w.heap[g]? = some (.cells #[p, v'] 117 (0,0)) := by
    rcases hb with ⟨_, v', h1, _⟩ | ⟨_, v', h1, _⟩
    ·exact ⟨_, v', h1⟩
    ·exact ⟨_, v', h1⟩
   rw [hg] at hbk
   simp only [Option.some.injEq, Obj.cells.injEq] at hbk
   exact he2 hbk.2.1
  ·intro c fz e1
   injection e1 with _ e2 _
   exact he e2
theorem byteCells_snoc (l : List UInt8) (c : UInt8) : Lib.byteCells l ++ [.int .u8 c.toNat] = Lib.byteCells (l ++ [c]) := by simp [Lib.byteCells]
theorem bld_new (w : World) : Bld (w.alloc (.cells #[.pointer none, .slice none 0 0] 117)) w.heap.size w.heap.size [] :=
 .inl ⟨Nat.le_refl _, .slice none 0 0, heap_alloc_new w _, ⟨rfl, .inl ⟨rfl, rfl⟩⟩, by simp [Value.ownBlock]⟩
theorem Bld.alloc {w : World} {B b : Nat} {l : List UInt8} (h : Bld w B b l) (o : Obj) : Bld (w.alloc o) B b l := Lib.IsBuilderF.alloc h o
theorem Bld.below {w w' : World} {B b : Nat} {l : List UInt8} (h : Bld w B b l) (hb : Below w.heap.size w w') : Bld w' B b l := by
 have key : ∀ p, Lib.BuilderAtF 117 5 B b p (Lib.byteCells l) w → Lib.BuilderAtF 117 5 B b p (Lib.byteCells l) w' := by
  rintro p ⟨hB, v, hbk, hown, hne⟩
  refine ⟨hB, v, (hb.block b (Array.getElem?_eq_some_iff.1 hbk).1).trans hbk, ⟨hown.1, ?_⟩, hne⟩
  rcases hown.2 with h0 | ⟨g, cap, cur, fz, hv, hg1, hg, r⟩
  ·exact .inl h0
  ·exact .inr ⟨g, cap, cur, fz, hv, hg1, (hb.block g (Array.getElem?_eq_some_iff.1 hg).1).trans hg, r⟩
 exact h.elim (fun x => .inl (key _ x)) (fun x => .inr (key _ x))
theorem bld_byte {w : World} {B b : Nat} {l : List UInt8} (h : Bld w B b l) (hl : l.length ≤ 1000000000) (hB : B ≤ w.heap.size) (c : UInt8) :
 Calls Tryz.prog 112 #[.pointer (some ⟨b, 0, none⟩), .int .u8 c.toNat] w fun e w' => e = .returned .nilIface ∧ Bld w' B b (l ++ [c]) ∧ Kb B b w w' := by
 refine (b_byte_k B b _ c.toNat w h (by rw [Lib.byteCells_length]; omega) hB).mono ?_
 rintro e w' ⟨rfl, h1, h2, h3⟩
 exact ⟨rfl, .inr (by rw [← byteCells_snoc]; exact h1), h2, h3⟩
theorem strCells_eq (s : ByteArray) : Lib.strCells s = Lib.byteCells s.data.toList := by
 simp [Lib.strCells, Lib.byteCells]
theorem bld_str {w : World} {B b : Nat} {l : List UInt8} (h : Bld w B b l) (hl : l.length ≤ 1000000000) (s : ByteArray) (hs : s.size ≤ 1000000000) (hB : B ≤ w.heap.size) :
 Calls Tryz.prog 111 #[.pointer (some ⟨b, 0, none⟩), .string s] w fun e w' => e = .returned (.tuple #[.int .i64 s.size, .nilIface]) ∧ Bld w' B b (l ++ s.data.toList) ∧ Kb B b w w' := by
 refine (b_string_k B b _ s w h (by rw [Lib.byteCells_length]; omega) hB).mono ?_
 rintro e w' ⟨rfl, h1, h2, h3⟩
 refine ⟨rfl, .inr ?_, h2, h3⟩
 rw [strCells_eq] at h1
 simpa [Lib.byteCells] using h1
theorem bld_done {w : World} {B b : Nat} {l : List UInt8} (h : Bld w B b l) (hB : B ≤ w.heap.size) :
 Calls Tryz.prog 63 #[.pointer (some ⟨b, 0, none⟩)] w fun e w' => e = .returned (.string ⟨l.toArray⟩) ∧ Bld w' B b l ∧ Kb B b w w' := by
 refine (Tryz.Builder_String_any_k B b l w h hB).mono ?_
 rintro e w' ⟨rfl, h1, h2, h3⟩
 exact ⟨rfl, h1, h2, h3⟩
end Go.Proofs.YtllbbacnakoomaaGreatDoor
namespace Go.Proofs.YtllbbacnakoomaaGreatDoor
open Go.RowKit
theorem map_len {l : List Rn} : (l.map Rn.v).length = l.length := List.length_map ..
end Go.Proofs.YtllbbacnakoomaaGreatDoor
namespace Go.Proofs.YtllbbacnakoomaaGreatDoor
open Go.RowKit
theorem E28 : EI Tryz.prog 148 151 (.agg #[.int .u8 0, .int .i64 0, .int .i64 0]) 3 24 := ⟨Tryz.underlying148, by kernel_rfl, rfl, by decide⟩
theorem E36 : EI Tryz.prog 115 5 (.int .u8 0) 1 1 := ⟨Tryz.underlying115, by kernel_rfl, rfl, by decide⟩
theorem oneAt_tri {s : ByteArray} {k : Nat} (hk : k + 2 < s.size) (h1 : ((s[k]'(by omega)).toNat : Int) = 63) (h2 : ((s[k + 1]'(by omega)).toNat : Int) = 63) (ht : (tri (s[k + 2]'hk)).isSome = true) : oneAt s.data.toList k = ⟨(tri (s[k + 2]'hk)).getD 0, k, k + 3⟩ := by
 refine oneAt_hit hk ((hp2_iff _).2 ⟨?_, ?_⟩) ht
 ·rw [List.getElem?_drop, Nat.add_zero, ba_at s k (by omega), u8_of (n := 63) (by decide) h1]; rfl
 ·rw [List.getElem?_drop, ba_at s (k + 1) (by omega), u8_of (n := 63) (by decide) h2]; rfl
theorem oneAt_plain {s : ByteArray} {k : Nat} (hk : k < s.size) (h : ∀ hk : k + 2 < s.size, ((s[k]'(by omega)).toNat : Int) = 63 → ((s[k + 1]'(by omega)).toNat : Int) = 63 → (tri (s[k + 2]'hk)).isSome = false) : oneAt s.data.toList k = ⟨s[k]'hk, k, k + 1⟩ := by
 cases hp : hp2 (s.data.toList.drop k)
 ·exact oneAt_no hk hp
 ·by_cases h2 : k + 2 < s.size
  ·have h3 := (hp2_iff _).1 hp
   rw [List.getElem?_drop, List.getElem?_drop, Nat.add_zero, ba_at s k (by omega), ba_at s (k + 1) (by omega)] at h3
   exact oneAt_miss h2 hp (h h2 (by rw [Option.some.inj h3.1]; rfl) (by rw [Option.some.inj h3.2]; rfl))
  ·exact oneAt_end hk h2 hp
theorem plain_keep {L : List UInt8} {k : Nat} {acc : List Rn} (hk : k < L.length) {c : UInt8} {f t : Nat} (hr : oneAt L k = ⟨c, f, t⟩) (h : acc ++ plainL k (L.drop k) = plainL 0 L) : Hid ((acc ++ [⟨c, f, t⟩]) ++ plainL t (L.drop t) = plainL 0 L) := by
 show _ = _
 rw [← h, plainL_step hk, hr]; simp
theorem plain_any (s : ByteArray) (hs : s.size ≤ 1000000) (w : World) :
 Calls Tryz.prog 140 #[.string s] w fun e w' => ∃ v, e = .returned v ∧ Own w' w.heap.size 151 3 v ((plainL 0 s.data.toList).map Rn.v) ∧ Below w.heap.size w w' := by
 go_enter Tryz.func140, Tryz.ntmps140
 go_wp2
 go_loopw [3,4] (fun v i wr => ∃ (k : Nat) (acc : List Rn), k ≤ s.size ∧ i = .int .i64 k ∧ Own wr w.heap.size 151 3 v (acc.map Rn.v) ∧ acc.length ≤ k ∧ Hid (acc ++ plainL k (s.data.toList.drop k) = plainL 0 s.data.toList) ∧ Below w.heap.size w wr) (fun _ i _ => s.size - (intOf i).toNat)
 case atStart => exact ⟨0, [], Nat.zero_le _, rfl, Own.nil _ _ _ _, Nat.le_refl _, by simp [Hid], Below.refl _ _⟩
 case round =>
  obtain ⟨k, acc, hk, rfl, hown, hacc, hst, hb⟩ := hrel
  by_cases hlt : k < s.size
  ·have hL : k < s.data.toList.length := by rw [← Lib.size_eq]; exact hlt
   have HL := Hd hL; clear hL
   go_wp2_with (first
    | (go_at_call 183; refine (rtri_any _ _).mono ?_; rintro e w' ⟨rfl, rfl⟩)
    | (at_builtin; go_must (refine wpList_append1 E28 rfl rfl hown rfl rfl (by simp) rfl (by simp [Value.oneCell']) (by simp; omega) (by decide) hb.size ?_); intro v2 w2 hown2 hg2))
   ·go_roundw
    case rel => exact ⟨k + 3, acc ++ [⟨(tri (s[k + 2])).getD 0, k, k + 3⟩], by omega, by go_num, by rw [List.map_append]; exact hown2.last (by simp [Rn.v]), by simp; omega, plain_keep HL.out (oneAt_tri (by omega) (by assumption) (by apply u8_beq; assumption) (by assumption)) hst.out, bapp hb hown hg2 hb.size⟩
    case measure => simp [intOf]; omega
   all_goals
    refine ⟨⟨k + 1, acc ++ [⟨s[k], k, k + 1⟩], by omega, by go_num, by rw [List.map_append]; exact hown2.last (by simp [Rn.v, *]), by simp; omega, plain_keep HL.out (oneAt_plain hlt ?_) hst.out, bapp hb hown hg2 hb.size⟩, by simp [intOf]; omega⟩
    intro h1 h2 h3
    first
     | assumption
     | (exfalso; omega)
     | (exfalso; exact u8_bne (by assumption) h3)
  ·go_wp2
   go_ret
   have h := hst.out
   rw [plainL_nil (by rw [← Lib.size_eq]; omega), List.append_nil] at h
   rw [← h]
   exact ⟨_, rfl, hown, hb⟩
theorem spliced_nil {R : List Rn} {k : Nat} (h : R.length ≤ k) : splicedL (R.drop k) = [] := by rw [List.drop_eq_nil_of_le h]; rfl
theorem spliced_skip {R : List Rn} {k : Nat} {r r2 : Rn} {acc L : List Rn} (hr : R[k]? = some r) (hr2 : R[k + 1]? = some r2) (h1 : (r.c.toNat : Int) = 92) (h2 : (r2.c.toNat : Int) = 10) (h : acc ++ splicedL (R.drop k) = L) : Hid (acc ++ splicedL (R.drop (k + 2)) = L) := by
 obtain ⟨hk, e1⟩ := List.getElem?_eq_some_iff.1 hr
 obtain ⟨hk2, e2⟩ := List.getElem?_eq_some_iff.1 hr2
 show _ = _
 rw [← h, List.drop_eq_getElem_cons hk, List.drop_eq_getElem_cons hk2, e1, e2, splicedL, if_pos ⟨u8_of (n := 92) (by decide) h1, u8_of (n := 10) (by decide) h2⟩]
theorem spliced_keep {R : List Rn} {k : Nat} {r : Rn} {acc L : List Rn} (hr : R[k]? = some r) (hno : ∀ r2, R[k + 1]? = some r2 → (r.c.toNat : Int) = 92 → (r2.c.toNat : Int) = 10 → False) (h : acc ++ splicedL (R.drop k) = L) : Hid ((acc ++ [r]) ++ splicedL (R.drop (k + 1)) = L) := by
 obtain ⟨hk, e1⟩ := List.getElem?_eq_some_iff.1 hr
 show _ = _
 rw [← h, List.drop_eq_getElem_cons hk, e1]
 by_cases hk2 : k + 1 < R.length
 ·rw [List.drop_eq_getElem_cons hk2, splicedL, if_neg]
  ·simp
  ·rintro ⟨h1, h2⟩
   exact hno _ (List.getElem?_eq_getElem hk2) (by rw [h1]; rfl) (by rw [h2]; rfl)
 ·rw [List.drop_eq_nil_of_le (by omega)]; simp [splicedL]
theorem spliced_any (R : List Rn) (ao : Option Addr) (cap : Nat) (hn : R.length ≤ 1000000) (w : World) (hrow : Row w 3 ao (R.map Rn.v)) :
 Calls Tryz.prog 139 #[.slice ao R.length cap] w fun e w' => ∃ v, e = .returned v ∧ Own w' w.heap.size 151 3 v ((splicedL R).map Rn.v) ∧ Below w.heap.size w w' := by
 go_enter Tryz.func139, Tryz.ntmps139
 go_wp2
 go_loopw [3,4] (fun v i wr => ∃ (k : Nat) (acc : List Rn), k ≤ R.length ∧ i = .int .i64 k ∧ Own wr w.heap.size 151 3 v (acc.map Rn.v) ∧ acc.length ≤ k ∧ Hid (acc ++ splicedL (R.drop k) = splicedL R) ∧ Below w.heap.size w wr) (fun _ i _ => R.length - (intOf i).toNat)
 case atStart => exact ⟨0, [], Nat.zero_le _, rfl, Own.nil _ _ _ _, Nat.le_refl _, by simp [Hid], Below.refl _ _⟩
 case round =>
  obtain ⟨k, acc, hk, rfl, hown, hacc, hst, hb⟩ := hrel
  by_cases hlt : k < R.length
  ·obtain ⟨r, hr⟩ : ∃ r, R[k]? = some r := ⟨R[k], by simp [hlt]⟩
   obtain ⟨b, o, rfl, hat⟩ := (hrow.below hb) (by intro h; simp at h; subst h; simp at hlt)
   have hi : (R.map Rn.v)[k]? = some r.v := by simp [hr]
   have c0 := hat.cell hi (j := 0) (u := .int .u8 r.c.toNat) rfl
   have c1 := hat.cell hi (j := 1) (u := .int .i64 r.f) rfl
   have c2 := hat.cell hi (j := 2) (u := .int .i64 r.t) rfl
   simp only [Nat.add_zero] at c0
   have HR := Hd hr
   clear hr hi
   by_cases h2 : k + 1 < R.length
   ·obtain ⟨r2, hr2⟩ : ∃ r2, R[k + 1]? = some r2 := ⟨R[k + 1], by simp [h2]⟩
    have d0 := hat.cell (i := k + 1) (cs := r2.v) (by simp [hr2]) (j := 0) (u := .int .u8 r2.c.toNat) rfl
    simp only [Nat.add_zero] at d0
    have HR2 := Hd hr2
    clear hr2 hat
    go_wp2_with (at_builtin; go_must (refine wpList_append1 E28 rfl rfl hown rfl rfl (by simp) rfl (by simp [Value.oneCell']) (by simp; omega) (by decide) hb.size ?_); intro v2 w2 hown2 hg2)
    all_goals first
     | (exfalso; omega)
     | (refine ⟨⟨k + 2, acc, by omega, by go_num, hown, by omega, spliced_skip HR.out HR2.out (by assumption) (u8_beq (by assumption)) hst.out, hb⟩, by simp [intOf]; omega⟩; done)
     | (refine ⟨⟨k + 1, acc ++ [r], by omega, by go_num, by rw [List.map_append]; exact hown2.last (by simp [Rn.v, *]), by simp; omega, spliced_keep HR.out ?_ hst.out, bapp hb hown hg2 hb.size⟩, by simp [intOf]; omega⟩
        intro r3 e3 h3 h4
        rw [HR2.out] at e3
        obtain rfl := Option.some.inj e3
        first
         | contradiction
         | exact u8_bne (by assumption) h4)
   ·clear hat
    go_wp2_with (at_builtin; go_must (refine wpList_append1 E28 rfl rfl hown rfl rfl (by simp) rfl (by simp [Value.oneCell']) (by simp; omega) (by decide) hb.size ?_); intro v2 w2 hown2 hg2)
    all_goals first
     | (exfalso; omega)
     | (refine ⟨⟨k + 1, acc ++ [r], by omega, by go_num, by rw [List.map_append]; exact hown2.last (by simp [Rn.v, *]), by simp; omega, spliced_keep HR.out ?_ hst.out, bapp hb hown hg2 hb.size⟩, by simp [intOf]; omega⟩
        intro r3 e3 h3 h4
        rw [List.getElem?_eq_none (by omega)] at e3
        cases e3)
  ·go_wp2
   go_ret
   have h := hst.out
   rw [spliced_nil (by omega), List.append_nil] at h
   rw [← h]
   exact ⟨_, rfl, hown, hb⟩
end Go.Proofs.YtllbbacnakoomaaGreatDoor
namespace Go.Proofs.YtllbbacnakoomaaGreatDoor
open Go.RowKit
theorem rchars_any (s : ByteArray) (hs : s.size ≤ 1000000) (w : World) :
 Calls Tryz.prog 86 #[.string s] w fun e w' => ∃ v, e = .returned v ∧ Own w' w.heap.size 151 3 v ((charsL s.data.toList).map Rn.v) ∧ Below w.heap.size w w' := by
 have hl : (standL s.data.toList).length ≤ s.size := by rw [Lib.size_eq]; exact standL_len _
 have hpl : (plainL 0 s.data.toList).length ≤ s.size := by rw [Lib.size_eq]; exact plainL_len _ _ _ (Nat.le_refl _)
 have key : Calls Tryz.prog 86 #[.string s] w fun e w' => ∃ v, e = .returned v ∧ Own w' w.heap.size 151 3 v ((charsL s.data.toList).map Rn.v) ∧ Below w.heap.size w w' := by
  go_enter Tryz.func86, Tryz.ntmps86
  go_wp2_with fail
  refine (plain_any s hs w).mono ?_
  rintro e w1 ⟨v1, rfl, hown1, hb1⟩
  obtain ⟨ao1, cap1, rfl, _, _, hrow1, _⟩ := hown1.rown (n := (plainL 0 s.data.toList).length) (by simp)
  go_wp2_with fail
  refine (spliced_any _ _ _ (by omega) _ hrow1).mono ?_
  rintro e w2 ⟨v, rfl, hown, hb2⟩
  have hown := hown.mono (B' := w.heap.size) hb1.size
  have hb : Below w.heap.size w w2 := bstep hb1 hb2 hb1.size
  clear hown1 hrow1 hb1 hb2
  change Own w2 w.heap.size 151 3 v ((standL s.data.toList).map Rn.v) at hown
  by_cases h0 : s.size = 0
  ·have h00 : ¬ ((0 : Int) < (s.size : Int)) := by omega
   go_wp2
   go_ret
   refine ⟨v, rfl, ?_, hb⟩
   have : s.data.toList = [] := by rw [← List.length_eq_zero_iff, ← Lib.size_eq]; exact h0
   unfold charsL
   rw [if_neg (by simp [this])]
   exact hown
  ·have h00 : 0 < s.size := by omega
   have hne : s.data.toList ≠ [] := by rw [ne_eq, ← List.length_eq_zero_iff, ← Lib.size_eq]; exact h0
   have HN := Hd hne; clear hne h0
   rcases List.eq_nil_or_concat (standL s.data.toList) with hn | ⟨init, r, hn⟩
   ·rw [hn] at hown
    have H := Hd hn; clear hn hl
    obtain ⟨ao, cap, rfl, _, _, _, _⟩ := hown.rown rfl
    go_wp2_with (at_builtin; go_must (refine wpList_append1 E28 rfl rfl hown rfl rfl (by simp) rfl (by simp [Value.oneCell']) (by simp) (by decide) hb.size ?_); intro v2 w2 hown2 hg2)
    go_ret
    refine ⟨v2, rfl, ?_, bapp hb hown hg2 hb.size⟩
    unfold charsL
    rw [if_pos ⟨HN.out, .inl H.out⟩, H.out]
    exact hown2.last (by simp [Rn.v])
   ·rw [List.concat_eq_append] at hn
    have hil : init.length + 1 ≤ s.size := by rw [hn] at hl; simpa using hl
    rw [hn] at hown
    have H := Hd hn; clear hn hl
    obtain ⟨ao, cap, rfl, _, _, hrow, _⟩ := hown.rown (n := init.length + 1) (by simp)
    obtain ⟨b, o, rfl, hat⟩ := hrow (by simp)
    have hc := hat.cell (i := init.length) (cs := r.v) (by simp) (j := 0) (u := .int .u8 r.c.toNat) (by simp [Rn.v])
    have hz : ((init.length : Int) + 1 == 0) = false := by simp; omega
    clear hrow hat
    simp only [Nat.add_zero] at hc
    by_cases h10 : (r.c.toNat : Int) = 10
    ·have h10' : ((10 : Int) == 10) = true := rfl
     rw [h10] at hc
     go_wp2
     go_ret
     refine ⟨_, rfl, ?_, hb⟩
     have hr : r.c = 10 := u8_of (n := 10) (by decide) h10
     unfold charsL
     rw [if_neg (by rw [H.out]; simp [hr]), H.out]
     exact hown
    ·have h10' : ((r.c.toNat : Int) == 10) = false := by simpa using h10
     go_wp2_with (at_builtin; go_must (refine wpList_append1 E28 rfl rfl hown rfl rfl (by simp) rfl (by simp [Value.oneCell']) (by simp; omega) (by decide) hb.size ?_); intro v2 w2 hown2 hg2)
     go_ret
     refine ⟨v2, rfl, ?_, bapp hb hown hg2 hb.size⟩
     have hr : r.c ≠ 10 := by intro e; rw [e] at h10; exact h10 rfl
     unfold charsL
     rw [if_pos ⟨HN.out, .inr (by rw [H.out]; simp [hr])⟩, H.out, List.map_append]
     exact hown2.last (by simp [Rn.v])
 exact key
end Go.Proofs.YtllbbacnakoomaaGreatDoor
namespace Go.Proofs.YtllbbacnakoomaaGreatDoor
open Go.RowKit
set_option linter.unusedVariables false
def cs (R : List Rn) : List UInt8 := R.map (·.c)
theorem cs_len (R : List Rn) : (cs R).length = R.length := List.length_map ..
theorem cs_at {R : List Rn} {i : Nat} {r : Rn} (h : R[i]? = some r) : chAt (cs R) i = r.c := chAt_lt (by simp [cs, h])
theorem rat_any (R : List Rn) (ao : Option Addr) (cap i : Nat) (hn : R.length ≤ 2000000) (w : World) (hrow : Row w 3 ao (R.map Rn.v)) :
 Calls Tryz.prog 141 #[.slice ao R.length cap, .int .i64 i] w fun e w' => e = .returned (.int .u8 (chAt (cs R) i).toNat) ∧ w' = w := by
 by_cases hi : i < R.length
 ·obtain ⟨r, hr⟩ : ∃ r, R[i]? = some r := ⟨R[i], by simp [hi]⟩
  rw [cs_at hr]
  obtain ⟨b, o, rfl, hat⟩ := hrow (by intro h; simp at h; subst h; simp at hi)
  have c0 := hat.cell (i := i) (cs := r.v) (by simp [hr]) (j := 0) (u := .int .u8 r.c.toNat) rfl
  simp only [Nat.add_zero] at c0
  clear hr hat hrow
  go_enter Tryz.func141, Tryz.ntmps141
  go_wp2
  go_ret
  exact ⟨rfl, rfl⟩
 ·rw [chAt_ge (by rw [cs_len]; omega)]
  go_enter Tryz.func141, Tryz.ntmps141
  go_wp2
  go_ret
  exact ⟨rfl, rfl⟩
theorem letterB_int (c : UInt8) : letterB c = decide ((97 : Int) ≤ c.toNat ∧ (c.toNat : Int) ≤ 122 ∨ (65 : Int) ≤ c.toNat ∧ (c.toNat : Int) ≤ 90 ∨ (c.toNat : Int) = 95) := by
 unfold letterB
 congr 1
 apply propext
 simp only [UInt8.le_iff_toNat_le, ← UInt8.toNat_inj]
 simp
 omega
theorem digitB_int (c : UInt8) : digitB c = decide ((48 : Int) ≤ c.toNat ∧ (c.toNat : Int) ≤ 57) := by
 unfold digitB
 congr 1
 apply propext
 simp only [UInt8.le_iff_toNat_le]
 simp
 omega
theorem whiteB_int (c : UInt8) : whiteB c = decide ((c.toNat : Int) = 32 ∨ (c.toNat : Int) = 9 ∨ (11 : Int) ≤ c.toNat ∧ (c.toNat : Int) ≤ 13) := by
 unfold whiteB
 congr 1
 apply propext
 simp only [UInt8.le_iff_toNat_le, ← UInt8.toNat_inj]
 simp
 omega
theorem rLetter_any (c : UInt8) (w : World) : Calls Tryz.prog 144 #[.int .u8 c.toNat] w fun e w' => e = .returned (.bool (letterB c)) ∧ w' = w := by
 go_enter Tryz.func144, Tryz.ntmps144
 go_wp2
 all_goals
  go_ret
  refine ⟨?_, rfl⟩
  rw [letterB_int]
  refine congrArg (fun b => Ending.returned (Value.bool b)) ?_
  rw [Bool.eq_iff_iff]
  simp only [decide_eq_true_eq, beq_iff_eq]
  first | omega | (simp; omega)
theorem rDigit_any (c : UInt8) (w : World) : Calls Tryz.prog 145 #[.int .u8 c.toNat] w fun e w' => e = .returned (.bool (digitB c)) ∧ w' = w := by
 go_enter Tryz.func145, Tryz.ntmps145
 go_wp2
 all_goals
  go_ret
  refine ⟨?_, rfl⟩
  rw [digitB_int]
  refine congrArg (fun b => Ending.returned (Value.bool b)) ?_
  rw [Bool.eq_iff_iff]
  simp only [decide_eq_true_eq]
  first | omega | (simp; omega)
theorem rWhite_any (c : UInt8) (w : World) : Calls Tryz.prog 87 #[.int .u8 c.toNat] w fun e w' => e = .returned (.bool (whiteB c)) ∧ w' = w := by
 go_enter Tryz.func87, Tryz.ntmps87
 go_wp2
 all_goals
  go_ret
  refine ⟨?_, rfl⟩
  rw [whiteB_int]
  refine congrArg (fun b => Ending.returned (Value.bool b)) ?_
  rw [Bool.eq_iff_iff]
  simp only [decide_eq_true_eq]
  first | omega | (simp; omega)
theorem u8eq (a b : UInt8) : a = b ↔ (a.toNat : Int) = (b.toNat : Int) := by
 rw [← UInt8.toNat_inj]; omega
theorem lettersI (A : List UInt8) (i : Nat) : lettersL A i =
 if ((chAt A i).toNat : Int) = 34 ∨ ((chAt A i).toNat : Int) = 39 then 0
 else if ((chAt A i).toNat : Int) = 117 ∧ ((chAt A (i + 1)).toNat : Int) = 56 ∧ ((chAt A (i + 2)).toNat : Int) = 34 then 2
 else if (((chAt A i).toNat : Int) = 76 ∨ ((chAt A i).toNat : Int) = 117 ∨ ((chAt A i).toNat : Int) = 85) ∧ (((chAt A (i + 1)).toNat : Int) = 34 ∨ ((chAt A (i + 1)).toNat : Int) = 39) then 1
 else -1 := by
 unfold lettersL
 simp only [u8eq]
 rfl
theorem rletters_any (R : List Rn) (ao : Option Addr) (cap i : Nat) (hn : R.length ≤ 2000000) (hi : i ≤ 2000000) (w : World) (hrow : Row w 3 ao (R.map Rn.v)) :
 Calls Tryz.prog 142 #[.slice ao R.length cap, .int .i64 i] w fun e w' => e = .returned (.int .i64 (lettersL (cs R) i)) ∧ w' = w := by
 have e1 : ((i : Int) + 1) = ((i + 1 : Nat) : Int) := by omega
 have e2 : ((i : Int) + 2) = ((i + 2 : Nat) : Int) := by omega
 have H0 := Hd (rat_any R ao cap i hn w hrow)
 have H1 := Hd (rat_any R ao cap (i + 1) hn w hrow)
 have H2 := Hd (rat_any R ao cap (i + 2) hn w hrow)
 rw [← e1] at H1
 rw [← e2] at H2
 have HL := Hd (lettersI (cs R) i)
 obtain ⟨x, hx⟩ : ∃ x : Int, x = ((chAt (cs R) i).toNat : Int) := ⟨_, rfl⟩
 obtain ⟨y, hy⟩ : ∃ y : Int, y = ((chAt (cs R) (i + 1)).toNat : Int) := ⟨_, rfl⟩
 obtain ⟨z, hz⟩ : ∃ z : Int, z = ((chAt (cs R) (i + 2)).toNat : Int) := ⟨_, rfl⟩
 rw [← hx] at H0 HL
 rw [← hy] at H1 HL
 rw [← hz] at H2 HL
 clear hx hy hz e1 e2 hrow
 by_cases hx34 : x = 34
 ·subst hx34
  have HV : Hid (lettersL (cs R) i = (0 : Int)) := Hd (HL.out.trans (by simp))
  clear HL
  go_enter Tryz.func142, Tryz.ntmps142
  go_wp2_with fail
  refine H0.out.mono ?_
  rintro e w' ⟨rfl, rfl⟩
  go_wp2
  go_ret
  exact ⟨congrArg (fun z => Ending.returned (Value.int .i64 z)) HV.out.symm, rfl⟩
 ·have hx34' : (x == 34) = false := by simpa using hx34
  by_cases hx39 : x = 39
  ·subst hx39
   have HV : Hid (lettersL (cs R) i = (0 : Int)) := Hd (HL.out.trans (by simp [hx34]))
   clear HL
   go_enter Tryz.func142, Tryz.ntmps142
   go_wp2_with fail
   refine H0.out.mono ?_
   rintro e w' ⟨rfl, rfl⟩
   go_wp2
   go_ret
   exact ⟨congrArg (fun z => Ending.returned (Value.int .i64 z)) HV.out.symm, rfl⟩
  ·have hx39' : (x == 39) = false := by simpa using hx39
   by_cases hx117 : x = 117
   ·subst hx117
    by_cases hy56 : y = 56
    ·subst hy56
     by_cases hz34 : z = 34
     ·subst hz34
      have HV : Hid (lettersL (cs R) i = (2 : Int)) := Hd (HL.out.trans (by simp [hx34, hx39]))
      clear HL
      go_enter Tryz.func142, Tryz.ntmps142
      go_wp2_with fail
      refine H0.out.mono ?_
      rintro e w' ⟨rfl, rfl⟩
      go_wp2_with fail
      refine H1.out.mono ?_
      rintro e w' ⟨rfl, rfl⟩
      go_wp2_with fail
      refine H2.out.mono ?_
      rintro e w' ⟨rfl, rfl⟩
      go_wp2
      go_ret
      exact ⟨congrArg (fun z => Ending.returned (Value.int .i64 z)) HV.out.symm, rfl⟩
     ·have hz34' : (z == 34) = false := by simpa using hz34
      have HV : Hid (lettersL (cs R) i = (-1 : Int)) := Hd (HL.out.trans (by simp [hx34, hx39, hz34]))
      clear HL
      go_enter Tryz.func142, Tryz.ntmps142
      go_wp2_with fail
      refine H0.out.mono ?_
      rintro e w' ⟨rfl, rfl⟩
      go_wp2_with fail
      refine H1.out.mono ?_
      rintro e w' ⟨rfl, rfl⟩
      go_wp2_with fail
      refine H2.out.mono ?_
      rintro e w' ⟨rfl, rfl⟩
      go_wp2_with fail
      refine H1.out.mono ?_
      rintro e w' ⟨rfl, rfl⟩
      go_wp2_with fail
      refine H1.out.mono ?_
      rintro e w' ⟨rfl, rfl⟩
      go_wp2
      go_ret
      exact ⟨congrArg (fun z => Ending.returned (Value.int .i64 z)) HV.out.symm, rfl⟩
    ·have hy56' : (y == 56) = false := by simpa using hy56
     by_cases hy34 : y = 34
     ·subst hy34
      have HV : Hid (lettersL (cs R) i = (1 : Int)) := Hd (HL.out.trans (by simp [hx34, hx39, hy56]))
      clear HL
      go_enter Tryz.func142, Tryz.ntmps142
      go_wp2_with fail
      refine H0.out.mono ?_
      rintro e w' ⟨rfl, rfl⟩
      go_wp2_with fail
      refine H1.out.mono ?_
      rintro e w' ⟨rfl, rfl⟩
      go_wp2_with fail
      refine H1.out.mono ?_
      rintro e w' ⟨rfl, rfl⟩
      go_wp2
      go_ret
      exact ⟨congrArg (fun z => Ending.returned (Value.int .i64 z)) HV.out.symm, rfl⟩
     ·have hy34' : (y == 34) = false := by simpa using hy34
      by_cases hy39 : y = 39
      ·subst hy39
       have HV : Hid (lettersL (cs R) i = (1 : Int)) := Hd (HL.out.trans (by simp [hx34, hx39, hy56, hy34]))
       clear HL
       go_enter Tryz.func142, Tryz.ntmps142
       go_wp2_with fail
       refine H0.out.mono ?_
       rintro e w' ⟨rfl, rfl⟩
       go_wp2_with fail
       refine H1.out.mono ?_
       rintro e w' ⟨rfl, rfl⟩
       go_wp2_with fail
       refine H1.out.mono ?_
       rintro e w' ⟨rfl, rfl⟩
       go_wp2_with fail
       refine H1.out.mono ?_
       rintro e w' ⟨rfl, rfl⟩
       go_wp2
       go_ret
       exact ⟨congrArg (fun z => Ending.returned (Value.int .i64 z)) HV.out.symm, rfl⟩
      ·have hy39' : (y == 39) = false := by simpa using hy39
       have HV : Hid (lettersL (cs R) i = (-1 : Int)) := Hd (HL.out.trans (by simp [hx34, hx39, hy56, hy34, hy39]))
       clear HL
       go_enter Tryz.func142, Tryz.ntmps142
       go_wp2_with fail
       refine H0.out.mono ?_
       rintro e w' ⟨rfl, rfl⟩
       go_wp2_with fail
       refine H1.out.mono ?_
       rintro e w' ⟨rfl, rfl⟩
       go_wp2_with fail
       refine H1.out.mono ?_
       rintro e w' ⟨rfl, rfl⟩
       go_wp2_with fail
       refine H1.out.mono ?_
       rintro e w' ⟨rfl, rfl⟩
       go_wp2
       go_ret
       exact ⟨congrArg (fun z => Ending.returned (Value.int .i64 z)) HV.out.symm, rfl⟩
   ·have hx117' : (x == 117) = false := by simpa using hx117
    by_cases hx76 : x = 76
    ·subst hx76
     by_cases hy34 : y = 34
     ·subst hy34
      have HV : Hid (lettersL (cs R) i = (1 : Int)) := Hd (HL.out.trans (by simp [hx34, hx39, hx117]))
      clear HL
      go_enter Tryz.func142, Tryz.ntmps142
      go_wp2_with fail
      refine H0.out.mono ?_
      rintro e w' ⟨rfl, rfl⟩
      go_wp2_with fail
      refine H1.out.mono ?_
      rintro e w' ⟨rfl, rfl⟩
      go_wp2
      go_ret
      exact ⟨congrArg (fun z => Ending.returned (Value.int .i64 z)) HV.out.symm, rfl⟩
     ·have hy34' : (y == 34) = false := by simpa using hy34
      by_cases hy39 : y = 39
      ·subst hy39
       have HV : Hid (lettersL (cs R) i = (1 : Int)) := Hd (HL.out.trans (by simp [hx34, hx39, hx117, hy34]))
       clear HL
       go_enter Tryz.func142, Tryz.ntmps142
       go_wp2_with fail
       refine H0.out.mono ?_
       rintro e w' ⟨rfl, rfl⟩
       go_wp2_with fail
       refine H1.out.mono ?_
       rintro e w' ⟨rfl, rfl⟩
       go_wp2_with fail
       refine H1.out.mono ?_
       rintro e w' ⟨rfl, rfl⟩
       go_wp2
       go_ret
       exact ⟨congrArg (fun z => Ending.returned (Value.int .i64 z)) HV.out.symm, rfl⟩
      ·have hy39' : (y == 39) = false := by simpa using hy39
       have HV : Hid (lettersL (cs R) i = (-1 : Int)) := Hd (HL.out.trans (by simp [hx34, hx39, hx117, hy34, hy39]))
       clear HL
       go_enter Tryz.func142, Tryz.ntmps142
       go_wp2_with fail
       refine H0.out.mono ?_
       rintro e w' ⟨rfl, rfl⟩
       go_wp2_with fail
       refine H1.out.mono ?_
       rintro e w' ⟨rfl, rfl⟩
       go_wp2_with fail
       refine H1.out.mono ?_
       rintro e w' ⟨rfl, rfl⟩
       go_wp2
       go_ret
       exact ⟨congrArg (fun z => Ending.returned (Value.int .i64 z)) HV.out.symm, rfl⟩
    ·have hx76' : (x == 76) = false := by simpa using hx76
     by_cases hx85 : x = 85
     ·subst hx85
      by_cases hy34 : y = 34
      ·subst hy34
       have HV : Hid (lettersL (cs R) i = (1 : Int)) := Hd (HL.out.trans (by simp [hx34, hx39, hx117, hx76]))
       clear HL
       go_enter Tryz.func142, Tryz.ntmps142
       go_wp2_with fail
       refine H0.out.mono ?_
       rintro e w' ⟨rfl, rfl⟩
       go_wp2_with fail
       refine H1.out.mono ?_
       rintro e w' ⟨rfl, rfl⟩
       go_wp2
       go_ret
       exact ⟨congrArg (fun z => Ending.returned (Value.int .i64 z)) HV.out.symm, rfl⟩
      ·have hy34' : (y == 34) = false := by simpa using hy34
       by_cases hy39 : y = 39
       ·subst hy39
        have HV : Hid (lettersL (cs R) i = (1 : Int)) := Hd (HL.out.trans (by simp [hx34, hx39, hx117, hx76, hy34]))
        clear HL
        go_enter Tryz.func142, Tryz.ntmps142
        go_wp2_with fail
        refine H0.out.mono ?_
        rintro e w' ⟨rfl, rfl⟩
        go_wp2_with fail
        refine H1.out.mono ?_
        rintro e w' ⟨rfl, rfl⟩
        go_wp2_with fail
        refine H1.out.mono ?_
        rintro e w' ⟨rfl, rfl⟩
        go_wp2
        go_ret
        exact ⟨congrArg (fun z => Ending.returned (Value.int .i64 z)) HV.out.symm, rfl⟩
       ·have hy39' : (y == 39) = false := by simpa using hy39
        have HV : Hid (lettersL (cs R) i = (-1 : Int)) := Hd (HL.out.trans (by simp [hx34, hx39, hx117, hx76, hy34, hy39]))
        clear HL
        go_enter Tryz.func142, Tryz.ntmps142
        go_wp2_with fail
        refine H0.out.mono ?_
        rintro e w' ⟨rfl, rfl⟩
        go_wp2_with fail
        refine H1.out.mono ?_
        rintro e w' ⟨rfl, rfl⟩
        go_wp2_with fail
        refine H1.out.mono ?_
        rintro e w' ⟨rfl, rfl⟩
        go_wp2
        go_ret
        exact ⟨congrArg (fun z => Ending.returned (Value.int .i64 z)) HV.out.symm, rfl⟩
     ·have hx85' : (x == 85) = false := by simpa using hx85
      have HV : Hid (lettersL (cs R) i = (-1 : Int)) := Hd (HL.out.trans (by simp [hx34, hx39, hx117, hx76, hx85]))
      clear HL
      go_enter Tryz.func142, Tryz.ntmps142
      go_wp2_with fail
      refine H0.out.mono ?_
      rintro e w' ⟨rfl, rfl⟩
      go_wp2
      go_ret
      exact ⟨congrArg (fun z => Ending.returned (Value.int .i64 z)) HV.out.symm, rfl⟩
end Go.Proofs.YtllbbacnakoomaaGreatDoor
namespace Go.Proofs.YtllbbacnakoomaaGreatDoor
open Go.RowKit
set_option linter.unusedVariables false
theorem bdata (a b : ByteArray) : (a ++ b).data.toList = a.data.toList ++ b.data.toList := by
 obtain ⟨⟨l⟩⟩ := a
 obtain ⟨⟨m⟩⟩ := b
 rw [ByteArray.data_append]
 simp
theorem bempty (t : ByteArray) : t.toList.isEmpty = decide (t.size = 0) := by
 rw [Lib.toList_data, Lib.size_eq]
 cases t.data.toList <;> simp
theorem bsize_cons (c : UInt8) (k : ByteArray) : ((⟨#[c]⟩ : ByteArray) ++ k).size = k.size + 1 := by
 rw [ByteArray.size_append, Nat.add_comm]
 rfl
theorem touts_take {ks : List T} {j : Nat} {x : T} (h : ks[j]? = some x) : T.outs (ks.take (j + 1)) = T.outs (ks.take j) ++ (32 :: T.out x) := by
 rw [List.take_add_one, h, T.outs_append]; simp [T.outs]
theorem touts_at {ks : List T} {j : Nat} {x : T} (h : ks[j]? = some x) : T.outs ks = T.outs (ks.take j) ++ (32 :: T.out x ++ T.outs (ks.drop (j + 1))) := by
 conv => lhs; rw [← List.take_append_drop (j + 1) ks]
 rw [T.outs_append, touts_take h]; simp
theorem touts_room {ks : List T} {j n : Nat} {x : T} (h : ks[j]? = some x) (hn : n + (T.outs ks).length + 1 ≤ 1000000000) : n + (T.outs (ks.take j)).length + (T.out x).length + 2 ≤ 1000000000 := by
 rw [touts_at h] at hn
 simp only [List.length_append, List.length_cons] at hn
 omega
theorem touts_len (ks : List T) : ks.length ≤ (T.outs ks).length := by
 induction ks with
 | nil => simp
 | cons x ks ih => simp only [T.outs, List.length_append, List.length_cons]; omega
theorem touts_take_len (ks : List T) (j : Nat) : (T.outs (ks.take j)).length ≤ (T.outs ks).length := by
 conv => rhs; rw [← List.take_append_drop j ks]
 rw [T.outs_append]; simp
theorem twrite_any (w : World) (B b : Nat) (hB : B ≤ w.heap.size) : ∀ (t : T) (cs : List Value) (pb po : Nat) (l : List UInt8) (w1 : World), Rep w (· < B) t cs → (∀ w', Kb B b w w' → ∀ (j : Nat) (u : Value), cs[j]? = some u → w'.cell? ⟨pb, po + j, none⟩ = some u) → Kb B b w w1 → Bld w1 B b l → l.length + (T.out t).length ≤ 1000000000 →
 Calls Tryz.prog 62 #[.pointer (some ⟨b, 0, none⟩), .pointer (some ⟨pb, po, none⟩)] w1 fun e w2 => e = .returned (.tuple #[]) ∧ Bld w2 B b (l ++ T.out t) ∧ Kb B b w1 w2 := by
 intro t
 induction t using T.ind with
 | h k t f o ks ih =>
   intro cs pb po l w1 hrep hp hk hb hl
   cases hrep with
   | @mk _ _ _ _ _ ao cap css hks hrow hc =>
     have hlen : l.length + k.size + t.size + (if t.size = 0 then 0 else 1) + (T.outs ks).length + 2 ≤ 1000000000 := by
      have e1 := Lib.size_eq k
      have e2 := Lib.size_eq t
      simp only [T.out, List.length_append, List.length_cons, List.length_nil] at hl
      by_cases ht : t.size = 0
      ·rw [if_pos ht] at hl ⊢; simp only [List.length_nil] at hl; omega
      ·rw [if_neg ht] at hl ⊢; simp only [List.length_cons] at hl; omega
     have hkn : ks.length ≤ 1000000000 := by have := touts_len ks; omega
     have c0 := hp w1 hk 0 _ rfl
     have c1 := hp w1 hk 1 _ rfl
     have c4 := hp w1 hk 4 _ rfl
     simp only [Nat.add_zero] at c0
     go_enter Tryz.func62, Tryz.ntmps62
     go_wp2_with fail
     refine (bld_str hb (by omega) _ (by rw [bsize_cons]; omega) (Nat.le_trans hB hk.below.size)).mono ?_
     rintro e w2 ⟨rfl, hb2, hk2⟩
     have hkk := hk.trans hk2
     have c1 := hp w2 hkk 1 _ rfl
     have c4 := hp w2 hkk 4 _ rfl
     clear c0
     rw [bdata] at hb2
     have hb2 : Bld w2 B b (l ++ 40 :: k.data.toList) := hb2
     have HK := Hd (Lib.size_eq k)
     have HT := Hd (Lib.size_eq t)
     have HP := Hd hp
     have HL : Hid (T.out (.mk k t f o ks) = 40 :: k.data.toList ++ (if t.size = 0 then [] else 32 :: t.data.toList) ++ T.outs ks ++ [41]) := Hd (by simp [T.out])
     clear hp
     by_cases ht : t.size = 0
     ·have hte : t.toList.isEmpty = true := by rw [bempty]; simpa using ht
      rw [if_pos ht] at HL hlen
      go_wp2_with fail
      obtain ⟨w3, hw3⟩ : ∃ w3, w3 = w2 := ⟨_, rfl⟩
      rw [← hw3] at hb2 hk2 hkk c4 c1 ⊢
      clear hw3 c1
      obtain ⟨l3, hl3⟩ : ∃ l3, l3 = l ++ 40 :: k.data.toList := ⟨_, rfl⟩
      rw [← hl3] at hb2
      have hl3n : l3.length + (T.outs ks).length + 1 ≤ 1000000000 := by rw [hl3]; have := HK.out; have := HT.out; simp only [List.length_append, List.length_cons]; omega
      have HL3 : Hid (l ++ T.out (.mk k t f o ks) = l3 ++ T.outs ks ++ [41]) := Hd (by rw [HL.out, hl3]; simp)
      clear hl3 HL hte ht hl c4
      have HB := hb2; have HK1 := hkk; have HK2 := hk2
      clear hb2 hkk hk2
      go_loopw [29] (fun i wr => ∃ j : Nat, j ≤ ks.length ∧ i = .int .i64 j ∧ Bld wr B b (l3 ++ T.outs (ks.take j)) ∧ Kb B b w wr ∧ Kb B b w1 wr) (fun i _ => ks.length - (intOf i).toNat)
      case atStart => exact ⟨0, Nat.zero_le _, rfl, by simpa [T.outs] using HB, HK1, HK2⟩
      case round =>
       obtain ⟨j, hj, rfl, hbj, hkj, hk1j⟩ := hrel
       have c4 := HP.out wr hkj 4 _ rfl
       clear HB HK1 HK2
       by_cases hlt : j < ks.length
       ·obtain ⟨x, hx⟩ : ∃ x, ks[j]? = some x := ⟨ks[j], by simp [hlt]⟩
        obtain ⟨xc, hxc, hxr⟩ := hks.at hx
        obtain ⟨kb, ko, rfl, hkB, hat⟩ := hrow (by intro h0; have := hks.len; rw [h0] at this; simp at this; omega)
        have HN : Hid (T.outs (ks.take (j + 1)) = T.outs (ks.take j) ++ (32 :: T.out x)) := Hd (touts_take hx)
        have hxm := List.mem_of_getElem? hx
        have hn1 : l3.length + (T.outs (ks.take j)).length + (T.out x).length + 2 ≤ 1000000000 := touts_room hx hl3n
        clear hx
        go_wp2_with fail
        refine (bld_byte hbj (by rw [List.length_append]; omega) (Nat.le_trans hB hkj.below.size) 32).mono ?_
        rintro e w5 ⟨rfl, hb5, hk5⟩
        have hkj5 := hkj.trans hk5
        have c4 := HP.out w5 hkj5 4 _ rfl
        go_wp2_with fail
        refine (ih x hxm xc kb (ko + j * 5) _ w5 hxr (fun w' hw' jj u hu => hw'.below.cell (p := ⟨kb, ko + j * 5 + jj, none⟩) hkB |>.trans (hat.cell hxc hu)) hkj5 hb5 (by simp only [List.length_append, List.length_cons, List.length_nil]; omega)).mono ?_
        rintro e w6 ⟨rfl, hb6, hk6⟩
        go_wp2_with fail
        refine ⟨⟨j + 1, by omega, by go_num, by rw [HN.out]; simpa using hb6, hkj5.trans hk6, (hk1j.trans hk5).trans hk6⟩, by simp [intOf]; omega⟩
       ·go_wp2_with fail
        refine (bld_byte hbj (by have := touts_take_len ks j; rw [List.length_append]; omega) (Nat.le_trans hB hkj.below.size) 41).mono ?_
        rintro e w5 ⟨rfl, hb5, hk5⟩
        go_wp2
        go_end0
        refine ⟨rfl, ?_, hk1j.trans hk5⟩
        rw [show j = ks.length by omega, List.take_length] at hb5
        rw [HL3.out]
        exact hb5
     ·have hte : t.toList.isEmpty = false := by rw [bempty]; simpa using ht
      rw [if_neg ht] at HL hlen
      go_wp2_with fail
      refine (bld_str hb2 (by have := HK.out; simp only [List.length_append, List.length_cons]; omega) _ (by rw [bsize_cons]; omega) (Nat.le_trans hB hkk.below.size)).mono ?_
      rintro e w3 ⟨rfl, hb3, hk3⟩
      have hk23 := hk2.trans hk3
      have hkk3 := hkk.trans hk3
      have c4 := HP.out w3 hkk3 4 _ rfl
      rw [bdata] at hb3
      have hb3 : Bld w3 B b (l ++ 40 :: k.data.toList ++ 32 :: t.data.toList) := hb3
      clear hb2 hkk c1 hk2 hk3
      go_wp2_with fail
      obtain ⟨l3, hl3⟩ : ∃ l3, l3 = l ++ 40 :: k.data.toList ++ 32 :: t.data.toList := ⟨_, rfl⟩
      rw [← hl3] at hb3
      have hl3n : l3.length + (T.outs ks).length + 1 ≤ 1000000000 := by rw [hl3]; have := HK.out; have := HT.out; simp only [List.length_append, List.length_cons]; omega
      have HL3 : Hid (l ++ T.out (.mk k t f o ks) = l3 ++ T.outs ks ++ [41]) := Hd (by rw [HL.out, hl3]; simp)
      clear hl3 HL hte ht hl c4
      have HB := hb3; have HK1 := hkk3; have HK2 := hk23
      clear hb3 hkk3 hk23
      go_loopw [29] (fun i wr => ∃ j : Nat, j ≤ ks.length ∧ i = .int .i64 j ∧ Bld wr B b (l3 ++ T.outs (ks.take j)) ∧ Kb B b w wr ∧ Kb B b w1 wr) (fun i _ => ks.length - (intOf i).toNat)
      case atStart => exact ⟨0, Nat.zero_le _, rfl, by simpa [T.outs] using HB, HK1, HK2⟩
      case round =>
       obtain ⟨j, hj, rfl, hbj, hkj, hk1j⟩ := hrel
       have c4 := HP.out wr hkj 4 _ rfl
       clear HB HK1 HK2
       by_cases hlt : j < ks.length
       ·obtain ⟨x, hx⟩ : ∃ x, ks[j]? = some x := ⟨ks[j], by simp [hlt]⟩
        obtain ⟨xc, hxc, hxr⟩ := hks.at hx
        obtain ⟨kb, ko, rfl, hkB, hat⟩ := hrow (by intro h0; have := hks.len; rw [h0] at this; simp at this; omega)
        have HN : Hid (T.outs (ks.take (j + 1)) = T.outs (ks.take j) ++ (32 :: T.out x)) := Hd (touts_take hx)
        have hxm := List.mem_of_getElem? hx
        have hn1 : l3.length + (T.outs (ks.take j)).length + (T.out x).length + 2 ≤ 1000000000 := touts_room hx hl3n
        clear hx
        go_wp2_with fail
        refine (bld_byte hbj (by rw [List.length_append]; omega) (Nat.le_trans hB hkj.below.size) 32).mono ?_
        rintro e w5 ⟨rfl, hb5, hk5⟩
        have hkj5 := hkj.trans hk5
        have c4 := HP.out w5 hkj5 4 _ rfl
        go_wp2_with fail
        refine (ih x hxm xc kb (ko + j * 5) _ w5 hxr (fun w' hw' jj u hu => hw'.below.cell (p := ⟨kb, ko + j * 5 + jj, none⟩) hkB |>.trans (hat.cell hxc hu)) hkj5 hb5 (by simp only [List.length_append, List.length_cons, List.length_nil]; omega)).mono ?_
        rintro e w6 ⟨rfl, hb6, hk6⟩
        go_wp2_with fail
        refine ⟨⟨j + 1, by omega, by go_num, by rw [HN.out]; simpa using hb6, hkj5.trans hk6, (hk1j.trans hk5).trans hk6⟩, by simp [intOf]; omega⟩
       ·go_wp2_with fail
        refine (bld_byte hbj (by have := touts_take_len ks j; rw [List.length_append]; omega) (Nat.le_trans hB hkj.below.size) 41).mono ?_
        rintro e w5 ⟨rfl, hb5, hk5⟩
        go_wp2
        go_end0
        refine ⟨rfl, ?_, hk1j.trans hk5⟩
        rw [show j = ks.length by omega, List.take_length] at hb5
        rw [HL3.out]
        exact hb5
end Go.Proofs.YtllbbacnakoomaaGreatDoor
namespace Go.Proofs.YtllbbacnakoomaaGreatDoor
open Go.RowKit
set_option linter.unusedVariables false
theorem tWrite_any (t : T) (cs : List Value) (F : Nat → Prop) (w : World) (hrep : Rep w F t cs) (hl : (T.out t).length ≤ 1000000000) :
 Calls Tryz.prog 28 #[.agg cs.toArray] w fun e w' => e = .returned (.string ⟨(T.out t).toArray⟩) ∧ Below w.heap.size w w' := by
 have hrep1 : ∀ o, Rep ((w.alloc (.cells cs.toArray 50)).alloc o) (· < w.heap.size + 1) t cs := fun o => (hrep.wide (G := (· < w.heap.size + 1)) (fun k _ hk => by omega)).later (KeptOn.of_below (((Below.refl _ w).alloc (Nat.le_refl _) _).alloc (by simp) _))
 have hp0 : ∀ (o : Obj) (w' : World), Kb (w.heap.size + 1) (w.heap.size + 1) ((w.alloc (.cells cs.toArray 50)).alloc o) w' → ∀ (j : Nat) (u : Value), cs[j]? = some u → w'.cell? ⟨w.heap.size, 0 + j, none⟩ = some u := by
  intro o w' hk j u hu
  rw [hk.below.cell (p := ⟨w.heap.size, 0 + j, none⟩) (Nat.lt_succ_self _), Nat.zero_add]
  exact kept_cell ((Below.refl _ (w.alloc (.cells cs.toArray 50))).alloc (Nat.le_refl _) _) (cell_new w cs _ hu)
 have HR := Hd hrep1
 have HP := Hd hp0
 have hbn := bld_new (w.alloc (.cells cs.toArray 50))
 have hsz : (w.alloc (.cells cs.toArray 50)).heap.size = w.heap.size + 1 := by simp
 rw [hsz] at hbn
 have HB := Hd hbn
 clear hrep1 hp0 hbn hsz
 cases hrep with
 | @mk k x f o ks ao cap css hks hrow hc =>
   clear hks hrow
   go_enter Tryz.func28, Tryz.ntmps28
   go_wp2_with fail
   refine (twrite_any _ (w.heap.size + 1) (w.heap.size + 1) (by simp) _ _ w.heap.size 0 [] _ (HR.out _) (HP.out _) (Kb.refl _ _ _) HB.out (by simpa using hl)).mono ?_
   rintro e w2 ⟨rfl, hb2, hk2⟩
   go_wp2_with fail
   refine (bld_done hb2 (by have := hk2.below.size; simp at this; omega)).mono ?_
   rintro e w3 ⟨rfl, hb3, hk3⟩
   go_wp2
   go_ret
   refine ⟨rfl, ?_⟩
   have h1 : Below w.heap.size w w2 := (((Below.refl _ w).alloc (Nat.le_refl _) _).alloc (by simp) _).trans (hk2.below.mono (by omega))
   exact h1.trans (hk3.below.mono (by omega))
end Go.Proofs.YtllbbacnakoomaaGreatDoor
