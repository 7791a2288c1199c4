/- Texts of this seat's proofs, laid into one file. -/
import Derived.Test.YtllbbacnakoomaaGreatDoorS12
import Derived.Deep.LoopGhost
set_option maxRecDepth 100000
set_option maxHeartbeats 16000000
namespace Go.Proofs.YtllbbacnakoomaaGreatDoor
open Go.RowKit
set_option linter.unusedVariables false
def Ev.sz : Ev → Nat | .new => 1 | .push e => e.sz + 1 | .decl e _ _ => e.sz + 1
def FindV (w : World) (o : Option Bool) (r : Option Addr) : Prop := match o with
 | none => r = none
 | some b => ∃ g, r = some ⟨g, 0, none⟩ ∧ w.cell? ⟨g, 3, none⟩ = some (.bool b)
theorem find_any {w : World} {p : Option Addr} {e : Ev} (h : EvAt w p e) (x : ByteArray) :
 Calls Tryz.prog 69 #[.pointer p, .string x] w fun r w' => (∃ a, r = .returned (.pointer a) ∧ FindV w (e.find x) a) ∧ w' = w := by
 have hp := Hd h
 obtain ⟨o, ho⟩ : ∃ o, o = e.find x := ⟨_, rfl⟩
 rw [← ho]
 replace ho := Hd ho
 have hx : (x = ⟨#[]⟩) ∨ (x.size ≠ 0 ∧ x ≠ ⟨#[]⟩) := by
  by_cases hz : x.size = 0
  ·left; apply ByteArray.ext; exact Array.eq_empty_of_size_eq_zero hz
  ·right; exact ⟨hz, fun e => hz (by rw [e]; rfl)⟩
 replace hx := Hd hx
 clear h
 go_enter Tryz.func69, Tryz.ntmps69
 go_wp2_with fail
 go_loopg [0] (e.sz) (fun q v0 wx => wx = w ∧ ((v0 = .pointer none ∧ q = 0 ∧ Hid (o = none)) ∨ ∃ p' e', v0 = .pointer p' ∧ q = Ev.sz e' ∧ Hid (EvAt w p' e') ∧ Hid (o = e'.find x)))
 case atStart => exact ⟨rfl, .inr ⟨p, e, rfl, rfl, hp, ho⟩⟩
 case round =>
  obtain ⟨hw, hr⟩ := hrel
  replace hw := hw.symm
  subst hw
  rcases hr with ⟨rfl, rfl, hn⟩ | ⟨p', e', rfl, rfl, he, ho'⟩
  ·go_wp2_with fail
   go_ret
   exact ⟨⟨_, rfl, by rw [hn.out]; exact rfl⟩, rfl⟩
  ·cases e' with
   | new =>
     cases he.out with
     | @new b hc =>
       obtain ⟨_, k0, k1, k2, k3, k4⟩ := hc
       rcases hx.out with rfl | ⟨hx1, hx2⟩
       all_goals
        go_wp2_with fail
        all_goals
         go_roundg 0
         case measure => simp [Ev.sz]
         case rel => exact ⟨rfl, .inl ⟨rfl, rfl, ho'⟩⟩
   | push e2 =>
     cases he.out with
     | @push b pa _ hc hr2 =>
       obtain ⟨_, k0, k1, k2, k3, k4⟩ := hc
       replace hr2 := Hd hr2
       rcases hx.out with rfl | ⟨hx1, hx2⟩
       all_goals
        go_wp2_with fail
        all_goals
         go_roundg (Ev.sz e2)
         case measure => simp [Ev.sz]
         case rel => exact ⟨rfl, .inr ⟨pa, e2, rfl, rfl, hr2, ho'⟩⟩
   | decl e2 n i =>
     cases he.out with
     | @decl b vo pa _ _ _ hc hr2 =>
       obtain ⟨_, k0, k1, k2, k3, k4⟩ := hc
       replace hr2 := Hd hr2
       by_cases hnx : n = x
       ·subst hnx
        rcases hx.out with rfl | ⟨hx1, hx2⟩
        ·go_wp2_with fail
         go_roundg (Ev.sz e2)
         case measure => simp [Ev.sz]
         case rel => exact ⟨rfl, .inr ⟨pa, e2, rfl, rfl, hr2, ho'⟩⟩
        ·have hz1 : (n.toList == ([] : List UInt8)) = false := by
          have := beq_bytes n ⟨#[]⟩
          rw [decide_eq_false hx2, ByteArray.toList_eq ⟨#[]⟩] at this
          exact this
         have hz2 : n.toList.isEmpty = false := by
          cases hl : n.toList with
          | nil => rw [hl] at hz1; cases hz1
          | cons c r => rfl
         go_wp2_with fail
         go_ret
         refine ⟨⟨_, rfl, ?_⟩, rfl⟩
         have : o = some i := by rw [ho'.out]; unfold Ev.find; rw [if_pos ⟨rfl, hx1⟩]
         rw [this]
         exact ⟨b, rfl, k3⟩
       ·have hn : (n.toList == x.toList) = false := by rw [beq_bytes]; exact decide_eq_false hnx
        have ho2 : Hid (o = e2.find x) := Hd (by rw [ho'.out]; conv => lhs; unfold Ev.find; rw [if_neg (fun h => hnx h.1)])
        go_wp2_with fail
        go_roundg (Ev.sz e2)
        case measure => simp [Ev.sz]
        case rel => exact ⟨rfl, .inr ⟨pa, e2, rfl, rfl, hr2, ho2⟩⟩
theorem isType_any {w : World} {p : Option Addr} {e : Ev} (h : EvAt w p e) (x : ByteArray) :
 Calls Tryz.prog 36 #[.pointer p, .string x] w fun r w' => r = .returned (.bool (e.isType x)) ∧ w' = w := by
 have HF := find_any h x
 unfold Ev.isType
 cases ho : e.find x with
 | none =>
   rw [ho] at HF
   go_enter Tryz.func36, Tryz.ntmps36
   go_wp2_with fail
   refine HF.mono ?_
   rintro e w1 ⟨⟨a, rfl, hv⟩, hw⟩
   replace hw := hw.symm
   subst hw
   obtain rfl : a = none := hv
   go_wp2
   go_ret
   exact ⟨rfl, rfl⟩
 | some b =>
   rw [ho] at HF
   go_enter Tryz.func36, Tryz.ntmps36
   go_wp2_with fail
   refine HF.mono ?_
   rintro e w1 ⟨⟨a, rfl, hv⟩, hw⟩
   replace hw := hw.symm
   subst hw
   obtain ⟨g, rfl, hc⟩ := hv
   go_wp2
   go_ret
   exact ⟨rfl, rfl⟩
theorem some_any (a : Addr) (w : World) :
 Calls Tryz.prog 66 #[.pointer (some a)] w fun r w' => r = .returned (.pointer (some a)) ∧ w' = w := by
 go_enter Tryz.func66, Tryz.ntmps66
 go_wp2
 go_ret
 exact ⟨rfl, rfl⟩
theorem new_any (w : World) :
 Calls Tryz.prog 27 #[] w fun r w' => (∃ p, r = .returned (.pointer p) ∧ EvAt w' p .new) ∧ Below w.heap.size w w' := by
 have hb := fun o => (Below.refl w.heap.size w).alloc (Nat.le_refl _) o
 go_enter Tryz.func27, Tryz.ntmps27
 go_wp2
 go_ret
 refine ⟨⟨_, rfl, .new (b := w.heap.size) ⟨⟨_, _, heap_alloc_new _ _⟩, ?_, ?_, ?_, ?_, ?_⟩⟩, hb _⟩ <;> (rw [Lib.cell_of_heap (heap_alloc_new _ _)]; rfl)
theorem EvAt.depth {w : World} {p : Option Addr} {e : Ev} (h : EvAt w p e) : ∃ b vo va n i, p = some ⟨b, 0, none⟩ ∧ EvC w b vo va n i e.depth := by
 cases h with
 | new h => exact ⟨_, _, _, _, _, rfl, h⟩
 | push h r => exact ⟨_, _, _, _, _, rfl, h⟩
 | decl h r => exact ⟨_, _, _, _, _, rfl, h⟩
theorem wrap_more (d : Nat) : IntKind.i64.wrap (IntKind.i64.wrap (d : Int) + 1) = IntKind.i64.wrap ((d + 1 : Nat) : Int) := by
 simp only [IntKind.wrap, IntKind.signed, IntKind.bits]
 simp
 omega
theorem push_any {w : World} {p : Option Addr} {e : Ev} (h : EvAt w p e) :
 Calls Tryz.prog 114 #[.pointer p] w fun r w' => (∃ q, r = .returned (.pointer q) ∧ EvAt w' q (.push e)) ∧ Below w.heap.size w w' := by
 have hb := fun o => (Below.refl w.heap.size w).alloc (Nat.le_refl _) o
 obtain ⟨b, vo, va, n, i, rfl, hc⟩ := h.depth
 obtain ⟨_, k0, k1, k2, k3, k4⟩ := hc
 obtain ⟨dd, hdd⟩ : ∃ d, d = IntKind.i64.wrap (e.depth : Int) := ⟨_, rfl⟩
 obtain ⟨D, hD⟩ : ∃ d, d = IntKind.i64.wrap ((e.depth + 1 : Nat) : Int) := ⟨_, rfl⟩
 have hw : IntKind.i64.wrap (dd + 1) = D := by rw [hdd, hD]; exact wrap_more e.depth
 rw [← hdd] at k4
 replace h := Hd h
 replace hdd := Hd hdd
 replace hD := Hd hD
 go_enter Tryz.func114, Tryz.ntmps114
 go_wp2_with fail
 refine (some_any _ _).mono ?_
 rintro e w1 ⟨rfl, hw1⟩
 replace hw1 := hw1.symm
 subst hw1
 go_wp2
 go_ret
 refine ⟨⟨_, rfl, .push (b := w.heap.size) ⟨⟨_, _, heap_alloc_new _ _⟩, ?_, ?_, ?_, ?_, ?_⟩ (h.out.under (hb _))⟩, hb _⟩ <;> (rw [Lib.cell_of_heap (heap_alloc_new _ _)]; first | rfl | (rw [← hD.out]; rfl))
theorem declare_any {w : World} {p : Option Addr} {e : Ev} (h : EvAt w p e) (x : ByteArray) (hx : x.size ≠ 0) (is : Bool) :
 Calls Tryz.prog 33 #[.pointer p, .string x, .bool is] w fun r w' => (∃ q, r = .returned (.tuple #[.pointer q, .int .i64 0]) ∧ EvAt w' q (.decl e x is)) ∧ Below w.heap.size w w' := by
 have hb := fun o => (Below.refl w.heap.size w).alloc (Nat.le_refl _) o
 have hx2 : x ≠ ⟨#[]⟩ := fun e => hx (by rw [e]; rfl)
 have hz1 : (x.toList == ([] : List UInt8)) = false := by
  have := beq_bytes x ⟨#[]⟩
  rw [decide_eq_false hx2, ByteArray.toList_eq ⟨#[]⟩] at this
  exact this
 have hz2 : x.toList.isEmpty = false := by
  cases hl : x.toList with
  | nil => rw [hl] at hz1; cases hz1
  | cons c r => rfl
 obtain ⟨b, vo, va, n, i, rfl, hc⟩ := h.depth
 obtain ⟨_, k0, k1, k2, k3, k4⟩ := hc
 have hbl := cell_lt k0
 have hdr : ∀ o, Below w.heap.size w (w.drew.alloc o) := fun o => ((Below.refl w.heap.size w).drew).alloc (Nat.le_refl _) o
 obtain ⟨dd, hdd⟩ : ∃ d, d = IntKind.i64.wrap (e.depth : Int) := ⟨_, rfl⟩
 rw [← hdd] at k4
 replace h := Hd h
 replace hdd := Hd hdd
 clear hx
 go_enter Tryz.func33, Tryz.ntmps33
 go_wp2_with fail
 refine (some_any _ _).mono ?_
 rintro e w1 ⟨rfl, hw1⟩
 replace hw1 := hw1.symm
 subst hw1
 go_upto_region 4 with fail
 go_region
 all_goals
  go_wp2
  go_ret2
  refine ⟨⟨_, rfl, .decl (b := w.heap.size) (vo := vo) (pa := some ⟨b, 0, none⟩) ⟨⟨_, _, heap_alloc_new w _⟩, ?_, ?_, ?_, ?_, ?_⟩ (h.out.under (hb _).drew)⟩, (hb _).drew⟩ <;> (show (w.alloc _).cell? _ = _; rw [Lib.cell_of_heap (heap_alloc_new w _)]; first | rfl | (rw [← hdd.out]; rfl))
end Go.Proofs.YtllbbacnakoomaaGreatDoor
namespace Go.Proofs.YtllbbacnakoomaaGreatDoor
open Go.RowKit
set_option linter.unusedVariables false
def rowsB : List ByteArray := [(⟨#[115,116,111,114,97,103,101,32,116,121,112,101,100,101,102,32,101,120,116,101,114,110,32,115,116,97,116,105,99,32,97,117,116,111,32,114,101,103,105,115,116,101,114,32,95,84,104,114,101,97,100,95,108,111,99,97,108]⟩ : ByteArray), (⟨#[102,117,110,99,116,105,111,110,32,105,110,108,105,110,101,32,95,78,111,114,101,116,117,114,110]⟩ : ByteArray), (⟨#[113,117,97,108,105,102,105,101,114,32,99,111,110,115,116,32,118,111,108,97,116,105,108,101,32,114,101,115,116,114,105,99,116,32,95,65,116,111,109,105,99]⟩ : ByteArray), (⟨#[116,121,112,101,32,118,111,105,100,32,99,104,97,114,32,115,104,111,114,116,32,105,110,116,32,108,111,110,103,32,102,108,111,97,116,32,100,111,117,98,108,101,32,115,105,103,110,101,100,32,117,110,115,105,103,110,101,100,32,95,66,111,111,108,32,95,67,111,109,112,108,101,120,32,95,73,109,97,103,105,110,97,114,121]⟩ : ByteArray), (⟨#[97,108,105,103,110,97,115,32,95,65,108,105,103,110,97,115]⟩ : ByteArray), (⟨#[115,116,114,117,99,116,32,115,116,114,117,99,116]⟩ : ByteArray), (⟨#[117,110,105,111,110,32,117,110,105,111,110]⟩ : ByteArray), (⟨#[101,110,117,109,32,101,110,117,109]⟩ : ByteArray)]
theorem rows_ascii : rowsB.all (fun r => decide (r.size ≤ 1000) && r.data.toList.all fun b => decide (b.toNat < 128)) = true := by kernel_rfl
theorem rows_fields : ((rowsB.zip kindRows).all fun p => decide (Lib.fields p.1.data.toList = (p.2.1 :: p.2.2).map (·.data.toList)) && decide (1 ≤ p.2.2.length) && decide (p.2.2.length ≤ 100)) = true := by kernel_rfl
theorem rows_at {i : Nat} {r : ByteArray} (h : rowsB[i]? = some r) : ∃ k ws, kindRows[i]? = some (k, ws) ∧ Lib.fields r.data.toList = (k :: ws).map (·.data.toList) ∧ (1 ≤ ws.length ∧ ws.length ≤ 100) ∧ r.size ≤ 1000 ∧ ∀ (j : Nat) b, r.data.toList[j]? = some b → b.toNat < 128 := by
 have hl : i < 8 := (List.getElem?_eq_some_iff.1 h).1
 obtain ⟨p, hp⟩ : ∃ p, kindRows[i]? = some p := ⟨_, List.getElem?_eq_getElem hl⟩
 have hz : (rowsB.zip kindRows)[i]? = some (r, p) := by rw [List.getElem?_zip_eq_some]; exact ⟨h, hp⟩
 have h1 := rows_fields
 rw [List.all_eq_true] at h1
 have h2 := h1 _ (List.mem_of_getElem? hz)
 simp only [Bool.and_eq_true, decide_eq_true_eq] at h2
 have h3 := rows_ascii
 rw [List.all_eq_true] at h3
 have h4 := h3 _ (List.mem_of_getElem? h)
 simp only [Bool.and_eq_true, decide_eq_true_eq, List.all_eq_true] at h4
 exact ⟨p.1, p.2, hp, h2.1.1, ⟨h2.1.2, h2.2⟩, h4.1, fun j b hb => h4.2 b (List.mem_of_getElem? hb)⟩
theorem find_here {α : Type} {l : List α} {p : α → Bool} {i : Nat} {a : α} (h : (l.take i).find? p = none) (ha : l[i]? = some a) : l.find? p = if p a then some a else (l.drop (i + 1)).find? p := by
 have hi := (List.getElem?_eq_some_iff.1 ha).1
 have hl : l = l.take i ++ a :: l.drop (i + 1) := by
  conv => lhs; rw [← List.take_append_drop i l, List.drop_eq_getElem_cons hi, (List.getElem?_eq_some_iff.1 ha).2]
 conv => lhs; rw [hl]
 rw [List.find?_append, h, Option.none_or, List.find?_cons]
 cases p a <;> simp
theorem find_more {α : Type} {l : List α} {p : α → Bool} {i : Nat} {a : α} (h : (l.take i).find? p = none) (ha : l[i]? = some a) (hp : p a = false) : (l.take (i + 1)).find? p = none := by
 rw [List.take_add_one, ha, List.find?_append, h]
 simp [hp]
def hasK (x : ByteArray) (r : ByteArray × List ByteArray) : Bool := r.2.any fun y => decide (y = x)
theorem contains_any (ws : List ByteArray) (x : ByteArray) : Lib.containsS ws x = ws.any fun y => decide (y = x) := by
 rw [Bool.eq_iff_iff, Lib.containsS_iff, List.any_eq_true]
 constructor
 ·intro h; exact ⟨x, h, by simp⟩
 ·rintro ⟨y, hy, e⟩; simp only [decide_eq_true_eq] at e; subst e; exact hy
theorem kindOf_any {w : World} (ht : SpTab w) (x : ByteArray) :
 Calls Tryz.prog 155 #[.string x] w fun r w' => r = .returned (.string (kindOf x)) ∧ Below w.heap.size w w' := by
 obtain ⟨W1, hW1⟩ : ∃ W1, W1 = w.alloc (.cells #[.string (⟨#[115,116,111,114,97,103,101,32,116,121,112,101,100,101,102,32,101,120,116,101,114,110,32,115,116,97,116,105,99,32,97,117,116,111,32,114,101,103,105,115,116,101,114,32,95,84,104,114,101,97,100,95,108,111,99,97,108]⟩ : ByteArray), .string (⟨#[102,117,110,99,116,105,111,110,32,105,110,108,105,110,101,32,95,78,111,114,101,116,117,114,110]⟩ : ByteArray), .string (⟨#[113,117,97,108,105,102,105,101,114,32,99,111,110,115,116,32,118,111,108,97,116,105,108,101,32,114,101,115,116,114,105,99,116,32,95,65,116,111,109,105,99]⟩ : ByteArray), .string (⟨#[116,121,112,101,32,118,111,105,100,32,99,104,97,114,32,115,104,111,114,116,32,105,110,116,32,108,111,110,103,32,102,108,111,97,116,32,100,111,117,98,108,101,32,115,105,103,110,101,100,32,117,110,115,105,103,110,101,100,32,95,66,111,111,108,32,95,67,111,109,112,108,101,120,32,95,73,109,97,103,105,110,97,114,121]⟩ : ByteArray), .string (⟨#[97,108,105,103,110,97,115,32,95,65,108,105,103,110,97,115]⟩ : ByteArray), .string (⟨#[115,116,114,117,99,116,32,115,116,114,117,99,116]⟩ : ByteArray), .string (⟨#[117,110,105,111,110,32,117,110,105,111,110]⟩ : ByteArray), .string (⟨#[101,110,117,109,32,101,110,117,109]⟩ : ByteArray)] 9) := ⟨_, rfl⟩
 have hb1 : Below w.heap.size w W1 := by rw [hW1]; exact (Below.refl w.heap.size w).alloc (Nat.le_refl _) _
 have hx1 : W1.heap[w.heap.size]? = some (.cells (rowsB.map Value.string).toArray 9 (0,0)) := by rw [hW1]; exact heap_alloc_new w _
 have ht1 : Hid (∀ y, Below W1.heap.size W1 y → SpTab y) := Hd fun y hy => (ht.below hb1).below hy
 have hce : Hid (∀ y, Below W1.heap.size W1 y → ∀ (i : Nat) r, rowsB[i]? = some r → y.cell? ⟨w.heap.size, i, none⟩ = some (.string r)) := Hd fun y hy i r hr => by
  refine kept_cell hy ?_
  rw [Lib.cell_of_heap hx1]
  simp [hr]
 replace hx1 := Hd hx1
 replace hb1 := Hd hb1
 clear ht
 have hrf := Below.refl W1.heap.size W1
 obtain ⟨g, hg⟩ : ∃ g, g = w.heap.size := ⟨_, rfl⟩
 rw [← hg] at hce
 have hko : Hid (kindOf x = ((kindRows.find? (hasK x)).map (·.1)).getD ⟨#[]⟩) := Hd rfl
 generalize kindOf x = K at hko ⊢
 go_enter Tryz.func155, Tryz.ntmps155
 go_upto_region 2 with fail
 rw [← hW1, ← hg]
 replace hW1 := Hd hW1
 replace hg := Hd hg
 go_wp2_with fail
 go_loopg [10] 8 (fun q v10 wx => ∃ i : Nat, q = 8 - i ∧ i ≤ 8 ∧ v10 = .int .i64 i ∧ Hid (Below W1.heap.size W1 wx) ∧ Hid ((kindRows.take i).find? (hasK x) = none))
 case atStart => exact ⟨0, rfl, Nat.zero_le _, rfl, Hd hrf, Hd rfl⟩
 case round =>
  obtain ⟨i, rfl, hi, rfl, hbw, hf⟩ := hrel
  by_cases hi8 : i < 8
  ·have f1 : (i : Int) < 8 := by omega
   have g1 : IntKind.i64.wrap ((i : Int) + 1) = (i : Int) + 1 := IntWalk.i64_in _ (by omega)
   obtain ⟨r, hr⟩ : ∃ r, rowsB[i]? = some r := ⟨_, List.getElem?_eq_getElem hi8⟩
   obtain ⟨k, ws, hk, hfl, hws, hsz, has⟩ := rows_at hr
   have x0 := hce.out wr hbw.out i r hr
   have HFi := Hd (Tryz.strings_Fields r wr (by omega) has (ht1.out wr hbw.out))
   obtain ⟨m, hm⟩ : ∃ m, m = ws.length := ⟨_, rfl⟩
   rw [← hm] at hws
   have hfn : (Lib.fields r.data.toList).length = m + 1 := by rw [hfl, hm]; simp
   rw [hfn] at HFi
   have hfv : (Lib.fields r.data.toList).map (fun l => Value.string ⟨l.toArray⟩) = (k :: ws).map Value.string := by rw [hfl, List.map_map]; rfl
   rw [hfv] at HFi
   clear hr hsz has hfn hfv hfl
   replace hm := Hd hm
   replace hk := Hd hk
   go_wp2_with fail
   refine HFi.out.mono ?_
   rintro e w2 ⟨rfl, hw2⟩
   have hc2 : w2.heap[wr.heap.size]? = some (.cells ((k :: ws).map Value.string).toArray 9 (0,0)) := by rw [hw2]; exact heap_alloc_new wr _
   have hb2 : Below W1.heap.size W1 w2 := by rw [hw2]; exact hbw.out.alloc hbw.out.size _
   have z0 : w2.cell? ⟨wr.heap.size, 0, none⟩ = some (.string k) := by rw [Lib.cell_of_heap hc2]; rfl
   have HC := Tryz.slices_Contains_string wr.heap.size (0 + 1) m m ws x w2 (by rw [hm.out]; exact Nat.le_refl _) (by omega) (fun j hj => by
    rw [Lib.cell_of_heap hc2]
    simp [List.getD_eq_getElem?_getD, Nat.add_comm 1 j, hj])
   rw [List.take_of_length_le (by rw [hm.out]; exact Nat.le_refl _), contains_any] at HC
   obtain ⟨cb, hcb⟩ : ∃ c, c = hasK x (k, ws) := ⟨_, rfl⟩
   rw [show (ws.any fun y => decide (y = x)) = cb from hcb.symm] at HC
   obtain ⟨g2, hg2⟩ : ∃ g, g = wr.heap.size := ⟨_, rfl⟩
   rw [← hg2] at z0 HC ⊢
   have v1 : (1 : Int) ≤ (m + 1 : Nat) := by omega
   have v2 : ((m + 1 : Nat) : Int).toNat - 1 = m := by omega
   have v3 : ¬ m + 1 = 1 := by omega
   have v4 : ¬ m = 0 := by omega
   replace hw2 := Hd hw2
   replace hc2 := Hd hc2
   replace hb2 := Hd hb2
   replace hg2 := Hd hg2
   replace hcb := Hd hcb
   replace HC := Hd HC
   clear x0 HFi
   go_wp2_with fail
   refine HC.out.mono ?_
   rintro e w3 ⟨rfl, hw3⟩
   replace hw3 := hw3.symm
   subst hw3
   cases cb with
   | true =>
     go_wp2_with fail
     go_ret
     refine ⟨?_, hb1.out.trans (hb2.out.mono hb1.out.size)⟩
     rw [hko.out, find_here hf.out hk.out, if_pos hcb.out.symm]
     rfl
   | false =>
     go_wp2_with fail
     go_roundg (8 - (i + 1))
     case measure => omega
     case rel => exact ⟨i + 1, rfl, hi8, by go_num, hb2, Hd (find_more hf.out hk.out hcb.out.symm)⟩
  ·obtain rfl : i = 8 := by omega
   go_wp2_with fail
   go_ret
   refine ⟨?_, hb1.out.trans (hbw.out.mono hb1.out.size)⟩
   rw [hko.out, show kindRows.find? (hasK x) = none from hf.out]
   rfl
end Go.Proofs.YtllbbacnakoomaaGreatDoor
namespace Go.Proofs.YtllbbacnakoomaaGreatDoor
open Go.RowKit
set_option linter.unusedVariables false
theorem typed_any {L : List Ct} {ta : Option Addr} {tc rb : Nat} {s : Ps} {w : World} (h : PS L ta tc rb s w) (t : Ct) :
 Calls Tryz.prog 156 #[.pointer (some ⟨rb, 0, none⟩), ctV t] w fun e w' => e = .returned (.bool (typedP s.env t)) ∧ Below w.heap.size w w' := by
 have hb := fun o => (Below.refl w.heap.size w).alloc (Nat.le_refl _) o
 obtain ⟨W1, hW1⟩ : ∃ W1, W1 = w.alloc (.cells #[.int .i64 t.kind, .string t.text, .string t.file, .int .i64 t.f, .int .i64 t.t, .int .i64 t.fro, .int .i64 t.cnt] 95) := ⟨_, rfl⟩
 have hb1 : Below w.heap.size w W1 := by rw [hW1]; exact hb _
 have hx1 : W1.heap[w.heap.size]? = some (.cells #[.int .i64 t.kind, .string t.text, .string t.file, .int .i64 t.f, .int .i64 t.t, .int .i64 t.fro, .int .i64 t.cnt] 95 (0,0)) := by rw [hW1]; exact heap_alloc_new w _
 have h1 := h.below hb1
 obtain ⟨p, he, c0, c1, c2, c3, cf⟩ := h1.cells
 obtain ⟨g, hg⟩ : ∃ g, g = w.heap.size := ⟨_, rfl⟩
 rw [← hg] at hx1
 have x0 : W1.cell? ⟨g, 0, none⟩ = some (.int .i64 t.kind) := by rw [Lib.cell_of_heap hx1]; rfl
 have x1 : W1.cell? ⟨g, 1, none⟩ = some (.string t.text) := by rw [Lib.cell_of_heap hx1]; rfl
 have HI : Hid (∀ y, Below W1.heap.size W1 y → Calls Tryz.prog 36 #[.pointer p, .string t.text] y fun r w' => r = .returned (.bool (s.env.isType t.text)) ∧ w' = y) := Hd fun y hy => isType_any (he.under hy) t.text
 have hdr := (Below.refl W1.heap.size W1).drew
 replace hb1 := Hd hb1
 unfold typedP ctV
 clear he c0 c1 c3 cf h h1 hx1
 by_cases hk : t.kind = 1
 ·rw [decide_eq_true hk, Bool.true_and]
  rw [hk] at x0 hW1 ⊢
  go_enter Tryz.func156, Tryz.ntmps156
  go_upto_region 1 with fail
  rw [← hW1, ← hg]
  replace hW1 := Hd hW1
  replace hg := Hd hg
  go_region_law (go_simp; go_at_call 36; refine (HI.out _ hdr).mono ?_; rintro e w2 ⟨rfl, hw2⟩; replace hw2 := hw2.symm; subst hw2)
  all_goals
   go_wp2
   go_ret
   exact ⟨rfl, hb1.out.trans (hdr.mono hb1.out.size)⟩
 ·rw [decide_eq_false hk, Bool.false_and]
  have hk' : (t.kind == 1) = false := by simpa using hk
  go_enter Tryz.func156, Tryz.ntmps156
  go_upto_region 1 with fail
  rw [← hW1, ← hg]
  replace hW1 := Hd hW1
  replace hg := Hd hg
  go_region
  all_goals
   go_wp2
   go_ret
   exact ⟨rfl, hb1.out.trans (hdr.mono hb1.out.size)⟩
theorem empty_or (x : ByteArray) : (x = ⟨#[]⟩ ∧ x.size = 0) ∨ (x.size ≠ 0 ∧ (x.toList == ([] : List UInt8)) = false ∧ x.toList.isEmpty = false) := by
 by_cases hz : x.size = 0
 ·left; exact ⟨by apply ByteArray.ext; exact Array.eq_empty_of_size_eq_zero hz, hz⟩
 ·right
  have hx2 : x ≠ ⟨#[]⟩ := fun e => hz (by rw [e]; rfl)
  have hz1 : (x.toList == ([] : List UInt8)) = false := by
   have := beq_bytes x ⟨#[]⟩
   rw [decide_eq_false hx2, ByteArray.toList_eq ⟨#[]⟩] at this
   exact this
  refine ⟨hz, hz1, ?_⟩
  cases hl : x.toList with
  | nil => rw [hl] at hz1; cases hz1
  | cons c r => rfl
theorem begins_any {L : List Ct} {ta : Option Addr} {tc rb : Nat} {s : Ps} {w : World} (h : PS L ta tc rb s w) (t : Ct) :
 Calls Tryz.prog 99 #[.pointer (some ⟨rb, 0, none⟩), ctV t] w fun e w' => e = .returned (.bool (beginsP s.env t)) ∧ Below w.heap.size w w' := by
 have hb := fun o => (Below.refl w.heap.size w).alloc (Nat.le_refl _) o
 obtain ⟨W1, hW1⟩ : ∃ W1, W1 = w.alloc (.cells #[.int .i64 t.kind, .string t.text, .string t.file, .int .i64 t.f, .int .i64 t.t, .int .i64 t.fro, .int .i64 t.cnt] 95) := ⟨_, rfl⟩
 have hb1 : Below w.heap.size w W1 := by rw [hW1]; exact hb _
 have HK := Hd (kindOf_any (h.tab.below hb1) t.text)
 have HT := Hd (typed_any (h.below hb1) t)
 have hty : beginsP s.env t = if t.kind = 2 then decide ((kindOf t.text).size ≠ 0) else typedP s.env t := rfl
 rw [hty]
 clear hty h
 unfold ctV at HT ⊢
 by_cases hk : t.kind = 2
 ·rw [if_pos hk]
  generalize kindOf t.text = K at HK ⊢
  rw [hk] at hW1 ⊢
  clear HT
  rcases empty_or K with ⟨rfl, hz⟩ | ⟨hz, z1, z2⟩
  ·rw [show decide ((⟨#[]⟩ : ByteArray).size ≠ 0) = false from rfl]
   clear hz
   go_enter Tryz.func99, Tryz.ntmps99
   go_wp2_with fail
   rw [← hW1]
   replace hW1 := Hd hW1
   refine HK.out.mono ?_
   rintro e w2 ⟨rfl, hb2⟩
   go_wp2
   go_ret
   exact ⟨rfl, hb1.trans (hb2.mono hb1.size)⟩
  ·rw [decide_eq_true hz]
   go_enter Tryz.func99, Tryz.ntmps99
   go_wp2_with fail
   rw [← hW1]
   replace hW1 := Hd hW1
   refine HK.out.mono ?_
   rintro e w2 ⟨rfl, hb2⟩
   go_wp2
   go_ret
   exact ⟨rfl, hb1.trans (hb2.mono hb1.size)⟩
 ·rw [if_neg hk]
  have hk' : (t.kind == 2) = false := by simpa using hk
  clear HK
  go_enter Tryz.func99, Tryz.ntmps99
  go_wp2_with fail
  rw [← hW1]
  replace hW1 := Hd hW1
  refine HT.out.mono ?_
  rintro e w2 ⟨rfl, hb2⟩
  go_wp2
  go_ret
  exact ⟨rfl, hb1.trans (hb2.mono hb1.size)⟩
theorem starts_any {L : List Ct} {ta : Option Addr} {tc rb : Nat} {s : Ps} {w : World} (h : PS L ta tc rb s w) :
 Calls Tryz.prog 58 #[.pointer (some ⟨rb, 0, none⟩)] w fun e w' => e = .returned (.bool (startsP L s)) ∧ Below w.heap.size w w' := by
 have HT := tok_any h
 unfold startsP
 generalize tokP L s.at_ = t at HT ⊢
 have HB := Hd (fun (x : World) (hx : Below w.heap.size w x) => begins_any (h.below hx) t)
 clear h
 unfold ctV at HT HB
 go_enter Tryz.func58, Tryz.ntmps58
 go_wp2_with fail
 refine HT.mono ?_
 rintro e w1 ⟨rfl, hb1⟩
 go_wp2_with fail
 refine (HB.out w1 hb1).mono ?_
 rintro e w2 ⟨rfl, hb2⟩
 go_wp2
 go_ret
 exact ⟨rfl, hb1.trans (hb2.mono hb1.size)⟩
end Go.Proofs.YtllbbacnakoomaaGreatDoor
namespace Go.Proofs.YtllbbacnakoomaaGreatDoor
open Go.RowKit
set_option linter.unusedVariables false
theorem assigns_any (x : ByteArray) (w : World) :
 Calls Tryz.prog 182 #[.string x] w fun e w' => e = .returned (.bool (assignsL.any fun y => decide (y = x))) ∧ Below w.heap.size w w' := by
 obtain ⟨W1, hW1⟩ : ∃ W1, W1 = w.alloc (.cells #[.string (⟨#[61]⟩ : ByteArray), .string (⟨#[42,61]⟩ : ByteArray), .string (⟨#[47,61]⟩ : ByteArray), .string (⟨#[37,61]⟩ : ByteArray), .string (⟨#[43,61]⟩ : ByteArray), .string (⟨#[45,61]⟩ : ByteArray), .string (⟨#[60,60,61]⟩ : ByteArray), .string (⟨#[62,62,61]⟩ : ByteArray), .string (⟨#[38,61]⟩ : ByteArray), .string (⟨#[94,61]⟩ : ByteArray), .string (⟨#[124,61]⟩ : ByteArray)] 9) := ⟨_, rfl⟩
 have hb1 : Below w.heap.size w W1 := by rw [hW1]; exact (Below.refl w.heap.size w).alloc (Nat.le_refl _) _
 have hx1 : W1.heap[w.heap.size]? = some (.cells (assignsL.map Value.string).toArray 9 (0,0)) := by rw [hW1]; exact heap_alloc_new w _
 have HC := Tryz.slices_Contains_string w.heap.size 0 11 11 assignsL x W1 (by decide) (by omega) (fun j hj => by
  rw [Lib.cell_of_heap hx1]
  simp [List.getD_eq_getElem?_getD, hj])
 rw [List.take_of_length_le (by decide), contains_any] at HC
 replace HC := Hd HC
 clear hx1
 generalize (assignsL.any fun y => decide (y = x)) = cb at HC ⊢
 go_enter Tryz.func182, Tryz.ntmps182
 go_wp2_with fail
 rw [← hW1]
 replace hW1 := Hd hW1
 refine HC.out.mono ?_
 rintro e w2 ⟨rfl, hw2⟩
 replace hw2 := hw2.symm
 subst hw2
 go_wp2
 go_ret
 exact ⟨rfl, hb1⟩
def lrowsB : List ByteArray := [(⟨#[124,124]⟩ : ByteArray), (⟨#[38,38]⟩ : ByteArray), (⟨#[124]⟩ : ByteArray), (⟨#[94]⟩ : ByteArray), (⟨#[38]⟩ : ByteArray), (⟨#[61,61,32,33,61]⟩ : ByteArray), (⟨#[60,32,62,32,60,61,32,62,61]⟩ : ByteArray), (⟨#[60,60,32,62,62]⟩ : ByteArray), (⟨#[43,32,45]⟩ : ByteArray), (⟨#[42,32,47,32,37]⟩ : ByteArray)]
theorem lrows_ascii : lrowsB.all (fun r => decide (r.size ≤ 1000) && r.data.toList.all fun b => decide (b.toNat < 128)) = true := by kernel_rfl
theorem lrows_fields : ((lrowsB.zip levelRows).all fun p => decide (Lib.fields p.1.data.toList = p.2.map (·.data.toList)) && decide (1 ≤ p.2.length) && decide (p.2.length ≤ 100)) = true := by kernel_rfl
theorem lrows_at {i : Nat} {r : ByteArray} (h : lrowsB[i]? = some r) : ∃ ws, levelRows[i]? = some ws ∧ Lib.fields r.data.toList = ws.map (·.data.toList) ∧ (1 ≤ ws.length ∧ ws.length ≤ 100) ∧ r.size ≤ 1000 ∧ ∀ (j : Nat) b, r.data.toList[j]? = some b → b.toNat < 128 := by
 have hl : i < 10 := (List.getElem?_eq_some_iff.1 h).1
 obtain ⟨p, hp⟩ : ∃ p, levelRows[i]? = some p := ⟨_, List.getElem?_eq_getElem hl⟩
 have hz : (lrowsB.zip levelRows)[i]? = some (r, p) := by rw [List.getElem?_zip_eq_some]; exact ⟨h, hp⟩
 have h1 := lrows_fields
 rw [List.all_eq_true] at h1
 have h2 := h1 _ (List.mem_of_getElem? hz)
 simp only [Bool.and_eq_true, decide_eq_true_eq] at h2
 have h3 := lrows_ascii
 rw [List.all_eq_true] at h3
 have h4 := h3 _ (List.mem_of_getElem? h)
 simp only [Bool.and_eq_true, decide_eq_true_eq, List.all_eq_true] at h4
 exact ⟨p, hp, h2.1.1, ⟨h2.1.2, h2.2⟩, h4.1, fun j b hb => h4.2 b (List.mem_of_getElem? hb)⟩
def hasL (x : ByteArray) (r : List ByteArray) : Bool := r.any fun y => decide (y = x)
theorem level1_any {w : World} (ht : SpTab w) {i g : Nat} {r x : ByteArray} (hr : lrowsB[i]? = some r) {ws : List ByteArray} (hw : levelRows[i]? = some ws) (hc : w.cell? ⟨g, 1, none⟩ = some (.string x)) :
 Calls Tryz.prog 253 #[.string r, .pointer (some ⟨g, 0, none⟩)] w fun e w' => e = .returned (.bool (hasL x ws)) ∧ Below w.heap.size w w' := by
 obtain ⟨ws', hk, hfl, ⟨hw1, hw2⟩, hsz, has⟩ := lrows_at hr
 rw [hw] at hk
 obtain rfl := Option.some.inj hk
 have hdr := (Below.refl w.heap.size w).drew
 have HFi := Tryz.strings_Fields r w.drew (by omega) has (ht.below hdr)
 obtain ⟨m, hm⟩ : ∃ m, m = ws.length := ⟨_, rfl⟩
 have hfn : (Lib.fields r.data.toList).length = m := by rw [hfl, hm]; simp
 rw [hfn] at HFi
 have hfv : (Lib.fields r.data.toList).map (fun l => Value.string ⟨l.toArray⟩) = ws.map Value.string := by rw [hfl, List.map_map]; rfl
 rw [hfv] at HFi
 have HF2 : Hid (Calls Tryz.prog 186 #[.string r] w.drew fun e w' => ∃ g2, e = .returned (.slice (some ⟨g2,0, none⟩) m m) ∧ Below w.heap.size w w' ∧ w'.cell? ⟨g, 1, none⟩ = some (.string x) ∧ Hid (Calls Tryz.prog 187 #[.slice (some ⟨g2,0, none⟩) m m, .string x] w' fun e w'' => e = .returned (.bool (hasL x ws)) ∧ w'' = w')) := Hd (HFi.mono fun e w' ⟨h1, h2⟩ => by
  have hc2 : w'.heap[w.heap.size]? = some (.cells (ws.map Value.string).toArray 9 (0,0)) := by rw [h2]; exact heap_alloc_new w.drew _
  have hb2 : Below w.heap.size w w' := by rw [h2]; exact hdr.alloc (Nat.le_refl _) _
  refine ⟨w.heap.size, h1, hb2, kept_cell hb2 hc, Hd ?_⟩
  have HC := Tryz.slices_Contains_string w.heap.size 0 m m ws x w' (by rw [hm]; exact Nat.le_refl _) (by omega) (fun j hj => by
   rw [Lib.cell_of_heap hc2]
   simp [List.getD_eq_getElem?_getD, hj])
  rw [List.take_of_length_le (by rw [hm]; exact Nat.le_refl _), contains_any] at HC
  exact HC)
 clear HFi hfn hfv hfl has hsz hm hw1 hw2 hw hr ht
 have hcd : w.drew.cell? ⟨g, 1, none⟩ = some (.string x) := hc
 go_enter Tryz.func253, Tryz.ntmps253
 go_upto_region 1 with fail
 go_region_law (first
  | (go_simp; go_at_call 186; refine HF2.out.mono ?_; rintro e w1 ⟨g2, rfl, hb1, hc1, HC1⟩)
  | (go_simp; go_at_call 187; refine HC1.out.mono ?_; rintro e w2 ⟨rfl, hw2⟩; replace hw2 := hw2.symm; subst hw2))
 all_goals
  go_wp2
  go_ret
  exact ⟨rfl, hb1⟩
end Go.Proofs.YtllbbacnakoomaaGreatDoor
namespace Go.Proofs.YtllbbacnakoomaaGreatDoor
open Go.RowKit
set_option linter.unusedVariables false
theorem drop_get {α : Type} {l : List α} {i : Nat} {a : α} (h : l[i]? = some a) : l.drop i = a :: l.drop (i + 1) := by
 obtain ⟨hi, rfl⟩ := List.getElem?_eq_some_iff.1 h
 exact List.drop_eq_getElem_cons hi
def idxV (o : Option Nat) : Int := match o with | some i => i | none => -1
theorem indexFunc_level {w : World} (ht : SpTab w) {g0 tb : Nat} {x : ByteArray} (hrows : ∀ (i : Nat) r, lrowsB[i]? = some r → w.cell? ⟨g0, i, none⟩ = some (.string r)) (hc : w.cell? ⟨tb, 1, none⟩ = some (.string x)) :
 Calls Tryz.prog 252 #[.slice (some ⟨g0,0, none⟩) 10 10, .func (.func 253) #[] #[.pointer (some ⟨tb, 0, none⟩)]] w fun e w' => e = .returned (.int .i64 (idxV (levelRows.findIdx? (hasL x)))) ∧ Below w.heap.size w w' := by
 have hrf := Below.refl w.heap.size w
 obtain ⟨o, ho⟩ : ∃ o, o = levelRows.findIdx? (hasL x) := ⟨_, rfl⟩
 rw [← ho]
 have hst : Hid (o = ((levelRows.drop 0).findIdx? (hasL x)).map (· + 0)) := Hd (by rw [ho]; simp)
 have hK : Hid (∀ y, Below w.heap.size w y → SpTab y ∧ (∀ (i : Nat) r, lrowsB[i]? = some r → y.cell? ⟨g0, i, none⟩ = some (.string r)) ∧ y.cell? ⟨tb, 1, none⟩ = some (.string x)) := Hd fun y hy => ⟨ht.below hy, fun i r hr => kept_cell hy (hrows i r hr), kept_cell hy hc⟩
 clear ho ht hrows hc
 go_enter Tryz.func252, Tryz.ntmps252
 go_wp2_with fail
 go_loopg [8] 10 (fun q v8 wx => ∃ i : Nat, q = 10 - i ∧ i ≤ 10 ∧ v8 = .int .i64 i ∧ Hid (Below w.heap.size w wx) ∧ Hid (o = ((levelRows.drop i).findIdx? (hasL x)).map (· + i)))
 case atStart => exact ⟨0, rfl, Nat.zero_le _, rfl, Hd hrf, hst⟩
 case round =>
  obtain ⟨i, rfl, hi, rfl, hbw, hf⟩ := hrel
  by_cases hi8 : i < 10
  ·have f1 : (i : Int) < 10 := by omega
   have g1 : IntKind.i64.wrap ((i : Int) + 1) = (i : Int) + 1 := IntWalk.i64_in _ (by omega)
   obtain ⟨r, hr⟩ : ∃ r, lrowsB[i]? = some r := ⟨_, List.getElem?_eq_getElem hi8⟩
   obtain ⟨ws, hws⟩ : ∃ ws, levelRows[i]? = some ws := ⟨_, List.getElem?_eq_getElem hi8⟩
   obtain ⟨k1, k2, k3⟩ := hK.out wr hbw.out
   have x0 := k2 i r hr
   have HL := Hd (level1_any k1 hr hws k3)
   have hdr : levelRows.drop i = ws :: levelRows.drop (i + 1) := drop_get hws
   have hf2 := hf.out
   rw [hdr, List.findIdx?_cons] at hf2
   obtain ⟨cb, hcb⟩ : ∃ c, c = hasL x ws := ⟨_, rfl⟩
   rw [← hcb] at HL hf2
   replace hf2 := Hd hf2
   clear k1 k2 k3 hr hws hdr hcb
   go_wp2_with fail
   refine HL.out.mono ?_
   rintro e w2 ⟨rfl, hb2⟩
   have hb3 := hbw.out.trans (hb2.mono hbw.out.size)
   cases cb with
   | true =>
     go_wp2_with fail
     go_ret
     refine ⟨?_, hb3⟩
     have : o = some i := by rw [hf2.out]; simp
     rw [this]
     rfl
   | false =>
     go_wp2_with fail
     go_roundg (10 - (i + 1))
     case measure => omega
     case rel =>
      refine ⟨i + 1, rfl, hi8, by go_num, Hd hb3, Hd ?_⟩
      rw [hf2.out]
      simp only [Bool.false_eq_true, if_false, Option.map_map]
      congr 1
      funext n
      simp only [Function.comp]
      omega
  ·obtain rfl : i = 10 := by omega
   go_wp2_with fail
   go_ret
   refine ⟨?_, hbw.out⟩
   have : o = none := by rw [hf.out]; rfl
   rw [this]
   rfl
theorem level_any {w : World} (ht : SpTab w) (t : Ct) :
 Calls Tryz.prog 235 #[ctV t] w fun e w' => e = .returned (.int .i64 (levelT t)) ∧ Below w.heap.size w w' := by
 obtain ⟨W2, hW2⟩ : ∃ W2, W2 = (w.alloc (.cells #[.int .i64 t.kind, .string t.text, .string t.file, .int .i64 t.f, .int .i64 t.t, .int .i64 t.fro, .int .i64 t.cnt] 95)).alloc (.cells #[.string (⟨#[124,124]⟩ : ByteArray), .string (⟨#[38,38]⟩ : ByteArray), .string (⟨#[124]⟩ : ByteArray), .string (⟨#[94]⟩ : ByteArray), .string (⟨#[38]⟩ : ByteArray), .string (⟨#[61,61,32,33,61]⟩ : ByteArray), .string (⟨#[60,32,62,32,60,61,32,62,61]⟩ : ByteArray), .string (⟨#[60,60,32,62,62]⟩ : ByteArray), .string (⟨#[43,32,45]⟩ : ByteArray), .string (⟨#[42,32,47,32,37]⟩ : ByteArray)] 9) := ⟨_, rfl⟩
 have hb2 : Below w.heap.size w W2 := by rw [hW2]; exact ((Below.refl w.heap.size w).alloc (Nat.le_refl _) _).alloc (by simp) _
 have h1 : W2.heap[w.heap.size]? = some (.cells #[.int .i64 t.kind, .string t.text, .string t.file, .int .i64 t.f, .int .i64 t.t, .int .i64 t.fro, .int .i64 t.cnt] 95 (0,0)) := by rw [hW2]; exact (heap_alloc_old _ _ (by simp)).trans (heap_alloc_new w _)
 have h2 : W2.heap[w.heap.size + 1]? = some (.cells (lrowsB.map Value.string).toArray 9 (0,0)) := by rw [hW2]; exact heap_alloc2_new w _ _
 obtain ⟨g0, hg0⟩ : ∃ g, g = w.heap.size + 1 := ⟨_, rfl⟩
 obtain ⟨tb, htb⟩ : ∃ g, g = w.heap.size := ⟨_, rfl⟩
 rw [← hg0] at h2
 rw [← htb] at h1
 have HX := indexFunc_level (x := t.text) (g0 := g0) (tb := tb) (ht.below hb2) (fun i r hr => by rw [Lib.cell_of_heap h2]; simp [hr]) (by rw [Lib.cell_of_heap h1]; rfl)
 have hkc : ∀ y, Below W2.heap.size W2 y → y.cell? ⟨tb, 0, none⟩ = some (.int .i64 t.kind) := fun y hy => kept_cell hy (by rw [Lib.cell_of_heap h1]; rfl)
 have hlv : levelT t = if t.kind = 7 then ((levelRows.findIdx? (hasL t.text)).map (· + 1)).getD 0 else 0 := rfl
 rw [hlv]
 have hle : ∀ i, levelRows.findIdx? (hasL t.text) = some i → i ≤ 10 := fun i hi => by
  have := List.findIdx?_eq_some_iff_getElem.1 hi
  obtain ⟨h, _⟩ := this
  have : i < 10 := h
  omega
 generalize levelRows.findIdx? (hasL t.text) = o at HX hle ⊢
 replace HX := Hd HX
 replace hkc := Hd hkc
 replace hb2 := Hd hb2
 clear h1 h2 hlv
 have g2 : IntKind.i64.wrap (idxV o + 1) = ((o.map (· + 1)).getD 0 : Nat) := by
  cases o with
  | none => rfl
  | some i =>
    have := hle i rfl
    show IntKind.i64.wrap ((i : Int) + 1) = ((i + 1 : Nat) : Int)
    rw [IntWalk.i64_in _ (by omega)]
    omega
 generalize idxV o = iv at HX g2
 generalize (o.map (· + 1)).getD 0 = lv at g2 ⊢
 clear hle
 unfold ctV
 by_cases hk : t.kind = 7
 ·rw [if_pos hk]
  rw [hk] at hW2 hkc ⊢
  go_enter Tryz.func235, Tryz.ntmps235
  go_wp2_with fail
  rw [← hW2, ← hg0, ← htb]
  replace hW2 := Hd hW2
  replace hg0 := Hd hg0
  replace htb := Hd htb
  refine HX.out.mono ?_
  rintro e w3 ⟨rfl, hb3⟩
  have k0 := hkc.out w3 hb3
  go_wp2
  go_ret
  exact ⟨rfl, hb2.out.trans (hb3.mono hb2.out.size)⟩
 ·rw [if_neg hk]
  have hk' : (t.kind != 7) = true := by simpa using hk
  go_enter Tryz.func235, Tryz.ntmps235
  go_wp2_with fail
  rw [← hW2, ← hg0, ← htb]
  replace hW2 := Hd hW2
  replace hg0 := Hd hg0
  replace htb := Hd htb
  refine HX.out.mono ?_
  rintro e w3 ⟨rfl, hb3⟩
  have k0 := hkc.out w3 hb3
  go_wp2
  go_ret
  exact ⟨rfl, hb2.out.trans (hb3.mono hb2.out.size)⟩
end Go.Proofs.YtllbbacnakoomaaGreatDoor
namespace Go.Proofs.YtllbbacnakoomaaGreatDoor
open Go.RowKit
set_option linter.unusedVariables false
def NdRet (L : List Ct) (ta : Option Addr) (tc rb : Nat) (w : World) (n : T) (s : Ps) (e : Ending) (w' : World) : Prop :=
 ∃ ao cap, e = .returned (ndV n ao cap) ∧ NdAt w' w.heap.size n ao cap ∧ PS L ta tc rb s w' ∧ w.grownBy w' (some rb)
structure VarAt (w : World) (g : Nat) (n : T) (ao : Option Addr) (cap : Nat) : Prop where
 blk : w.heap[g]? = some (.cells (ndC n ao cap).toArray 50 (0,0))
 nd : NdAt w (g + 1) n ao cap
theorem VarAt.below {w w' : World} {g : Nat} {n : T} {ao : Option Addr} {cap : Nat} (h : VarAt w g n ao cap) (hb : Below w.heap.size w w') : VarAt w' g n ao cap :=
 ⟨(hb.block _ (lt_of_block h.blk)).trans h.blk, h.nd.below hb⟩
theorem VarAt.kp {w w' : World} {g rb : Nat} {n : T} {ao : Option Addr} {cap : Nat} (h : VarAt w g n ao cap) (hg : w.grownBy w' (some rb)) (hr : rb < g) : VarAt w' g n ao cap :=
 ⟨kp_block hg h.blk (by omega), h.nd.kp hg (by omega)⟩
theorem VarAt.cells {w : World} {g : Nat} {n : T} {ao : Option Addr} {cap : Nat} (h : VarAt w g n ao cap) : w.cell? ⟨g, 0, none⟩ = some (.string n.kind) ∧ w.cell? ⟨g, 1, none⟩ = some (.string n.text) ∧ w.cell? ⟨g, 2, none⟩ = some (.int .i64 n.from_) ∧ w.cell? ⟨g, 3, none⟩ = some (.int .i64 n.to_) ∧ w.cell? ⟨g, 4, none⟩ = some (.slice ao n.kids.length cap) ∧ ∀ j, w.frozen? ⟨g, j, none⟩ = false := nd_cells h.blk
theorem VarAt.put {w : World} {g : Nat} {c : Array Value} {n : T} {ao : Option Addr} {cap : Nat} (h : w.heap[g]? = some (.cells c 50 (0,0))) (hn : NdAt w (g + 1) n ao cap) : VarAt (w.setRow g (ndC n ao cap).toArray) g n ao cap :=
 ⟨setRow_heap _ _ _ _ _ _ h, hn.other (fun k hk => row_other _ hk) (Nat.lt_succ_self _)⟩
def NdRetB (L : List Ct) (ta : Option Addr) (tc rb : Nat) (w : World) (n : T × Bool) (s : Ps) (e : Ending) (w' : World) : Prop :=
 ∃ ao cap, e = .returned (.tuple #[ndV n.1 ao cap, .bool n.2]) ∧ NdAt w' w.heap.size n.1 ao cap ∧ PS L ta tc rb s w' ∧ w.grownBy w' (some rb)
structure Good (L : List Ct) (ta : Option Addr) (tc rb : Nat) (R : Rec) : Prop where
 expr : ∀ {w : World} {s : Ps} {nest : Nat} {n : T} {s' : Ps}, PS L ta tc rb s w → nest ≤ 1000 → R.expr nest s = some (n, s') → Calls Tryz.prog 85 #[.pointer (some ⟨rb, 0, none⟩), .int .i64 nest] w (NdRet L ta tc rb w n s')
 assign : ∀ {w : World} {s : Ps} {nest : Nat} {n : T} {s' : Ps}, PS L ta tc rb s w → nest ≤ 1000 → R.assign nest s = some (n, s') → Calls Tryz.prog 138 #[.pointer (some ⟨rb, 0, none⟩), .int .i64 nest] w (NdRet L ta tc rb w n s')
 cond : ∀ {w : World} {s : Ps} {nest : Nat} {n : T × Bool} {s' : Ps}, PS L ta tc rb s w → nest ≤ 1000 → R.cond nest s = some (n, s') → Calls Tryz.prog 181 #[.pointer (some ⟨rb, 0, none⟩), .int .i64 nest] w (NdRetB L ta tc rb w n s')
 binary : ∀ {w : World} {s : Ps} {least nest : Nat} {n : T × Bool} {s' : Ps}, PS L ta tc rb s w → least ≤ 1000 → nest ≤ 1000 → R.binary least nest s = some (n, s') → Calls Tryz.prog 210 #[.pointer (some ⟨rb, 0, none⟩), .int .i64 least, .int .i64 nest] w (NdRetB L ta tc rb w n s')
 cast : ∀ {w : World} {s : Ps} {nest : Nat} {n : T × Bool} {s' : Ps}, PS L ta tc rb s w → nest ≤ 1000 → R.cast nest s = some (n, s') → Calls Tryz.prog 234 #[.pointer (some ⟨rb, 0, none⟩), .int .i64 nest] w (NdRetB L ta tc rb w n s')
 unary : ∀ {w : World} {s : Ps} {nest : Nat} {n : T} {s' : Ps}, PS L ta tc rb s w → nest ≤ 1000 → R.unary nest s = some (n, s') → Calls Tryz.prog 250 #[.pointer (some ⟨rb, 0, none⟩), .int .i64 nest] w (NdRet L ta tc rb w n s')
 init : ∀ {w : World} {s : Ps} {nest : Nat} {n : T} {s' : Ps}, PS L ta tc rb s w → nest ≤ 1000 → R.init nest s = some (n, s') → Calls Tryz.prog 166 #[.pointer (some ⟨rb, 0, none⟩), .int .i64 nest] w (NdRet L ta tc rb w n s')
 typeName : ∀ {w : World} {s : Ps} {nest : Nat} {n : T} {s' : Ps}, PS L ta tc rb s w → nest ≤ 1000 → R.typeName nest s = some (n, s') → Calls Tryz.prog 237 #[.pointer (some ⟨rb, 0, none⟩), .int .i64 nest] w (NdRet L ta tc rb w n s')
 specs : ∀ {w : World} {s : Ps} {nest : Nat} {plain : Bool} {n : T} {s' : Ps}, PS L ta tc rb s w → nest ≤ 1000 → R.specs nest plain s = some (n, s') → Calls Tryz.prog 164 #[.pointer (some ⟨rb, 0, none⟩), .int .i64 nest, .bool plain] w (NdRet L ta tc rb w n s')
 declr : ∀ {w : World} {s : Ps} {nest mode : Nat} {n : T} {s' : Ps}, PS L ta tc rb s w → nest ≤ 1000 → mode ≤ 2 → R.declr nest mode s = some (n, s') → Calls Tryz.prog 61 #[.pointer (some ⟨rb, 0, none⟩), .int .i64 nest, .int .i64 mode] w (NdRet L ta tc rb w n s')
 pointer : ∀ {w : World} {s : Ps} {nest mode : Nat} {n : T} {s' : Ps}, PS L ta tc rb s w → nest ≤ 1000 → mode ≤ 2 → R.pointer nest mode s = some (n, s') → Calls Tryz.prog 110 #[.pointer (some ⟨rb, 0, none⟩), .int .i64 nest, .int .i64 mode] w (NdRet L ta tc rb w n s')
theorem expr_step {L : List Ct} {ta : Option Addr} {tc rb : Nat} {R : Rec} (G : Good L ta tc rb R) {w : World} {s : Ps} {nest : Nat} {n : T} {s' : Ps} (h : PS L ta tc rb s w) (hn : nest ≤ 1000) (hr : exprF L R nest s = some (n, s')) :
 Calls Tryz.prog 85 #[.pointer (some ⟨rb, 0, none⟩), .int .i64 nest] w (NdRet L ta tc rb w n s') := by
 have hb := fun o => (Below.refl w.heap.size w).alloc (Nat.le_refl _) o
 have hlt := h.lt
 have HD := Hd (rdeep_any (h.below (hb (.cells #[.string ⟨#[]⟩, .string ⟨#[]⟩, .int .i64 0, .int .i64 0, .slice none 0 0] 50 (0,0)))) nest (by omega))
 have g1 : IntKind.i64.wrap ((nest : Int) + 1) = ((nest + 1 : Nat) : Int) := by rw [IntWalk.i64_in _ (by omega)]; omega
 unfold exprF at hr
 cases hd : s.deep nest with
 | true =>
   rw [hd, if_pos rfl] at hr HD
   obtain ⟨rfl, rfl⟩ := Prod.mk.inj (Option.some.inj hr)
   go_enter Tryz.func85, Tryz.ntmps85
   go_wp2_with fail
   refine HD.out.mono ?_
   rintro e w1 ⟨rfl, h1, hg1⟩
   have hc := kp_block hg1 (heap_alloc_new w _) (by omega)
   have hk := kp_pb (hb _) hg1
   obtain ⟨q0, q1, q2, q3, q4, qf⟩ := nd_cells hc
   replace h1 := Hd h1
   replace hk := Hd hk
   go_wp2_with (refine wpList_store_row rfl 50 _ _ rfl w.heap.size _ rfl rfl 50 _ hc info_nd rfl (by simp [Value.oneCell']) ?_)
   refine bodyPost_ret (results_cell_row rfl _ _ w.heap.size 50 _ (0,0) _ rfl (setRow_heap _ _ _ _ _ _ hc) Tryz.underlying50 rfl (by kernel_rfl)) rfl ?_
   exact ⟨none, 0, rfl, NdAt.zero _ _, h1.out.row hc rfl _, kp_row hk.out (Nat.le_refl _) _⟩
 | false =>
   rw [hd, if_neg (by simp)] at hr HD
   obtain ⟨⟨n1, s1⟩, hr1, hr2⟩ := Option.bind_eq_some_iff.1 hr
   simp only at hr2
   replace hr := Hd hr
   go_enter Tryz.func85, Tryz.ntmps85
   go_wp2_with fail
   refine HD.out.mono ?_
   rintro e w1 ⟨rfl, h1, hg1⟩
   have hc := kp_block hg1 (heap_alloc_new w _) (by omega)
   have hk := kp_pb (hb _) hg1
   have HA := Hd (G.assign h1 (by unfold Ps.deep at hd; simp at hd; omega) hr1)
   replace hk := Hd hk
   replace hr2 := Hd hr2
   obtain ⟨g, hg⟩ : ∃ g, g = w.heap.size := ⟨_, rfl⟩
   rw [← hg] at hc
   have hrg : rb < g := by omega
   replace hg := Hd hg
   go_wp2_with fail
   rw [← hg.out]
   refine HA.out.mono ?_
   rintro e w2 ⟨ao, cap, rfl, hn2, h2, hg2⟩
   have hrg : rb < g := by omega
   have hc2 := kp_block hg2 hc (by omega)
   have hgw : g < w1.heap.size := lt_of_block hc
   have hV := Hd (VarAt.put hc2 (hn2.mono hgw))
   have h3 := Hd (h2.row hc2 rfl (ndC n1 ao cap).toArray)
   have hk3 := Hd (kp_row (grown_trans hk.out hg2) (Nat.le_of_eq hg.out.symm) (ndC n1 ao cap).toArray)
   unfold ndV
   go_wp2_with (refine wpList_store_row rfl 50 _ _ rfl g _ rfl rfl 50 _ hc2 info_nd rfl (by simp [Value.oneCell']) ?_)
   obtain ⟨W3, hW3⟩ : ∃ W3, W3 = w2.setRow g (ndC n1 ao cap).toArray := ⟨_, rfl⟩
   rw [← hW3] at hV h3 hk3
   rw [show w2.setRow g #[Value.string n1.kind, .string n1.text, .int .i64 n1.from_, .int .i64 n1.to_, .slice ao n1.kids.length cap] = W3 from hW3.symm]
   replace hW3 := Hd hW3
   dsimp only [Act.put]
   go_loopg [5] KK (fun q v5 wx => ∃ (m : T) (z : Ps) (ao : Option Addr) (cap : Nat), Hid (VarAt wx g m ao cap) ∧ Hid (PS L ta tc rb z wx) ∧ Hid (w.grownBy wx (some rb)) ∧ Hid (exprLoop L R nest q m z = some (n, s')))
   case atStart => exact ⟨n1, s1, ao, cap, hV, h3, hk3, hr2⟩
   case round =>
    have hV3 := hV
    have h33 := h3
    have hk33 := hk3
    clear hV h3 hk3
    obtain ⟨m, z, ao, cap, hV, h3, hk3, hL⟩ := hrel
    obtain ⟨w4, hw4⟩ : ∃ w4, w4 = wr := ⟨_, rfl⟩
    subst hw4
    cases gk with
    | zero => exact absurd hL.out (by simp [exprLoop])
    | succ gk =>
      have hL2 := hL.out
      unfold exprLoop at hL2
      have HH := Hd (rHas_any h3.out (⟨#[44]⟩ : ByteArray))
      clear hV3 h33 hk33
      cases hh : hasP L z (⟨#[44]⟩ : ByteArray) with
      | false =>
        rw [hh, if_neg (by simp)] at hL2 HH
        obtain ⟨rfl, rfl⟩ := Prod.mk.inj (Option.some.inj hL2)
        replace hL2 := Hd hL2
        go_wp2_with fail
        refine HH.out.mono ?_
        rintro e w5 ⟨rfl, h5, hg5⟩
        have hV5 := hV.out.kp hg5 hrg
        have hk5 := Hd (grown_trans hk3.out hg5)
        have hcc := hV5.blk
        unfold ndC at hcc
        obtain ⟨q0, q1, q2, q3, q4, qf⟩ := hV5.cells
        replace h5 := Hd h5
        replace hV5 := Hd hV5
        go_wp2_with (refine wpList_store_row rfl 50 _ _ rfl g _ rfl rfl 50 _ hcc info_nd rfl (by simp [Value.oneCell']) ?_)
        refine bodyPost_ret (results_cell_row rfl _ _ g 50 _ (0,0) _ rfl (setRow_heap _ _ _ _ _ _ hcc) Tryz.underlying50 rfl (by kernel_rfl)) rfl ?_
        exact ⟨ao, cap, rfl, (hV5.out.nd.other (fun k hk => row_other _ hk) (Nat.lt_succ_self _)).mono (by rw [hg.out]; omega), h5.out.row hcc rfl _, kp_row hk5.out (Nat.le_of_eq hg.out.symm) _⟩
      | true =>
        rw [hh, if_pos rfl] at hL2 HH
        obtain ⟨⟨b, z2⟩, hb1, hb2⟩ := Option.bind_eq_some_iff.1 hL2
        simp only at hb2
        replace hL2 := Hd hL2
        replace hb2 := Hd hb2
        go_wp2_with fail
        refine HH.out.mono ?_
        rintro e w5 ⟨rfl, h5, hg5⟩
        have hV5 := hV.out.kp hg5 hrg
        have hk5 := grown_trans hk3.out hg5
        have HA2 := Hd (G.assign h5 (by unfold Ps.deep at hd; simp at hd; omega) hb1)
        have hgw5 : g < w5.heap.size := lt_of_block hV5.blk
        replace hV5 := Hd hV5
        replace hk5 := Hd hk5
        replace hb1 := Hd hb1
        go_wp2_with fail
        refine HA2.out.mono ?_
        rintro e w6 ⟨ao2, cap2, rfl, hn6, h6, hg6⟩
        have hV6 := hV5.out.kp hg6 hrg
        have hk6 := Hd (grown_trans hk5.out hg6)
        obtain ⟨q0, q1, q2, q3, q4, qf⟩ := hV6.cells
        have hgw6 : g < w6.heap.size := lt_of_block hV6.blk
        obtain ⟨W8, hW8⟩ : ∃ W8, W8 = (w6.alloc (.cells #[.string b.kind, .string b.text, .int .i64 b.from_, .int .i64 b.to_, .slice ao2 b.kids.length cap2] 50)).alloc (.cells #[.string m.kind, .string m.text, .int .i64 m.from_, .int .i64 m.to_, .slice ao m.kids.length cap, .string b.kind, .string b.text, .int .i64 b.from_, .int .i64 b.to_, .slice ao2 b.kids.length cap2] 50) := ⟨_, rfl⟩
        have b67 := fun o => (Below.refl w6.heap.size w6).alloc (Nat.le_refl _) o
        have b68 : Below w6.heap.size w6 W8 := by rw [hW8]; exact (b67 _).alloc (by simp) _
        have hK8 : KdAt W8 (g + 1) [m, b] (.slice (some ⟨w6.heap.size + 1,0, none⟩) 2 2) := by
         have hR : Reps (w6.alloc (.cells #[.string b.kind, .string b.text, .int .i64 b.from_, .int .i64 b.to_, .slice ao2 b.kids.length cap2] 50)) (fun k => g + 1 ≤ k) [m, b] [ndC m ao cap, ndC b ao2 cap2] := .cons (hV6.nd.below (b67 _)) (.cons ((hn6.mono hgw5).below (b67 _)) .nil)
         have := KdAt.lit hR (by simp; omega) (by simp)
         rw [World.size_alloc] at this
         rw [hW8]
         exact this
        have HM := Hd (rMake_any (h6.below b68) (⟨#[99,111,109,109,97]⟩ : ByteArray) ⟨#[]⟩ m.from_ (some ⟨w6.heap.size + 1,0, none⟩) 2 2)
        replace hV6 := Hd hV6
        replace hK8 := Hd hK8
        replace hn6 := Hd hn6
        replace h6 := Hd h6
        unfold ndV
        have hg8 : W8.heap.size = w6.heap.size + 2 := by rw [hW8]; simp
        go_wp2_with fail
        rw [← hW8]
        replace hW8 := Hd hW8
        refine HM.out.mono ?_
        rintro e w9 ⟨rfl, hb9⟩
        have b69 := b68.trans (hb9.mono b68.size)
        have hV9 := hV6.out.below b69
        have h9 := h6.out.below b69
        have hk9 := kp_bp hk6.out b69
        have hK9 := hK8.out.below hb9
        have hcc := hV9.blk
        unfold ndC at hcc
        have hV10 := Hd (VarAt.put hV9.blk (hK9.node (by simp) (⟨#[99,111,109,109,97]⟩ : ByteArray) ⟨#[]⟩ m.from_ z2.at_))
        have h10 := Hd (h9.row hV9.blk rfl (ndC (mkP (⟨#[99,111,109,109,97]⟩ : ByteArray) eB m.from_ z2 [m, b]) (some ⟨w6.heap.size + 1,0, none⟩) 2).toArray)
        have hk10 := Hd (kp_row hk9 (Nat.le_of_eq hg.out.symm) (ndC (mkP (⟨#[99,111,109,109,97]⟩ : ByteArray) eB m.from_ z2 [m, b]) (some ⟨w6.heap.size + 1,0, none⟩) 2).toArray)
        clear hV9 h9 hk9 hK9 q0 q1 q2 q3 q4 qf
        go_wp2_with (refine wpList_store_row rfl 50 _ _ rfl g _ rfl rfl 50 _ hcc info_nd rfl (by simp [Value.oneCell']) ?_)
        dsimp only [Act.put]
        go_roundg gk
        case measure => omega
        case rel => exact ⟨_, z2, some ⟨w6.heap.size + 1,0, none⟩, 2, hV10, h10, hk10, hb2⟩
end Go.Proofs.YtllbbacnakoomaaGreatDoor
