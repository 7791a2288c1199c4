/- Texts of this seat's proofs, laid into one file. -/
import Derived.Test.YtfaoamdlknlgpaaGreatSubstHashDoneG34
import Derived.Deep.Cut
import Derived.Deep.CutRange
import Derived.Deep.CutBlock
import Derived.Laws.CopyOwn
import Derived.Lib.Slices
import Derived.Deep.RegionHeld3
/- strings.Replacer: the replacing. -/
namespace Go.Proofs.YtfaoamdlknlgpaaGreat
open Go.RowKit
set_option linter.unusedVariables false

theorem w64_in (x : Int) (h : -9223372036854775808 ≤ x ∧ x < 9223372036854775808) : wrap64 x = x := by unfold wrap64; omega

def u8C (l : List UInt8) : List Value := l.map fun c => .int .u8 c.toNat
theorem u8C_len (l : List UInt8) : (u8C l).length = l.length := List.length_map _
theorem u8C_one (l : List UInt8) : ∀ v ∈ u8C l, v.oneCell' = true := by intro v h; obtain ⟨c, _, rfl⟩ := List.mem_map.1 h; rfl

/-- the table's value at a byte -/
theorem RepAt.at {B : Nat} {W : World} {rb : Nat} (h : RepAt B W rb) (c : UInt8) : (escB c = false → W.cell? ⟨rb, c.toNat, none⟩ = some (.slice none 0 0)) ∧
    (escB c = true → ∃ g k, 2 ≤ k ∧ W.cell? ⟨rb, c.toNat, none⟩ = some (.slice (some ⟨g, 0, none⟩) 2 k) ∧ W.cell? ⟨g, 0, none⟩ = some (.int .u8 92) ∧ W.cell? ⟨g, 1, none⟩ = some (.int .u8 c.toNat)) := by
  obtain ⟨g1, c1, g2, c2, v, hst, ht1, ht2, h1, h2⟩ := h
  have hc := hst.cell (j := c.toNat) (by have := c.toNat_lt; simpa using this)
  refine ⟨fun he => ?_, fun he => ?_⟩
  · rw [hc]
    have n1 : c.toNat ≠ 34 := by intro e; have : c = 34 := UInt8.toNat_inj.1 e; subst this; exact absurd he (by decide)
    have n2 : c.toNat ≠ 92 := by intro e; have : c = 92 := UInt8.toNat_inj.1 e; subst this; exact absurd he (by decide)
    rw [if_neg n1]
    show some (if c.toNat = 92 then _ else _) = _
    rw [if_neg n2]
  · by_cases e : c = 34
    · subst e; exact ⟨g2, c2, h2, hc, ht2.cells.1, ht2.cells.2⟩
    · have e2 : c = 92 := by simpa [escB, e] using he
      subst e2
      exact ⟨g1, c1, h1, hc, ht1.cells.1, ht1.cells.2⟩

theorem RepAt.texts {B : Nat} {W : World} {rb : Nat} (h : RepAt B W rb) : ∃ tb c, W.cell? ⟨rb, 256, none⟩ = some (.slice (some ⟨tb, 0, none⟩) 2 c) ∧ W.cell? ⟨tb, 0, none⟩ = some (.string ⟨#[92]⟩) ∧ W.cell? ⟨tb, 1, none⟩ = some (.string ⟨#[34]⟩) := by
  obtain ⟨g1, c1, g2, c2, v, hst, _⟩ := h
  obtain ⟨ao, cp, rfl, _, _, hr, _⟩ := hst.own.rown (n := 2) rfl
  obtain ⟨tb, rfl⟩ : ∃ tb, ao = some ⟨tb, 0, none⟩ := by
    rcases hst.own.1.2 with ⟨_, h0⟩ | ⟨g, cap, cur, hv, _⟩
    · exact absurd h0 (by simp [rstrs])
    · simp only [Value.slice.injEq] at hv
      exact ⟨g, hv.1⟩
  obtain ⟨b', o', e, hat⟩ := hr (by simp [rstrs])
  simp only [Option.some.injEq, Addr.mk.injEq, and_true] at e
  obtain ⟨rfl, rfl⟩ := e
  exact ⟨_, _, hst.cellT, hat 0 _ rfl 0 _ rfl, hat 1 _ rfl 0 _ rfl⟩

theorem RepAt.below {B : Nat} {W W' : World} {rb : Nat} (h : RepAt B W rb) (hb : Below W.heap.size W W') : RepAt B W' rb := by
  obtain ⟨g1, c1, g2, c2, v, hst, ht1, ht2, h1, h2⟩ := h
  exact ⟨g1, c1, g2, c2, v, hst.below hb, ht1.below hb, ht2.below hb, h1, h2⟩

set_option maxRecDepth 100000 in
set_option maxHeartbeats 4000000 in
theorem rep_replace (B rb : Nat) (s : ByteArray) (hs : s.size ≤ 1000000) (w : World) (hR : RepAt B w rb) :
    Calls Tryz.prog 179 #[.pointer (some ⟨rb, 0, none⟩), .string s] w fun e w' => e = .returned (.string ⟨(escL s.data.toList).toArray⟩) ∧ Below w.heap.size w w' := by
  obtain ⟨tb, tc, d256, t0, t1⟩ := hR.texts
  have hRh := Lib.hid hR
  have hsl : s.data.toList.length = s.size := Array.length_toList
  obtain ⟨N, hN⟩ : ∃ N, N = escN s.data.toList := ⟨_, rfl⟩
  have hNle : N ≤ s.size := by rw [hN, ← hsl]; exact escN_le _
  have HN := Lib.hid hN.symm
  have hlen := escL_len s.data.toList
  rw [hsl, ← hN] at hlen
  replace hlen := Lib.hid hlen
  replace hsl := Lib.hid hsl
  have htwo := escN_two s.data.toList
  rw [← hN] at htwo
  obtain ⟨n92, h92⟩ : ∃ n, n = Lib.countByte s.data.toList 92 := ⟨_, rfl⟩
  obtain ⟨n34, h34⟩ : ∃ n, n = Lib.countByte s.data.toList 34 := ⟨_, rfl⟩
  rw [← h92, ← h34] at htwo
  replace htwo := Lib.hid htwo
  have HC1 := Lib.hid (fun W => Tryz.strings_Count_one s 92 W)
  have HC2 := Lib.hid (fun W => Tryz.strings_Count_one s 34 W)
  rw [← h92] at HC1
  rw [← h34] at HC2
  have e92 := hR.at 92
  have e34 := hR.at 34
  obtain ⟨k1, kc1, _, f92, _, _⟩ := e92.2 rfl
  obtain ⟨k2, kc2, _, f34, _, _⟩ := e34.2 rfl
  replace f92 : w.cell? ⟨rb, 92, none⟩ = some (.slice (some ⟨k1, 0, none⟩) 2 kc1) := f92
  replace f34 : w.cell? ⟨rb, 34, none⟩ = some (.slice (some ⟨k2, 0, none⟩) 2 kc2) := f34
  have hq : ∀ (w : World) (a : Option Addr) (n c : Nat), (binOp .neq 58 (.slice a n c) (.slice none 0 0)).run Tryz.prog w = .ok (.bool (!a.isNone)) w := fun w a n c => run_neq_slice_nil_any w _ _ a n c 0 0 Tryz.underlying58
  clear hR e92 e34 hN h92 h34
  obtain ⟨b16, hb16⟩ : ∃ b, decide ((16 : Int) ≤ (s.size : Int)) = b := ⟨_, rfl⟩
  go_enter Tryz.func179, Tryz.ntmps179
  go_upto_if 26 with fail
  go_cut [5, 6, 8, 9, 10, 11] from 27 to 80 (fun v5 v6 v8 v9 v10 v11 wx => v5 = .int .i64 ((s.size : Int) + N) ∧ v6 = .bool (decide (0 < N)) ∧ Hid (Below w.heap.size w wx))
  case first =>
    replace hb16 := Lib.hid hb16
    cases b16 with
    | true =>
      go_wp2_with fail
      go_loopg [5, 6, 8, 9, 32] 2 (fun q v5 v6 v8 v9 v32 wx => Hid (Below w.heap.size w wx) ∧ ((q = 2 ∧ v32 = .int .i64 0 ∧ v5 = .int .i64 s.size ∧ v6 = .bool false) ∨ (q = 1 ∧ v32 = .int .i64 1 ∧ v5 = .int .i64 ((s.size : Int) + n92) ∧ v6 = .bool (decide (0 < n92))) ∨ (q = 0 ∧ v32 = .int .i64 2 ∧ v5 = .int .i64 ((s.size : Int) + N) ∧ v6 = .bool (decide (0 < N)))))
      case atStart => exact ⟨Lib.hid (Below.refl _ _), .inl ⟨rfl, rfl, rfl, rfl⟩⟩
      case round =>
        obtain ⟨hbr, hd⟩ := hrel
        have d256' := kept_cell hbr.out d256
        have t0' := kept_cell hbr.out t0
        have t1' := kept_cell hbr.out t1
        have f92' := kept_cell hbr.out f92
        have f34' := kept_cell hbr.out f34
        clear d256 t0 t1 f92 f34
        rcases hd with ⟨rfl, rfl, rfl, rfl⟩ | ⟨rfl, rfl, rfl, rfl⟩ | ⟨rfl, rfl, rfl, rfl⟩
        · have hrx : ∀ (h : 0 < (⟨#[92]⟩ : ByteArray).size), ((⟨#[92]⟩ : ByteArray)[0]'h).toNat = 92 := fun _ => rfl
          go_wp2_with fail
          refine (HC1.out _).mono ?_
          rintro e w' ⟨rfl, hw'⟩
          replace hw' := hw'.symm
          subst hw'
          by_cases h0 : n92 = 0
          · have h0' : ¬ ((n92 : Nat) : Int) ≠ 0 := by omega
            have h0b : (((n92 : Nat) : Int) == 0) = true := by rw [h0]; rfl
            replace h0 := Lib.hid h0
            go_wp2_with fail
            go_roundg 1
            case measure => exact (by decide)
            case rel => exact ⟨hbr, .inr (.inl ⟨rfl, rfl, by have := h0.out; have := htwo.out; first | rfl | (congr 1; omega), by have := h0.out; have := htwo.out; congr 1; simp; omega⟩)⟩
          · have h0' : ((n92 : Nat) : Int) ≠ 0 := by omega
            have h0b : (((n92 : Nat) : Int) == 0) = false := beq_false_of_ne h0'
            have q1 : IntKind.i64.wrap ((2 : Int) - 1) = 1 := by decide
            have q2 : IntKind.i64.wrap (((n92 : Nat) : Int) * 1) = n92 := by rw [Int.mul_one]; exact IntWalk.i64_in _ (by have := htwo.out; omega)
            have q3 : IntKind.i64.wrap ((s.size : Int) + ((n92 : Nat) : Int)) = (s.size : Int) + n92 := IntWalk.i64_in _ (by have := htwo.out; omega)
            replace h0 := Lib.hid h0
            go_wp2_with fail
            go_quiet (fail)
            have hbn := Lib.hid (hbr.out.trans ((below_drewN (Below.refl _ wr) nq).mono hbr.out.size))
            go_wp2_with fail
            go_roundg 1
            case measure => exact (by decide)
            case rel => exact ⟨hbn, .inr (.inl ⟨rfl, rfl, by have := htwo.out; congr 1; first | omega | (rw [w64_in ((n92 : Nat) : Int) (by omega), w64_in _ (by omega)]; done) | (rw [w64_in ((n92 : Nat) : Int) (by omega), w64_in _ (by omega)]; omega), by have := h0.out; have := htwo.out; congr 1; simp; omega⟩)⟩
        · have hrx : ∀ (h : 0 < (⟨#[34]⟩ : ByteArray).size), ((⟨#[34]⟩ : ByteArray)[0]'h).toNat = 34 := fun _ => rfl
          go_wp2_with fail
          refine (HC2.out _).mono ?_
          rintro e w' ⟨rfl, hw'⟩
          replace hw' := hw'.symm
          subst hw'
          by_cases h0 : n34 = 0
          · have h0' : ¬ ((n34 : Nat) : Int) ≠ 0 := by omega
            have h0b : (((n34 : Nat) : Int) == 0) = true := by rw [h0]; rfl
            replace h0 := Lib.hid h0
            go_wp2_with fail
            go_roundg 0
            case measure => exact (by decide)
            case rel => exact ⟨hbr, .inr (.inr ⟨rfl, rfl, by have := h0.out; have := htwo.out; first | rfl | (congr 1; omega), by have := h0.out; have := htwo.out; congr 1; simp; omega⟩)⟩
          · have h0' : ((n34 : Nat) : Int) ≠ 0 := by omega
            have h0b : (((n34 : Nat) : Int) == 0) = false := beq_false_of_ne h0'
            have q1 : IntKind.i64.wrap ((2 : Int) - 1) = 1 := by decide
            have q2 : IntKind.i64.wrap (((n34 : Nat) : Int) * 1) = n34 := by rw [Int.mul_one]; exact IntWalk.i64_in _ (by have := htwo.out; omega)
            have q3 : IntKind.i64.wrap (((s.size : Int) + n92) + ((n34 : Nat) : Int)) = ((s.size : Int) + n92) + n34 := IntWalk.i64_in _ (by have := htwo.out; omega)
            replace h0 := Lib.hid h0
            go_wp2_with fail
            go_quiet (fail)
            have hbn := Lib.hid (hbr.out.trans ((below_drewN (Below.refl _ wr) nq).mono hbr.out.size))
            go_wp2_with fail
            go_roundg 0
            case measure => exact (by decide)
            case rel => exact ⟨hbn, .inr (.inr ⟨rfl, rfl, by have := htwo.out; congr 1; first | omega | (rw [w64_in ((n34 : Nat) : Int) (by omega), w64_in _ (by omega)]; done) | (rw [w64_in ((n34 : Nat) : Int) (by omega), w64_in _ (by omega)]; omega), by have := h0.out; have := htwo.out; congr 1; simp; omega⟩)⟩
        · go_wp2_with fail
          go_meet
          exact ⟨rfl, rfl, hbr⟩
    | false =>
      go_wp2_with fail
      go_loopg [5, 6, 10, 11] s.size (fun q v5 v6 v10 v11 wx => ∃ i : Nat, q = s.size - i ∧ i ≤ s.size ∧ v10 = .int .i64 i ∧ (∃ n : Nat, Hid (escN (s.data.toList.take i) = n) ∧ v5 = .int .i64 ((s.size : Int) + n) ∧ v6 = .bool (decide (0 < n))) ∧ wx = w)
      case atStart => exact ⟨0, rfl, Nat.zero_le _, rfl, ⟨0, Lib.hid rfl, by simp, rfl⟩, rfl⟩
      case round =>
        obtain ⟨i, hq', hi, rfl, ⟨n, hn, rfl, rfl⟩, hw⟩ := hrel
        replace hq' := hq'.symm
        subst hq'
        replace hw := hw.symm
        subst hw
        by_cases hin : i < s.size
        · have hin' : (i : Int) < s.size := by omega
          have f4 : Hid (s.size - (i + 1) < s.size - i) := Lib.hid (by omega)
          have g1 : IntKind.i64.wrap ((i : Int) + 1) = (i : Int) + 1 := IntWalk.i64_in _ (by omega)
          obtain ⟨c, hc⟩ : ∃ c, s.data.toList[i]? = some c := ⟨_, List.getElem?_eq_getElem (by rw [hsl.out]; exact hin)⟩
          have hci : (s[i]'hin) = c := by
            rw [List.getElem?_eq_some_iff] at hc
            obtain ⟨h1, h2⟩ := hc
            rw [← h2]; simp [ByteArray.getElem_eq_getElem_data]
          have hst := escN_take hc
          rw [hn.out] at hst
          have hle : n ≤ N := by rw [← hn.out, ← HN.out]; exact escN_take_le _ _
          have hat := hRh.out.at c
          have hcb0 : c.toNat < 256 := by have := c.toNat_lt; simpa using this
          have hcb : (c.toNat : Int) < 256 := by omega
          cases he : escB c with
          | false =>
            have x0 := hat.1 he
            rw [he] at hst
            replace hst := Lib.hid hst
            clear hat
            go_wp2_with fail
            go_roundg (s.size - (i + 1))
            case measure => exact f4.out
            case rel => exact ⟨i + 1, rfl, by omega, by simp, ⟨n, by simpa using hst, rfl, rfl⟩, rfl⟩
          | true =>
            obtain ⟨g, k, hk, x0, _, _⟩ := hat.2 he
            rw [he] at hst
            replace hst := Lib.hid hst
            have q1 : IntKind.i64.wrap ((2 : Int) - 1) = 1 := by decide
            have q2 : IntKind.i64.wrap (((s.size : Int) + n) + 1) = (s.size : Int) + n + 1 := IntWalk.i64_in _ (by omega)
            clear hat
            go_wp2_with fail
            go_roundg (s.size - (i + 1))
            case measure => exact f4.out
            case rel => exact ⟨i + 1, rfl, by omega, by simp, ⟨n + 1, by simpa using hst, by congr 1, by simp⟩, rfl⟩
        · obtain rfl : i = s.size := by omega
          have hin' : ¬ (s.size : Int) < (s.size : Int) := by omega
          have hnN : n = N := by rw [← hn.out, ← HN.out, List.take_of_length_le (by rw [hsl.out]; exact Nat.le_refl _)]
          subst hnN
          go_wp2_with fail
          go_meet
          exact ⟨rfl, rfl, Lib.hid (Below.refl _ _)⟩
  case rest =>
    obtain ⟨rfl, rfl, hbw⟩ := hcut
    rename World => w1
    have hR1 := Lib.hid (hRh.out.below (W' := w1) hbw.out)
    clear HC1 HC2 d256 t0 t1 f92 f34
    by_cases hN0 : N = 0
    · have e0 : decide (0 < N) = false := by rw [hN0]; rfl
      have hE : Hid (escL s.data.toList = s.data.toList) := Lib.hid (escL_none (HN.out.trans hN0))
      replace hN0 := Lib.hid hN0
      go_wp2
      go_ret
      refine ⟨?_, hbw.out⟩
      rw [hE.out, show (⟨s.data.toList.toArray⟩ : ByteArray) = s by cases s; simp]
      rfl
    · have e0 : decide (0 < N) = true := decide_eq_true (by omega)
      obtain ⟨M, hM⟩ : ∃ M, M = s.size + N := ⟨_, rfl⟩
      have hMi : (s.size : Int) + (N : Int) = (M : Int) := by omega
      have hM2 : M ≤ 2000000 := by omega
      have hEL : Hid ((escL s.data.toList).length = M) := Lib.hid (by rw [hlen.out, hM])
      have mk : ∀ w, (Instr.makeSlice 58 (.int .i64 (M : Int)) (.int .i64 (M : Int))).run Tryz.prog w = .ok (.slice (some ⟨w.heap.size, 0, none⟩) M M) (w.alloc (.cells (madeCells #[.int .u8 0] M) 5)) := fun w => run_make_row' 58 5 (.int .u8 0) 1 Tryz.underlying58 Tryz.infoByte rfl .i64 .i64 M (by omega) (by omega) w
      have hmade : madeCells #[Value.int .u8 0] M = (u8C (List.replicate M 0)).toArray := by
        apply Array.toList_inj.1
        rw [toList_madeCells_one]
        unfold u8C
        rw [List.map_replicate]
        rfl
      have hb0 : Hid (Below w1.heap.size w1 (w1.alloc (.cells (madeCells #[.int .u8 0] M) 5))) := Lib.hid ((Below.refl _ _).alloc (Nat.le_refl _) _)
      have hblk0 : Hid ((w1.alloc (.cells (madeCells #[.int .u8 0] M) 5)).heap[w1.heap.size]? = some (.cells (u8C (List.replicate M 0)).toArray 5 (0, 0))) := Lib.hid (by rw [← hmade]; exact heap_alloc_new _ _)
      replace hmade := Lib.hid hmade
      replace hM := Lib.hid hM
      replace hN0 := Lib.hid hN0
      go_wp2_with fail
      go_loopg [13, 14, 15] s.size (fun q v13 v14 v15 wx => ∃ (i j : Nat) (L : List UInt8), q = s.size - i ∧ i ≤ s.size ∧ v14 = .int .i64 i ∧ v13 = .int .i64 j ∧ Hid ((escL (s.data.toList.take i)).length = j ∧ L.length = M ∧ L.take j = escL (s.data.toList.take i)) ∧ Hid (wx.heap[w1.heap.size]? = some (.cells (u8C L).toArray 5 (0, 0))) ∧ Hid (Below w1.heap.size w1 wx))
      case atStart => exact ⟨0, 0, List.replicate M 0, rfl, Nat.zero_le _, rfl, rfl, Lib.hid ⟨rfl, List.length_replicate .., rfl⟩, hblk0, hb0⟩
      case round =>
        obtain ⟨i, j, L, hq', hi, rfl, rfl, hL, hblk, hbx⟩ := hrel
        replace hq' := hq'.symm
        subst hq'
        by_cases hin : i < s.size
        · have hin' : (i : Int) < s.size := by omega
          have f4 : Hid (s.size - (i + 1) < s.size - i) := Lib.hid (by omega)
          have g1 : IntKind.i64.wrap ((i : Int) + 1) = (i : Int) + 1 := IntWalk.i64_in _ (by omega)
          obtain ⟨c, hc⟩ : ∃ c, s.data.toList[i]? = some c := ⟨_, List.getElem?_eq_getElem (by rw [hsl.out]; exact hin)⟩
          have hci : (s[i]'hin) = c := by
            rw [List.getElem?_eq_some_iff] at hc
            obtain ⟨h1, h2⟩ := hc
            rw [← h2]; simp [ByteArray.getElem_eq_getElem_data]
          have hst := escL_take hc
          have hat := (hR1.out.below hbx.out).at c
          have hcb0 : c.toNat < 256 := by have := c.toNat_lt; simpa using this
          have hcb : (c.toNat : Int) < 256 := by omega
          have hjM : j + (escC c).length ≤ M := by
            have h1 := hL.out.1
            have h2 : (escL (s.data.toList.take (i + 1))).length ≤ M := by
              rw [← hEL.out]
              unfold escL
              conv => rhs; rw [← List.take_append_drop (i + 1) s.data.toList, List.flatMap_append, List.length_append]
              omega
            rw [hst, List.length_append, h1] at h2
            exact h2
          have hLlen := hL.out.2.1
          cases he : escB c with
          | false =>
            have x0 := hat.1 he
            have hec : escC c = [c] := by unfold escC; rw [he]; rfl
            rw [hec] at hst hjM
            have hj1 : j < M := by rw [List.length_singleton] at hjM; omega
            have hjI : (j : Int) < M := by omega
            have g2 : IntKind.i64.wrap ((j : Int) + 1) = (j : Int) + 1 := IntWalk.i64_in _ (by omega)
            have y0 : wr.cell? ⟨w1.heap.size, j, none⟩ = some (.int .u8 (L[j]'(by omega)).toNat) := by
              rw [Lib.cell_of_heap hblk.out]
              simp [u8C, hLlen, hj1]
            have z0 := Lib.frozen_of_heap hblk.out j
            replace hst := Lib.hid hst
            replace hLlen := Lib.hid hLlen
            clear hat
            have hblk2 := heap_setCell_same wr w1.heap.size j _ _ (.int .u8 c.toNat) hblk.out
            have hb2 := Lib.hid (hbx.out.setCell (p := ⟨w1.heap.size, j, none⟩) (Nat.le_refl _) (.int .u8 c.toNat))
            have hset : (u8C L).toArray.setIfInBounds j (.int .u8 c.toNat) = (u8C (L.set j c)).toArray := by
              apply Array.toList_inj.1
              simp [u8C, List.map_set]
            rw [hset] at hblk2
            replace hblk2 := Lib.hid hblk2
            clear hset
            go_wp2_with fail
            go_roundg (s.size - (i + 1))
            case measure => exact f4.out
            case rel => exact ⟨i + 1, j + 1, L.set j c, rfl, by omega, by simp, by simp, Lib.hid ⟨by rw [hst.out, List.length_append, hL.out.1]; rfl, by rw [List.length_set]; exact hLlen.out, by
                rw [hst.out, ← hL.out.2.2, List.take_add_one, List.take_set_of_le (Nat.le_refl _), List.getElem?_set_self (by have := hLlen.out; omega)]
                rfl⟩, hblk2, hb2⟩
          | true =>
            obtain ⟨g, k, hk, v0, v1, v2⟩ := (hR1.out.at c).2 he
            have HX : Hid (∀ x, Below w1.heap.size w1 x → x.cell? ⟨rb, c.toNat, none⟩ = some (.slice (some ⟨g, 0, none⟩) 2 k)) := Lib.hid fun x hx => kept_cell hx v0
            have x0 := HX.out wr hbx.out
            have x1 := HX.out wr.drew hbx.out.drew
            have xg0 := kept_cell hbx.out v1
            have xg1 := kept_cell hbx.out v2
            clear v0 v1 v2
            have hec : escC c = [92, c] := by unfold escC; rw [he]; rfl
            rw [hec] at hst hjM
            have hj1 : j + 2 ≤ M := by simpa using hjM
            have hjI : (j : Int) ≤ M := by omega
            have g2 : IntKind.i64.wrap ((j : Int) + 2) = (j : Int) + 2 := IntWalk.i64_in _ (by omega)
            replace hst := Lib.hid hst
            replace hLlen := Lib.hid hLlen
            clear hat
            have hMj : ¬ M = j := by omega
            have hMj' : ¬ (M : Int) = j := by omega
            have hjM' : j ≤ M := by omega
            have hbd := Lib.hid (hbx.out.drew)
            have hnI : Hid ([Value.int .u8 92, .int .u8 c.toNat].length = Nat.min 2 (M - j)) := Lib.hid (by show 2 = min 2 (M - j); omega)
            have hxg : Hid (∀ (jj : Nat) (v : Value), [Value.int .u8 92, .int .u8 c.toNat][jj]? = some v → wr.drew.cell? ((⟨g, 0, none⟩ : Addr).add jj) = some v) := Lib.hid (fun jj v hv => by
              rw [Addr.add_lit]
              match jj, hv with
              | 0, hv => simp at hv; subst hv; exact xg0
              | 1, hv => simp at hv; subst hv; exact xg1)
            clear xg0 xg1
            go_wp2_with fail
            go_region_held3 (fun x : World => x.cell? ⟨rb, c.toNat, none⟩ = some (.slice (some ⟨g, 0, none⟩) 2 k)) (first | with_reducible exact x0 | with_reducible exact x1 | with_reducible exact x4) (first | (refine step_copy_splice rfl _ _ _ _ rfl 5 Tryz.underlying58 (by kernel_rfl) _ _ _ _ _ _ rfl rfl w1.heap.size j (u8C L) 5 hblk.out [.int .u8 92, .int .u8 c.toNat] hnI.out (fun _ => ⟨rfl, _, rfl, hxg.out⟩) (by rw [u8C_len, hLlen.out]; exact hj1) (by simp [Value.oneCell']) w1.heap.size w1 hbd.out (Nat.le_refl _) ?_; intro w4 hg4 hb4; have x4 := HX.out w4 hb4))
            all_goals
              have hL2 : splice (u8C L) j [Value.int .u8 92, .int .u8 c.toNat] = u8C (L.take j ++ [92, c] ++ L.drop (j + 2)) := by
                unfold splice u8C
                rw [List.map_append, List.map_append, List.map_take, List.map_drop, List.append_assoc]
                rfl
              have hg5 := hg4.out
              rw [hL2] at hg5
              replace hg5 := Lib.hid hg5
              have hb5 := Lib.hid hb4
              clear hg4 hb4 x0 x1 x4 hxg hL2
              go_wp2_with fail
              go_roundg (s.size - (i + 1))
              case measure => exact f4.out
              case rel => exact ⟨i + 1, j + 2, L.take j ++ [92, c] ++ L.drop (j + 2), rfl, by omega, by simp, by simp, Lib.hid ⟨by rw [hst.out, List.length_append, hL.out.1]; rfl, by
                  have := hLlen.out
                  rw [List.length_append, List.length_append, List.length_take, List.length_drop]
                  simp
                  omega, by
                  have := hLlen.out
                  have hlj : (L.take j ++ [92, c]).length = j + 2 := by rw [List.length_append, List.length_take]; simp; omega
                  rw [hst.out, ← hL.out.2.2, ← hlj, List.take_left]⟩, hg5, hb5⟩
        · obtain rfl : i = s.size := by omega
          have hin' : ¬ (s.size : Int) < (s.size : Int) := by omega
          have hLe : L = escL s.data.toList := by
            obtain ⟨h1, h2, h3⟩ := hL.out
            have ht : s.data.toList.take s.size = s.data.toList := List.take_of_length_le (by rw [hsl.out]; exact Nat.le_refl _)
            rw [ht] at h1 h3
            rw [hEL.out] at h1
            rw [← h3, List.take_of_length_le (by omega)]
          subst hLe
          have hcv := run_convert_bytes_back (P := Tryz.prog) wr 58 9 5 ⟨w1.heap.size, 0, none⟩ M (escL s.data.toList) Tryz.underlying58 Tryz.underlying5 Tryz.underlying9 (by
            intro jj hj
            rw [Addr.add_lit, Lib.cell_of_heap hblk.out]
            simp [u8C, List.getElem?_eq_getElem hj])
          rw [hEL.out] at hcv
          have hbf := Lib.hid (hbw.out.trans (hbx.out.mono hbw.out.size))
          go_wp2
          go_ret
          exact ⟨rfl, hbf.out⟩
end Go.Proofs.YtfaoamdlknlgpaaGreat

/- strings.Replacer: args' escaped. -/
namespace Go.Proofs.YtfaoamdlknlgpaaGreat
open Go.RowKit
set_option linter.unusedVariables false

set_option maxRecDepth 100000 in
set_option maxHeartbeats 4000000 in
/-- '(*sync.Once).doSlow', not yet done and the lock free, at buildOnce. -/
theorem rep_slow {Q : World → Prop} {b off : Nat} (HQ : OnceQ Q b off) (pl : Addr) (w : World)
    (h0 : w.cell? ⟨b, off, none⟩ = some (.int .u32 0)) (h1 : w.cell? ⟨b, off + 1, none⟩ = some (.int .i32 0)) (f0 : w.frozen? ⟨b, off, none⟩ = false) (f1 : w.frozen? ⟨b, off + 1, none⟩ = false)
    (hf : Calls Tryz.prog 94 #[.pointer (some pl)] (w.setCell ⟨b, off + 1, none⟩ (.int .i32 1)) fun e w' => e = .returned (.tuple #[]) ∧ Q w') :
    Calls Tryz.prog 112 #[.pointer (some ⟨b, off, none⟩), .func (.func 94) #[.pointer (some pl)] #[]] w fun e w' => SlowPost Q b off e w' := by
  have HL := Lib.hid (lock_free ⟨b, off + 1, none⟩ w h1 f1)
  have HB := bool_load ⟨b, off, none⟩ 0 (w.setCell ⟨b, off + 1, none⟩ (.int .i32 1)) ((World.cell?_setCell_other _ ⟨b, off + 1, none⟩ ⟨b, off, none⟩ _ (by simp)).trans h0)
  have hnot : ∀ (x : Bool) (w : World), (Op.unary .not (.bool x)).run Tryz.prog w = .ok (.bool (!x)) w := fun _ _ => rfl
  rw [show ((0 : Int) != 0) = false from rfl] at HB
  replace HB := Lib.hid HB
  replace hf := Lib.hid hf
  clear h0 h1 f0 f1
  go_enter_defers Tryz.func112, Tryz.ntmps112
  go_wp2_with fail
  refine HL.out.mono ?_
  rintro e w' ⟨rfl, rfl⟩
  go_wp2_with fail
  refine HB.out.mono ?_
  rintro e w' ⟨rfl, rfl⟩
  go_wp2_with fail
  refine hf.out.mono ?_
  rintro e w2 ⟨rfl, hq⟩
  obtain ⟨q1, q2, q3, q4⟩ := HQ.done _ hq
  replace hq := Lib.hid hq
  go_wp2_with fail
  refine leaves_cons (f := 122) (args := #[.pointer (some ⟨b, off, none⟩), .bool true]) (by simp) (by simp [go_sem]) ?_
  refine (store_deferred ⟨b, off, none⟩ (.int .u32 0) .returning _ q1 q3).mono ?_
  rintro e u' w'' ⟨rfl, rfl, rfl⟩
  refine leaves_cons (f := 121) (args := #[.pointer (some ⟨b, off + 1, none⟩)]) (by simp [settle]) (by simp [go_sem]) ?_
  refine (unlock_deferred ⟨b, off + 1, none⟩ _ _ ?_ (by simp [q4])).mono ?_
  · exact (World.cell?_setCell_other _ ⟨b, off, none⟩ ⟨b, off + 1, none⟩ _ (by simp)).trans q2
  rintro e u' w'' ⟨rfl, rfl, rfl⟩
  simp [Leaves, settle, results, Tryz.results112]
  exact ⟨rfl, w2, hq.out, rfl⟩

set_option maxRecDepth 100000 in
/-- '(*sync.Once).Do', not yet done. -/
theorem rep_do {Q : World → Prop} {b off : Nat} (HQ : OnceQ Q b off) (pl : Addr) (w : World)
    (h0 : w.cell? ⟨b, off, none⟩ = some (.int .u32 0)) (h1 : w.cell? ⟨b, off + 1, none⟩ = some (.int .i32 0)) (f0 : w.frozen? ⟨b, off, none⟩ = false) (f1 : w.frozen? ⟨b, off + 1, none⟩ = false)
    (hf : Calls Tryz.prog 94 #[.pointer (some pl)] (w.setCell ⟨b, off + 1, none⟩ (.int .i32 1)) fun e w' => e = .returned (.tuple #[]) ∧ Q w') :
    Calls Tryz.prog 93 #[.pointer (some ⟨b, off, none⟩), .func (.func 94) #[.pointer (some pl)] #[]] w fun e w' => SlowPost Q b off e w' := by
  have HS := Lib.hid (rep_slow HQ pl w h0 h1 f0 f1 hf)
  have HB := bool_load ⟨b, off, none⟩ 0 w h0
  have hnot : ∀ (x : Bool) (w : World), (Op.unary .not (.bool x)).run Tryz.prog w = .ok (.bool (!x)) w := fun _ _ => rfl
  rw [show ((0 : Int) != 0) = false from rfl] at HB
  replace HB := Lib.hid HB
  clear h0 h1 f0 f1 hf
  go_enter Tryz.func93, Tryz.ntmps93
  go_wp2_with fail
  refine HB.out.mono ?_
  rintro e w' ⟨rfl, hw'⟩
  replace hw' := hw'.symm
  subst hw'
  go_wp2_with fail
  refine HS.out.mono ?_
  rintro e w2 ⟨rfl, hq⟩
  replace hq := Lib.hid hq
  go_wp2
  go_end0
  exact ⟨rfl, hq.out⟩

set_option maxRecDepth 100000 in
set_option maxHeartbeats 4000000 in
theorem rep_run (b o cp : Nat) (s : ByteArray) (hs : s.size ≤ 1000000) (w : World) (hb : w.heap[b]? = some (.cells #[.int .u32 0, .int .i32 0, .int .u32 0, .nilIface, .slice (some ⟨o, 0, none⟩) 4 cp] 169 (0, 0)))
    (hob : o ≠ b) (x0 : w.cell? ⟨o, 0, none⟩ = some (.string ⟨#[34]⟩)) (x1 : w.cell? ⟨o, 1, none⟩ = some (.string ⟨#[92, 34]⟩)) (x2 : w.cell? ⟨o, 2, none⟩ = some (.string ⟨#[92]⟩)) (x3 : w.cell? ⟨o, 3, none⟩ = some (.string ⟨#[92, 92]⟩)) :
    Calls Tryz.prog 69 #[.pointer (some ⟨b, 0, none⟩), .string s] w fun e w' => e = .returned (.string ⟨(escL s.data.toList).toArray⟩) ∧ w.grownBy w' (some b) := by
  have hlt := lt_of_block hb
  obtain ⟨w1, hw1⟩ : ∃ w1, w1 = w.setCell ⟨b, 1, none⟩ (.int .i32 1) := ⟨_, rfl⟩
  have hb1 : w1.heap[b]? = some (.cells #[.int .u32 0, .int .i32 1, .int .u32 0, .nilIface, .slice (some ⟨o, 0, none⟩) 4 cp] 169 (0, 0)) := by rw [hw1]; exact heap_setCell_same w b 1 _ _ (.int .i32 1) hb
  have kc : ∀ (j : Nat) (u : Value), w.cell? ⟨o, j, none⟩ = some u → w1.cell? ⟨o, j, none⟩ = some u := fun j u h => by rw [hw1]; exact (World.cell?_of_block (Below.heap_setCell _ _ _ _ hob)).trans h
  have hO := rep_once b o cp .nilIface w1 hb1 (kc _ _ x0) (kc _ _ x1) (kc _ _ x2) (kc _ _ x3)
  have HQ : OnceQ (fun W => ∃ rb, W.heap[b]? = some (.cells #[.int .u32 0, .int .i32 1, .int .u32 0, .iface 198 (.pointer (some ⟨rb, 0, none⟩)), .slice none 0 0] 169 (0, 0)) ∧ RepAt w1.heap.size W rb ∧ w1.grownBy W (some b)) b 0 := ⟨fun W ⟨rb, h, _⟩ => ⟨Lib.cell_of_heap h 0, Lib.cell_of_heap h 1, Lib.frozen_of_heap h 0, Lib.frozen_of_heap h 1⟩⟩
  have HD := Lib.hid (rep_do HQ ⟨b, 0, none⟩ w (Lib.cell_of_heap hb 0) (Lib.cell_of_heap hb 1) (Lib.frozen_of_heap hb 0) (Lib.frozen_of_heap hb 1) (by rw [← hw1]; exact hO))
  clear hO HQ kc x0 x1 x2 x3 hb
  go_enter Tryz.func69, Tryz.ntmps69
  go_wp2_with fail
  refine HD.out.mono ?_
  rintro e w3 ⟨rfl, w2, ⟨rb, h2, hR, hg2⟩, hw3⟩
  have g3 : w2.grownBy w3 (some b) := by
    rw [hw3]
    exact grown_trans (b := w2.drew) ⟨rfl, rfl, rfl, Nat.le_refl _, fun _ _ _ => rfl⟩ (grown_trans (set_grown w2.drew _ _ _) (set_grown _ _ _ _))
  have h3 : w3.heap[b]? = some (.cells #[.int .u32 1, .int .i32 0, .int .u32 0, .iface 198 (.pointer (some ⟨rb, 0, none⟩)), .slice none 0 0] 169 (0, 0)) := by
    rw [hw3]
    have h1 := heap_setCell_same w2.drew b 0 _ _ (.int .u32 1) h2
    exact heap_setCell_same _ b 1 _ _ (.int .i32 0) h1
  have hR3 : RepAt w1.heap.size w3 rb := by
    obtain ⟨g1, c1, g2, c2, v, hst, ht1, ht2, k1, k2⟩ := hR
    obtain ⟨A', a1, a2⟩ := hst.blk
    have hne : rb ≠ b := by have := hst.low; rw [hw1] at this; simp at this; omega
    refine ⟨g1, c1, g2, c2, v, ⟨⟨A', (g3.block rb (lt_of_block a1) (by intro e; exact hne (Option.some.inj e))).trans a1, a2⟩, hst.own.kept g3 (own_ne hst.own h2 (by decide)), hst.low⟩, ht1.grown g3 h2 (by decide), ht2.grown g3 h2 (by decide), k1, k2⟩
  have c3 := Lib.cell_of_heap h3 3
  have hg03 : Hid (w.grownBy w3 (some b)) := Lib.hid (by
    refine grown_trans ?_ (grown_trans hg2 g3)
    rw [hw1]
    exact set_grown _ _ _ _)
  have HRp := Lib.hid (rep_replace _ rb s hs w3 hR3)
  clear hw3 h2 hR hg2 g3 h3 hR3 hb1 HD
  go_wp2_with fail
  refine HRp.out.mono ?_
  rintro e w4 ⟨rfl, b4⟩
  replace b4 := Lib.hid b4
  go_wp2
  go_ret
  exact ⟨rfl, grown_trans hg03.out ⟨b4.out.os, b4.out.tape, b4.out.output, b4.out.size, fun k hk _ => b4.out.block k hk⟩⟩
end Go.Proofs.YtfaoamdlknlgpaaGreat

/- args: escaped. -/
namespace Go.Proofs.YtfaoamdlknlgpaaGreat
open Go.RowKit
set_option linter.unusedVariables false

def old4 : List (List Value) := [[.string ⟨#[34]⟩], [.string ⟨#[92, 34]⟩], [.string ⟨#[92]⟩], [.string ⟨#[92, 92]⟩]]

set_option maxRecDepth 100000 in
set_option maxHeartbeats 4000000 in
theorem rep_new (o : Nat) (w : World) (hrow : Row w 1 (some ⟨o, 0, none⟩) old4) :
    Calls Tryz.prog 68 #[.slice (some ⟨o, 0, none⟩) 4 4] w fun e w' => ∃ b o2 cp, e = .returned (.pointer (some ⟨b, 0, none⟩)) ∧ w.heap.size ≤ b ∧ o2 ≠ b ∧ w'.heap[b]? = some (.cells #[.int .u32 0, .int .i32 0, .int .u32 0, .nilIface, .slice (some ⟨o2, 0, none⟩) 4 cp] 169 (0, 0)) ∧ w'.cell? ⟨o2, 0, none⟩ = some (.string ⟨#[34]⟩) ∧ w'.cell? ⟨o2, 1, none⟩ = some (.string ⟨#[92, 34]⟩) ∧ w'.cell? ⟨o2, 2, none⟩ = some (.string ⟨#[92]⟩) ∧ w'.cell? ⟨o2, 3, none⟩ = some (.string ⟨#[92, 92]⟩) ∧ Below w.heap.size w w' := by
  go_enter Tryz.func68, Tryz.ntmps68
  go_wp2_with (at_builtin; go_must (refine wpList_appendN Er9 rfl rfl (Own.nil w w.heap.size _ _) rfl rfl (css2 := old4) rfl (fun e => by cases e) hrow (by simp [old4]) (by simp [old4, Value.oneCell']) (by decide) (by decide) (Nat.le_refl _) ?_); intro v4 w4 hown4 hg4; have hb4 : Below w.heap.size w w4 := bapp (Below.refl _ w) (Own.nil w w.heap.size 9 1) hg4 (Nat.le_refl _); obtain ⟨lo4, lc4, rfl, _, _, hrw, _⟩ := hown4.rown (n := 4) rfl)
  obtain ⟨o2, rfl⟩ : ∃ o2, lo4 = some ⟨o2, 0, none⟩ := by
    rcases hown4.1.2 with ⟨_, h0⟩ | ⟨g, cap, cur, hv, _⟩
    · exact absurd h0 (by simp [old4])
    · simp only [Value.slice.injEq] at hv
      exact ⟨g, hv.1⟩
  obtain ⟨b', o', e, hat⟩ := hrw (by simp [old4])
  simp only [Option.some.injEq, Addr.mk.injEq, and_true] at e
  obtain ⟨rfl, rfl⟩ := e
  have y0 := hat 0 _ rfl 0 _ rfl
  have y1 := hat 1 _ rfl 0 _ rfl
  have y2 := hat 2 _ rfl 0 _ rfl
  have y3 := hat 3 _ rfl 0 _ rfl
  have hlt := cell_lt y0
  simp only at hlt
  have bb : Below w4.heap.size w4 (w4.alloc (.cells #[.int .u32 0, .int .i32 0, .int .u32 0, .nilIface, .slice (some ⟨o2, 0, none⟩) 4 lc4] 169)) := (Below.refl _ _).alloc (Nat.le_refl _) _
  go_ret
  exact ⟨w4.heap.size, o2, lc4, rfl, hb4.size, by omega, heap_alloc_new _ _, kept_cell bb y0, kept_cell bb y1, kept_cell bb y2, kept_cell bb y3, hb4.trans (bb.mono hb4.size)⟩

set_option maxRecDepth 100000 in
theorem escaped_any (s : ByteArray) (hs : s.size ≤ 1000000) (w : World) :
    Calls Tryz.prog 45 #[.string s] w fun e w' => e = .returned (.string ⟨(escL s.data.toList).toArray⟩) ∧ Below w.heap.size w w' := by
  have hrow : Row (w.alloc (.cells #[.string ⟨#[34]⟩, .string ⟨#[92, 34]⟩, .string ⟨#[92]⟩, .string ⟨#[92, 92]⟩] 9)) 1 (some ⟨w.heap.size, 0, none⟩) old4 := row_new w (css := old4) (by simp [old4]) 9 (by simp [old4]) rfl
  have HN := Lib.hid (rep_new w.heap.size _ hrow)
  have hb0 : Hid (Below w.heap.size w (w.alloc (.cells #[.string ⟨#[34]⟩, .string ⟨#[92, 34]⟩, .string ⟨#[92]⟩, .string ⟨#[92, 92]⟩] 9))) := Lib.hid ((Below.refl _ w).alloc (Nat.le_refl _) _)
  go_enter Tryz.func45, Tryz.ntmps45
  go_wp2_with fail
  refine HN.out.mono ?_
  rintro e w1 ⟨b, o2, cp, rfl, hlb, hne, hb, x0, x1, x2, x3, b1⟩
  have hb1 := hb0.out.trans (b1.mono hb0.out.size)
  have HR := Lib.hid (rep_run b o2 cp s hs w1 hb hne x0 x1 x2 x3)
  replace hb1 := Lib.hid hb1
  clear x0 x1 x2 x3 hb b1 HN hrow
  go_wp2_with fail
  refine HR.out.mono ?_
  rintro e w2 ⟨rfl, g2⟩
  have hlb' := hlb
  rw [World.size_alloc] at hlb'
  have b2 := Lib.hid (hb1.out.grown g2 hb1.out.size (by intro k hk; obtain rfl := Option.some.inj hk; omega))
  clear g2
  go_wp2
  go_ret
  exact ⟨rfl, b2.out⟩
end Go.Proofs.YtfaoamdlknlgpaaGreat

/- args: texts as strings: Quoted, by the program and by the document. -/
namespace Go.Proofs.YtfaoamdlknlgpaaGreat
open Go.RowKit
set_option linter.unusedVariables false

theorem Eb5 : EI Tryz.prog 58 5 (.int .u8 0) 1 1 := ⟨Tryz.underlying58, by kernel_rfl, rfl, by decide⟩

def byC (l : List UInt8) : List (List Value) := l.map fun c => [.int .u8 c.toNat]
theorem byC_len (l : List UInt8) : (byC l).length = l.length := List.length_map _
theorem byC_snoc (l : List UInt8) (c : UInt8) : byC (l ++ [c]) = byC l ++ [[.int .u8 c.toNat]] := by unfold byC; rw [List.map_append]; rfl

/-- a text between double quotes -/
def quoteL (s : List UInt8) : List UInt8 := 34 :: (escL s ++ [34])

theorem escL_sz {s : ByteArray} (hs : s.size ≤ 1000000) : ¬ 9223372036854775807 < 1 + (escL s.data.toList).length ∧ ¬ 9223372036854775807 < 1 + (escL s.data.toList).length + 1 := by
  have h1 := escL_len s.data.toList
  have h2 := escN_le s.data.toList
  have h3 : s.data.toList.length = s.size := Array.length_toList
  omega

set_option maxRecDepth 100000 in
theorem pQuoted_any (s : ByteArray) (hs : s.size ≤ 1000000) (w : World) :
    Calls Tryz.prog 18 #[.string s] w fun e w' => e = .returned (.string ⟨(quoteL s.data.toList).toArray⟩) ∧ Below w.heap.size w w' := by
  have HE := Lib.hid (escaped_any s hs w)
  obtain ⟨hz1, hz2⟩ := escL_sz hs
  have hl : Hid ((⟨#[34]⟩ : ByteArray) ++ (⟨(escL s.data.toList).toArray⟩ : ByteArray) ++ (⟨#[34]⟩ : ByteArray) = ⟨(quoteL s.data.toList).toArray⟩) := Lib.hid (by
    apply ByteArray.ext
    simp [quoteL])
  go_enter Tryz.func18, Tryz.ntmps18
  go_wp2_with fail
  refine HE.out.mono ?_
  rintro e w1 ⟨rfl, b1⟩
  replace b1 := Lib.hid b1
  go_wp2
  go_ret
  exact ⟨by rw [← hl.out]; rfl, b1.out⟩

theorem escL_size {s : ByteArray} (hs : s.size ≤ 1000000) : (escL s.data.toList).length ≤ 2000000 := by
  have h1 := escL_len s.data.toList
  have h2 := escN_le s.data.toList
  have h3 : s.data.toList.length = s.size := Array.length_toList
  omega

theorem escC_cases (c : UInt8) : (c = 34 ∧ escC c = [92, 34]) ∨ (c ≠ 34 ∧ c = 92 ∧ escC c = [92, 92]) ∨ (c ≠ 34 ∧ c ≠ 92 ∧ escC c = [c]) := by
  unfold escC escB
  by_cases h1 : c = 34
  · subst h1; exact .inl ⟨rfl, rfl⟩
  · by_cases h2 : c = 92
    · subst h2; exact .inr (.inl ⟨by decide, rfl, rfl⟩)
    · exact .inr (.inr ⟨h1, h2, by simp [h1, h2]⟩)

theorem u8_int {c : UInt8} {n : Nat} (hn : n < 256) (h : c ≠ UInt8.ofNat n) : ¬ (c.toNat : Int) = n ∧ ((c.toNat : Int) == n) = false := by
  have : ¬ (c.toNat : Int) = n := by
    intro e
    apply h
    apply UInt8.toNat_inj.1
    simp
    omega
  exact ⟨this, beq_false_of_ne this⟩

set_option maxRecDepth 100000 in
set_option maxHeartbeats 2000000 in
theorem rQuoted_any (s : ByteArray) (hs : s.size ≤ 1000000) (w : World) :
    Calls Tryz.prog 19 #[.string s] w fun e w' => e = .returned (.string ⟨(quoteL s.data.toList).toArray⟩) ∧ Below w.heap.size w w' := by
  have hsl : s.data.toList.length = s.size := Array.length_toList
  replace hsl := Lib.hid hsl
  have ho0 : Hid (Own (w.alloc (.cells #[.int .u8 34] 5)) w.heap.size 5 1 (.slice (some ⟨w.heap.size, 0, none⟩) 1 1) (byC (34 :: escL (s.data.toList.take 0)))) := Lib.hid ⟨World.ownsRow_lit w #[.int .u8 34] 1 (Nat.le_refl _) (by decide) rfl, by simp [byC]⟩
  have hb0 : Hid (Below w.heap.size w (w.alloc (.cells #[.int .u8 34] 5))) := Lib.hid ((Below.refl _ w).alloc (Nat.le_refl _) _)
  go_enter Tryz.func19, Tryz.ntmps19
  go_wp2_with fail
  go_loopg [3, 4] s.size (fun q v3 v4 wx => ∃ i : Nat, q = s.size - i ∧ i ≤ s.size ∧ v4 = .int .i64 i ∧ Hid (Own wx w.heap.size 5 1 v3 (byC (34 :: escL (s.data.toList.take i)))) ∧ Hid (Below w.heap.size w wx))
  case atStart => exact ⟨0, rfl, Nat.zero_le _, rfl, ho0, hb0⟩
  case round =>
    clear ho0 hb0
    obtain ⟨i, hq, hi, rfl, ho, hb⟩ := hrel
    replace hq := hq.symm
    subst hq
    have hsB := hb.out.size
    have hlen : Hid ((byC (34 :: escL (s.data.toList.take i))).length + 3 ≤ 1000000000) := Lib.hid (by
      rw [byC_len, List.length_cons, escL_len]
      have := escN_le (s.data.toList.take i)
      have h2 : (s.data.toList.take i).length ≤ s.size := by rw [List.length_take, hsl.out]; omega
      omega)
    by_cases hin : i < s.size
    · have hin' : (i : Int) < s.size := by omega
      have f4 : Hid (s.size - (i + 1) < s.size - i) := Lib.hid (by omega)
      have g1 : IntKind.i64.wrap ((i : Int) + 1) = (i : Int) + 1 := IntWalk.i64_in _ (by omega)
      obtain ⟨c, hc⟩ : ∃ c, s.data.toList[i]? = some c := ⟨_, List.getElem?_eq_getElem (by rw [hsl.out]; exact hin)⟩
      have hci : (s[i]'hin) = c := by
        rw [List.getElem?_eq_some_iff] at hc
        obtain ⟨h1, h2⟩ := hc
        rw [← h2]; simp [ByteArray.getElem_eq_getElem_data]
      have hst := escL_take hc
      rcases escC_cases c with ⟨rfl, he⟩ | ⟨hn, rfl, he⟩ | ⟨hn, hn2, he⟩
      · have hn34 : ((UInt8.toNat 34 : Nat) : Int) = 34 := rfl
        rw [he] at hst
        replace hst := Lib.hid hst
        go_wp2_with (at_builtin; first
          | (refine wpList_append1 Eb5 rfl rfl ho.out rfl rfl (news := [.int .u8 92]) (by simp) rfl (by simp [Value.oneCell']) (by have := hlen.out; omega) (by decide) hsB ?_; intro v5 w5 hown5 hg5; have hb5 := bapp hb.out ho.out hg5 hsB; have hs5 := hb5.size)
          | (refine wpList_append1 Eb5 rfl rfl hown5 rfl rfl (news := [.int .u8 34]) (by simp) rfl (by simp [Value.oneCell']) (by rw [List.length_append]; have := hlen.out; simp; omega) (by decide) hs5 ?_; intro v6 w6 hown6 hg6; have hb6 := bapp hb5 hown5 hg6 hs5))
        go_roundg (s.size - (i + 1))
        case measure => exact f4.out
        case rel => exact ⟨i + 1, rfl, by omega, by simp, Lib.hid (by rw [hst.out, ← List.cons_append]; simpa [byC] using hown6), Lib.hid hb6⟩
      · have hn92 : ((UInt8.toNat 92 : Nat) : Int) = 92 := rfl
        rw [he] at hst
        replace hst := Lib.hid hst
        go_wp2_with (at_builtin; first
          | (refine wpList_append1 Eb5 rfl rfl ho.out rfl rfl (news := [.int .u8 92]) (by simp) rfl (by simp [Value.oneCell']) (by have := hlen.out; omega) (by decide) hsB ?_; intro v5 w5 hown5 hg5; have hb5 := bapp hb.out ho.out hg5 hsB; have hs5 := hb5.size)
          | (refine wpList_append1 Eb5 rfl rfl hown5 rfl rfl (news := [.int .u8 92]) (by simp) rfl (by simp [Value.oneCell']) (by rw [List.length_append]; have := hlen.out; simp; omega) (by decide) hs5 ?_; intro v6 w6 hown6 hg6; have hb6 := bapp hb5 hown5 hg6 hs5))
        go_roundg (s.size - (i + 1))
        case measure => exact f4.out
        case rel => exact ⟨i + 1, rfl, by omega, by simp, Lib.hid (by rw [hst.out, ← List.cons_append]; simpa [byC] using hown6), Lib.hid hb6⟩
      · obtain ⟨n1, n2⟩ := u8_int (n := 34) (by decide) hn
        obtain ⟨n3, n4⟩ := u8_int (n := 92) (by decide) hn2
        rw [he] at hst
        replace hst := Lib.hid hst
        go_wp2_with (at_builtin; first
          | (refine wpList_append1 Eb5 rfl rfl ho.out rfl rfl (news := [.int .u8 c.toNat]) (by simp) rfl (by simp [Value.oneCell']) (by have := hlen.out; omega) (by decide) hsB ?_; intro v5 w5 hown5 hg5; have hb5 := bapp hb.out ho.out hg5 hsB))
        go_roundg (s.size - (i + 1))
        case measure => exact f4.out
        case rel => exact ⟨i + 1, rfl, by omega, by simp, Lib.hid (by rw [hst.out, ← List.cons_append]; simpa [byC] using hown5), Lib.hid hb5⟩
    · obtain rfl : i = s.size := by omega
      have hin' : ¬ (s.size : Int) < (s.size : Int) := by omega
      have ht : s.data.toList.take s.size = s.data.toList := List.take_of_length_le (by rw [hsl.out]; exact Nat.le_refl _)
      rw [ht] at ho hlen
      go_wp2_with (at_builtin; first
        | (refine wpList_append1 Eb5 rfl rfl ho.out rfl rfl (news := [.int .u8 34]) (by simp) rfl (by simp [Value.oneCell']) (by have := hlen.out; omega) (by decide) hsB ?_; intro v5 w5 hown5 hg5; have hb5 := Lib.hid (bapp hb.out ho.out hg5 hsB); have hcv := run_str_own (P := Tryz.prog) (l := quoteL s.data.toList) (by simpa [byC, quoteL] using hown5) 58 9 Tryz.underlying58 Tryz.underlying5 Tryz.underlying9))
      go_ret
      exact ⟨rfl, hb5.out⟩
end Go.Proofs.YtfaoamdlknlgpaaGreat
