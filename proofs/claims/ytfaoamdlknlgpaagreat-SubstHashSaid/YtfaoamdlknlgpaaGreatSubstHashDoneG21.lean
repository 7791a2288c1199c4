/- Texts of this seat's proofs, laid into one file. -/
import Derived.Test.YtfaoamdlknlgpaaGreatSubstHashDoneG19
import Derived.Test.YtfaoamdlknlgpaaGreatSubstHashDoneG20
import Derived.Deep.LoopGhost
import Derived.BigQuiet
import Derived.Deep.RegionHeld3
/- lex's next: the walk. -/
namespace Go.Proofs.YtfaoamdlknlgpaaGreat
open Go.RowKit
set_option linter.unusedVariables false

def zeroTok : List Value := [.int .i64 0, .string ⟨#[]⟩, .bool false, .string ⟨#[]⟩, .int .i64 0, .int .i64 0, .bool false, .slice none 0 0]

def LwS (W0 : World) (b : Nat) (file : ByteArray) (n : Nat) (lo : Option Addr) (cap : Nat) (s : NS) (w : World) : Prop := ∃ vd, LwAt W0 w b file n lo cap s.i vd s.ds s.sp s.q

def NextPost (W0 : World) (b : Nat) (file : ByteArray) (R : List Rn) (n : Nat) (lo : Option Addr) (cap : Nat) (s0 : NS) (w : World) (e : Ending) (w' : World) : Prop :=
  ∃ s, Skips R s0 s ∧ KeptX w w' ∧
    (¬ AtIn R s ∧ e = .returned (.tuple #[.agg zeroTok.toArray, .bool s.op, .bool false]) ∧ LwS W0 b file n lo cap s w' ∨
     AtTok R s ∧ e = .returned (.tuple #[.agg (tkC file (tokN R s)).toArray, .bool false, .bool true]) ∧ LwS W0 b file n lo cap (afterTok R s) w')

/-- at the label again -/
def AgainJ (W0 : World) (b : Nat) (file : ByteArray) (R : List Rn) (n : Nat) (lo : Option Addr) (cap : Nat) (s0 : NS) (T : Nat) (w2 : World) (u : Nat) (a' : Act) (wr : World) : Prop :=
  ∃ (s : NS) (vd v6 : Value) (xs : List Value), a' = { tmps := (Value.pointer (some ⟨b, 0, none⟩) :: undef :: .pointer (some ⟨T, 0, none⟩) :: .bool s.op :: .bool false :: .pointer (some ⟨T + 1, 0, none⟩) :: v6 :: .int .i64 0 :: .int .i64 0 :: xs).toArray, defers := [] } ∧ xs.length = 121 ∧
    u = n - s.i ∧ s.i ≤ n ∧ Skips R s0 s ∧ LwAt W0 wr b file n lo cap s.i vd s.ds s.sp s.q ∧ KeptX w2 wr

/-- at the label end -/
def EndJ (W0 : World) (b : Nat) (file : ByteArray) (R : List Rn) (n : Nat) (lo : Option Addr) (cap : Nat) (s0 : NS) (T : Nat) (w : World) (a' : Act) (wr : World) : Prop :=
  ∃ (s : NS) (xs : List Value), a' = { tmps := (Value.pointer (some ⟨b, 0, none⟩) :: undef :: .pointer (some ⟨T, 0, none⟩) :: .bool s.op :: .bool false :: xs).toArray, defers := [] } ∧ xs.length = 125 ∧
    Skips R s0 s ∧ ¬ AtIn R s ∧ LwS W0 b file n lo cap s wr ∧ KeptX w wr ∧ wr.heap[T]? = some (.cells zeroTok.toArray 34 (0, 0))

set_option maxHeartbeats 4000000 in
set_option maxRecDepth 100000 in
theorem next_any (W0 : World) (b : Nat) (file : ByteArray) (R : List Rn) (lo : Option Addr) (cap : Nat) (vd : Value) (s0 : NS) (HR : ∀ w', Bel b W0 w' → Row w' 3 lo (R.map Rn.v)) (hcap : R.length ≤ cap) (hl : R.length ≤ 1000001) (ha : s0.i ≤ R.length) (hd : s0.ds.length ≤ s0.i + 3) (hop : s0.op = false) (w : World) (h : LwAt W0 w b file R.length lo cap s0.i vd s0.ds s0.sp s0.q) :
    Calls Tryz.prog 65 #[.pointer (some ⟨b, 0, none⟩)] w fun e w' => NextPost W0 b file R R.length lo cap s0 w e w' := by
  obtain ⟨n, hn⟩ : ∃ n, n = R.length := ⟨_, rfl⟩
  have HN : Hid (R.length = n) := Lib.hid hn.symm
  have HCom := fun (s : NS) vd' w' (h1 : s.i ≤ R.length) (h2 : s.ds.length ≤ 1000010) (h' : LwAt W0 w' b file R.length lo cap s.i vd' s.ds s.sp s.q) => pcomment_any W0 b file R lo cap s.i vd' s.ds s.sp s.q HR hcap hl h1 h2 w' h'
  have HTok := fun (s : NS) vd' w' (h1 : s.i ≤ R.length) (h2 : s.ds.length ≤ 1000010) (h' : LwAt W0 w' b file R.length lo cap s.i vd' s.ds s.sp s.q) => token_any W0 b file R lo cap s.i vd' s.ds s.sp s.q HR hcap hl h1 h2 w' h'
  have HW := fun (s : NS) vd' w' (h1 : s.i ≤ R.length) (h' : LwAt W0 w' b file R.length lo cap s.i vd' s.ds s.sp s.q) => h'.wk HR hcap (by omega) (by omega)
  rw [← hn] at hl ha h hcap HCom HTok HW ⊢
  replace HCom := Lib.hid HCom
  replace HTok := Lib.hid HTok
  replace HW := Lib.hid HW
  replace HR := Lib.hid HR
  replace hd := Lib.hid hd
  clear hn
  obtain ⟨T, hTT⟩ : ∃ T, T = w.heap.size := ⟨_, rfl⟩
  obtain ⟨w2, hw2⟩ : ∃ w2, w2 = (w.alloc (.cells zeroTok.toArray 34)).alloc (.cells #[.pointer none, .slice none 0 0] 74) := ⟨_, rfl⟩
  have hb2 : Below w.heap.size w w2 := by rw [hw2]; exact ((Below.refl _ w).alloc (Nat.le_refl _) _).alloc (by simp) _
  have hT2 : w2.heap[T]? = some (.cells zeroTok.toArray 34 (0, 0)) := by
    rw [hw2, hTT]
    exact (Lib.alloc_old _ _ _ (by simp)).trans (heap_alloc_new w _)
  have hB2 : w2.heap[T + 1]? = some (.cells #[.pointer none, .slice none 0 0] 74 (0, 0)) := by
    rw [hw2, hTT]
    have := heap_alloc_new (w.alloc (.cells zeroTok.toArray 34)) (.cells #[.pointer none, .slice none 0 0] 74)
    simpa using this
  have hs2 : w2.heap.size = T + 2 := by rw [hw2, hTT]; simp
  have h2 := h.after hb2
  obtain ⟨i0, ds0, sp0, q0, op0⟩ := s0
  subst hop
  go_enter Tryz.func65, Tryz.ntmps65
  go_wp2_with fail
  refine wp_scope_two' 1 0 (AgainJ W0 b file R n lo cap ⟨i0, ds0, sp0, q0, false⟩ T w2) (EndJ W0 b file R n lo cap ⟨i0, ds0, sp0, q0, false⟩ T w) rfl rfl ?_ ?_ ?_
  · intro Rst
    replace hw2 := Lib.hid hw2
    go_wp2
    go_step3
    go_step
    go_step
    rw [← hTT, show ((w.alloc (.cells #[.int .i64 0, .string ⟨#[]⟩, .bool false, .string ⟨#[]⟩, .int .i64 0, .int .i64 0, .bool false, .slice none 0 0] 34)).alloc (.cells #[.pointer none, .slice none 0 0] 74)) = w2 from hw2.out.symm]
    replace hTT := Lib.hid hTT
    exact Rst.out (n - i0) _ _ ⟨⟨i0, ds0, sp0, q0, false⟩, vd, _, _, rfl, rfl, rfl, ha, .refl _, h2, KeptX.refl _⟩
  · rintro u a' wr ⟨s, vd, v6, xs, rfl, hxs, rfl, hi, hsk, hL, hX⟩
    obtain ⟨F, rfl⟩ := frame121 hxs
    clear hxs
    replace hw2 := Lib.hid hw2
    replace hTT := Lib.hid hTT
    obtain ⟨c0, c1, c2, c3, c4, c5⟩ := cells6 hL.cells
    have fr := fun j => Lib.frozen_of_heap hL.cells j
    have hTr : wr.heap[T]? = some (.cells zeroTok.toArray 34 (0, 0)) := hX.2 T _ _ _ hT2 (by decide) (by decide)
    by_cases hlt : s.i < n
    · obtain ⟨r, hr⟩ : ∃ r, R[s.i]? = some r := ⟨R[s.i]'(by rw [HN.out]; exact hlt), by simp⟩
      have hrc := cs_at hr
      obtain ⟨rb, ro, rfl, hat⟩ := HR.out wr hL.below (by intro h; simp at h; subst h; simp at hr)
      have d0 := hat.cell (i := s.i) (cs := r.v) (by simp [hr]) (j := 0) (u := .int .u8 r.c.toNat) rfl
      simp only [Nat.add_zero] at d0
      have e1 : ¬ (n : Int) ≤ s.i := by omega
      have dg : decide ((n : Int) ≤ s.i) = false := decide_eq_false (by omega)
      clear hat
      replace hr := Lib.hid hr
      by_cases h10 : r.c = 10
      · have b10 : ((r.c.toNat : Int) == 10) = true := by rw [h10]; rfl
        have hend : Hid (¬ AtIn R s) := Lib.hid (fun h => h.2 (by rw [hrc]; exact h10))
        replace hrc := Lib.hid hrc
        replace h10 := Lib.hid h10
        go_wp2_with fail
        go_quiet (fail)
        go_wp2
        go_step3
        refine .inr ⟨rfl, s, _, rfl, ?_, hsk, hend.out, ⟨vd, hL.after (drewN_below wr nq)⟩, ((KeptX.below hb2).trans hX).trans (KeptX.below (drewN_below wr nq)), ?_⟩
        · rfl
        exact ((drewN_below wr nq).block T (lt_of_block hTr)).trans hTr
      · have b10 : ((r.c.toNat : Int) == 10) = false := beq_false_of_ne (fun e => h10 ((u8eq _ _).2 e))
        have hin : Hid (AtIn R s) := Lib.hid ⟨by rw [HN.out]; exact hlt, by rw [hrc]; exact h10⟩
        obtain ⟨wb, hwb⟩ : ∃ wb, wb = whiteB r.c := ⟨_, rfl⟩
        have HWh := fun w' => pwhite_any r.c w'
        rw [← hwb] at HWh
        have hwb2 : Hid (wb = whiteB (chAt (cs R) s.i)) := Lib.hid (by rw [hrc]; exact hwb)
        have q1 : IntKind.i64.wrap ((s.i : Int) + 1) = (s.i : Int) + 1 := IntWalk.i64_in _ (by omega)
        replace HWh := Lib.hid HWh
        replace hwb := Lib.hid hwb
        replace hrc := Lib.hid hrc
        replace h10 := Lib.hid h10
        go_wp2_with fail
        go_quiet (fail)
        have hL2 := hL.after (drewN_below wr nq)
        have hX2 := hX.trans (KeptX.below (drewN_below wr nq))
        have d0' := kept_cell (drewN_below wr nq) d0
        obtain ⟨wq, hwq⟩ : ∃ wq, wq = wr.drewN nq := ⟨_, rfl⟩
        rw [← hwq] at hL2 hX2 d0' ⊢
        clear hwq c0 c1 c2 c3 c4 c5 d0 fr hX hL hTr
        obtain ⟨c0, c1, c2, c3, c4, c5⟩ := cells6 hL2.cells
        go_wp2_with fail
        go_quiet (first | (go_at_call 87; exact Calls.quiet_of_same (HWh.out _)))
        have hL3 := hL2.after (drewN_below wq nq)
        have hX3 := hX2.trans (KeptX.below (drewN_below wq nq))
        obtain ⟨wz, hwz⟩ : ∃ wz, wz = wq.drewN nq := ⟨_, rfl⟩
        rw [← hwz] at hL3 hX3 ⊢
        clear hwz c0 c1 c2 c3 c4 c5 d0' hX2 hL2
        obtain ⟨c0, c1, c2, c3, c4, c5⟩ := cells6 hL3.cells
        have fr := fun j => Lib.frozen_of_heap hL3.cells j
        cases wb with
        | true =>
          go_wp2_with fail
          go_step3
          refine .inl ⟨rfl, n - (s.i + 1), by omega, ⟨s.i + 1, s.ds, true, s.q, s.op⟩, vd, v6, _, rfl, ?_, rfl, by simp only; omega, .white hsk hin.out hwb2.out.symm, (hL3.at (s.i + 1)).space true, (hX3.trans (KeptX.set hL3.cells _ _)).trans (KeptX.set (hL3.at (s.i + 1)).cells _ _)⟩
          rfl
        | false =>
          have hbd := hsk.bound (by simp only; rw [HN.out]; exact ha)
          have hdl : s.ds.length ≤ 1000010 := by have := hd.out; simp only at hbd this; omega
          have HC := HCom.out s vd wz hi hdl hL3
          unfold ComPost at HC
          obtain ⟨C, hC⟩ : ∃ C, C = commentL (cs R) s.i := ⟨_, rfl⟩
          have hcl := commentL_len (A := cs R) (i := s.i) (by rw [cs_len, HN.out]; exact hlt)
          have hce := com_open_end (A := cs R) (i := s.i)
          rw [cs_len, HN.out] at hcl hce
          rw [← hC] at HC hcl hce
          obtain ⟨C1, C2⟩ := C
          obtain ⟨tb, htb⟩ : ∃ tb, tb = decide (s.i < C1) := ⟨_, rfl⟩
          simp only at HC hcl hce
          rw [← htb] at HC
          replace HC := Lib.hid HC
          replace hC := Lib.hid hC
          replace hce := Lib.hid hce
          go_wp2_with fail
          refine HC.out.mono ?_
          rintro e w5 ⟨vd5, rfl, h5, hX5⟩
          have hX5' := hX3.trans hX5
          clear c0 c1 c2 c3 c4 c5 fr
          obtain ⟨c0, c1, c2, c3, c4, c5⟩ := cells6 h5.cells
          have fr := fun j => Lib.frozen_of_heap h5.cells j
          cases tb with
          | true =>
            have hlc : s.i < C1 := of_decide_eq_true htb.symm
            replace htb := Lib.hid htb
            go_wp2_with fail
            go_step3
            refine .inl ⟨rfl, n - C1, by omega, ⟨C1, s.ds ++ if C2 then [⟨1, rF R s.i, rT R (s.i + 1)⟩] else [], true, s.q, C2⟩, vd5, .bool true, _, rfl, ?_, rfl, hcl.2, ?_, h5.space true, hX5'.trans (KeptX.set h5.cells _ _)⟩
            · rfl
            · have := Skips.com hsk hin.out hwb2.out.symm (by rw [← hC.out]; exact hlc)
              rw [← hC.out] at this
              exact this
          | false =>
            have hnc : ¬ s.i < C1 := of_decide_eq_false htb.symm
            replace htb := Lib.hid htb
            have hC1 : C1 = s.i := by omega
            have hC2 : C2 = false := by
              cases C2 with
              | false => rfl
              | true => have := hce.out rfl; omega
            subst hC1 hC2
            have htk : Hid (AtTok R s) := Lib.hid ⟨hin.out, hwb2.out.symm, by rw [← hC.out]; exact hnc⟩
            simp only [Bool.false_eq_true, if_false, List.append_nil] at h5
            have HT := HTok.out s vd5 w5 hi hdl h5
            have hnl := nextL_len (A := cs R) (i := s.i) (by rw [cs_len, HN.out]; exact hlt)
            rw [cs_len, HN.out] at hnl
            unfold TokPost ConstPost at HT
            rw [tok_next (by rw [cs_len, HN.out]; exact hlt)] at HT
            obtain ⟨nk, hnk⟩ : ∃ nk, (nextL (cs R) s.i).2.1 = s.i + nk := ⟨(nextL (cs R) s.i).2.1 - s.i, by omega⟩
            obtain ⟨kd, hkd⟩ : ∃ kd, kd = (nextL (cs R) s.i).1 := ⟨_, rfl⟩
            obtain ⟨ds9, hds9⟩ : ∃ d, d = (s.ds ++ if tellB (cs R) s.i s.q then [(⟨2, rF R (s.i + (lettersL (cs R) s.i).toNat), rT R (s.i + (lettersL (cs R) s.i).toNat)⟩ : Dg)] else []) := ⟨_, rfl⟩
            obtain ⟨q9, hq9⟩ : ∃ d, d = (if tellB (cs R) s.i s.q then ((s.i + (lettersL (cs R) s.i).toNat : Nat) : Int) else s.q) := ⟨_, rfl⟩
            rw [hnk, Nat.add_sub_cancel_left, ← hds9, ← hq9, ← hkd] at HT
            rw [hnk] at hnl
            replace HT := Lib.hid HT
            replace hnk := Lib.hid hnk
            replace hkd := Lib.hid hkd
            replace hds9 := Lib.hid hds9
            replace hq9 := Lib.hid hq9
            go_wp2_with fail
            refine HT.out.mono ?_
            rintro e w6 ⟨vd6, rfl, h6, hX6⟩
            have hX6' := hX5'.trans hX6
            clear c0 c1 c2 c3 c4 c5 fr hX5 hX6 hX5' hX3 hL3 h5
            obtain ⟨c0, c1, c2, c3, c4, c5⟩ := cells6 h6.cells
            have q2 : IntKind.i64.wrap ((s.i : Int) + nk) = (s.i : Int) + nk := IntWalk.i64_in _ (by omega)
            have q3 : (s.i : Int) + nk ≤ cap := by omega
            have q5 : s.i + nk - s.i = nk := by omega
            have q4 : (s.i : Int) ≤ (s.i : Int) + nk := by omega
            go_wp2_with fail
            go_quiet (fail)
            have h7 := h6.after (drewN_below w6 nq)
            have hX7 := hX6'.trans (KeptX.below (drewN_below w6 nq))
            obtain ⟨w7, hw7⟩ : ∃ w7, w7 = w6.drewN nq := ⟨_, rfl⟩
            rw [← hw7] at h7 hX7 ⊢
            clear hw7 c0 c1 c2 c3 c4 c5 hX6' h6
            have hbT : b < T := by rw [hTT.out]; exact lt_of_block h.cells
            have hBl : Bld w7 (T + 1) (T + 1) [] := .inl ⟨Nat.le_refl _, .slice none 0 0, hX7.2 (T + 1) _ _ _ hB2 (by decide) (by decide), ⟨rfl, .inl ⟨rfl, rfl⟩⟩, by simp [Value.ownBlock]⟩
            have hs7 : T + 2 ≤ w7.heap.size := by have := hX7.1; omega
            go_wp2_with fail
            rw [q5]
            go_loopg [88] nk (fun u v w8 => ∃ k : Nat, u = nk - k ∧ k ≤ nk ∧ v = .int .i64 k ∧ MidAt W0 w7 w8 b file n (some ⟨rb, ro, none⟩) cap s.i vd6 ds9 s.sp q9 T (((cs R).drop s.i).take k) zeroTok.toArray)
            case atStart => exact ⟨0, rfl, Nat.zero_le _, rfl, ⟨h7, by simpa using hBl, Below.refl _ _, hX7.2 T _ _ _ hT2 (by decide) (by decide), hs7⟩⟩
            case round =>
              obtain ⟨k, rfl, hk, rfl, hM⟩ := hrel
              by_cases hkn : k < nk
              · obtain ⟨r2, hr2⟩ : ∃ r, R[s.i + k]? = some r := ⟨R[s.i + k]'(by rw [HN.out]; omega), by simp⟩
                have hrow := HR.out wr hM.lw.below
                obtain ⟨rb', ro', e', hat⟩ := hrow (by intro h; simp at h; subst h; simp at hr2)
                simp only [Option.some.injEq, Addr.mk.injEq, and_true] at e'
                obtain ⟨rfl, rfl⟩ := e'
                have hat2 := hat.sub s.i nk
                have hi2 : (((R.map Rn.v).drop s.i).take nk)[k]? = some r2.v := by
                  rw [List.getElem?_take, if_pos hkn, List.getElem?_drop, List.getElem?_map, hr2]
                  rfl
                have g0 := hat2.cell hi2 (j := 0) (u := .int .u8 r2.c.toNat) rfl
                have g1 := hat2.cell hi2 (j := 1) (u := .int .i64 r2.f) rfl
                have g2 := hat2.cell hi2 (j := 2) (u := .int .i64 r2.t) rfl
                simp only [Nat.add_zero] at g0
                have hsn : ((cs R).drop s.i).take k ++ [r2.c] = ((cs R).drop s.i).take (k + 1) := by
                  rw [List.take_add_one, List.getElem?_drop, cs, List.getElem?_map, hr2]
                  rfl
                have hsz : T + 1 ≤ wr.heap.size := by have := hM.sz; omega
                have hM2 := hM.after ((Below.refl _ wr).alloc (Nat.le_refl _) (.cells r2.v.toArray 123))
                have HWB := bld_byte hM2.bl (by rw [List.length_take]; omega) (by simp; omega) r2.c
                rw [hsn] at HWB
                unfold Rn.v at HWB hM2
                have q6 : (k : Int) < nk := by omega
                replace HWB := Lib.hid HWB
                clear hat hat2 hi2
                replace hr2 := Lib.hid hr2
                replace hsn := Lib.hid hsn
                go_wp2_with fail
                refine HWB.out.mono ?_
                rintro e w9 ⟨rfl, hbl9, hkb9⟩
                go_wp2_with fail
                go_roundg (nk - (k + 1))
                case measure => omega
                case rel => exact ⟨k + 1, rfl, by omega, by go_num, hM2.kb hbT hbl9 hkb9⟩
              · obtain rfl : nk = k := by omega
                have q6 : ¬ (nk : Int) < nk := by omega
                obtain ⟨tx, htx⟩ : ∃ tx, tx = ((cs R).drop s.i).take nk := ⟨_, rfl⟩
                rw [← htx] at hM
                replace htx := Lib.hid htx
                have HSt : Hid (∀ x, MidAt W0 w7 x b file n (some ⟨rb, ro, none⟩) cap s.i vd6 ds9 s.sp q9 T tx zeroTok.toArray → Calls Tryz.prog 42 #[.pointer (some ⟨T + 1, 0, none⟩)] x fun e w' => e = .returned (.string ⟨tx.toArray⟩) ∧ MidAt W0 w7 w' b file n (some ⟨rb, ro, none⟩) cap s.i vd6 ds9 s.sp q9 T tx zeroTok.toArray) := Lib.hid (by
                  intro x hx
                  refine (bld_done hx.bl (by have := hx.sz; omega)).mono ?_
                  rintro e w' ⟨rfl, h1, h2⟩
                  exact ⟨rfl, hx.kb hbT h1 h2⟩)
                obtain ⟨tf, htf⟩ : ∃ tf, tf = rF R s.i := ⟨_, rfl⟩
                obtain ⟨tt, htt⟩ : ∃ tt, tt = rT R (s.i + nk - 1) := ⟨_, rfl⟩
                have HSp : Hid (∀ x, MidAt W0 w7 x b file n (some ⟨rb, ro, none⟩) cap s.i vd6 ds9 s.sp q9 T tx zeroTok.toArray → Calls Tryz.prog 90 #[.pointer (some ⟨b, 0, none⟩), .int .i64 s.i, .int .i64 ((s.i : Int) + nk)] x fun e w' => e = .returned (.agg #[.string file, .int .i64 tf, .int .i64 tt]) ∧ MidAt W0 w7 w' b file n (some ⟨rb, ro, none⟩) cap s.i vd6 ds9 s.sp q9 T tx zeroTok.toArray) := Lib.hid (by
                  intro x hx
                  have := span_any b R (some ⟨rb, ro, none⟩) cap s.i file s.i (s.i + nk - 1) (by rw [HN.out]; exact hlt) (by rw [HN.out]; omega) x (HW.out ⟨s.i, ds9, s.sp, q9, false⟩ vd6 x hi hx.lw) (cells6 hx.lw.cells).1
                  rw [show (((s.i + nk - 1 : Nat) : Int) + 1) = (s.i : Int) + nk by omega, ← htf, ← htt] at this
                  refine this.mono ?_
                  rintro e w' ⟨rfl, h1⟩
                  exact ⟨rfl, hx.after h1⟩)
                replace htf := Lib.hid htf
                replace htt := Lib.hid htt
                have hMd := hM.after (Below.refl _ wr).drew
                obtain ⟨c0, c1, c2, c3, c4, c5⟩ := cells6 hM.lw.cells
                go_upto_region 16 with fail
                go_cut [] from 96 to 114 (fun wx => ∃ x, MidAt W0 w7 x b file n (some ⟨rb, ro, none⟩) cap s.i vd6 ds9 s.sp q9 T tx zeroTok.toArray ∧ wx = set8 x T (.int .i64 kd) (.string ⟨tx.toArray⟩) (.bool s.sp) (.string file) (.int .i64 tf) (.int .i64 tt) (.bool false) (.slice none 0 0))
                case first =>
                  obtain ⟨x0, x1, x2, x3, x4, x5⟩ := cells6 hMd.lw.cells
                  have hbne : b ≠ T := Nat.ne_of_lt hbT
                  go_region_held3 (fun x : World => x.cell? ⟨b, 2, none⟩ = some (.int .i64 s.i) ∧ x.cell? ⟨b, 4, none⟩ = some (.bool s.sp)) (first | with_reducible exact ⟨y2, y4⟩ | with_reducible exact ⟨x2, x4⟩ | with_reducible exact ⟨set8_cell hbne y2, set8_cell hbne y4⟩) (first
                    | (go_at_call 90; refine (HSp.out _ (by assumption)).mono ?_; rintro e w5 ⟨rfl, hM5⟩; obtain ⟨y0, y1, y2, y3, y4, y5⟩ := cells6 hM5.lw.cells; obtain ⟨z0, z1, z2, z3, z4, z5, z6, z7⟩ := cells8x hM5.tk; have yf := fun j => Lib.frozen_of_heap hM5.tk j)
                    | (go_at_call 42; refine (HSt.out _ (by assumption)).mono ?_; rintro e w5 ⟨rfl, hM5⟩; obtain ⟨y0, y1, y2, y3, y4, y5⟩ := cells6 hM5.lw.cells; obtain ⟨z0, z1, z2, z3, z4, z5, z6, z7⟩ := cells8x hM5.tk; have yf := fun j => Lib.frozen_of_heap hM5.tk j))
                  all_goals
                    go_wp2_with fail
                    go_meet
                    case rel =>
                      with_reducible refine ⟨_, ?_, set8_eq⟩
                      assumption
                case rest =>
                  obtain ⟨x, hMx, hwx⟩ := hcut
                  have g8 := set8_at (b0 := .int .i64 kd) (b1 := .string ⟨tx.toArray⟩) (b2 := .bool s.sp) (b3 := .string file) (b4 := .int .i64 tf) (b5 := .int .i64 tt) (b6 := .bool false) (b7 := .slice none 0 0) hMx.tk
                  have hB8 := set8_below (b0 := .int .i64 kd) (b1 := .string ⟨tx.toArray⟩) (b2 := .bool s.sp) (b3 := .string file) (b4 := .int .i64 tf) (b5 := .int .i64 tt) (b6 := .bool false) (b7 := .slice none 0 0) (Below.refl T x) (Nat.le_refl T)
                  have hL8 := hMx.lw.swap hMx.tk (fun k hk => set8_other (b0 := .int .i64 kd) (b1 := .string ⟨tx.toArray⟩) (b2 := .bool s.sp) (b3 := .string file) (b4 := .int .i64 tf) (b5 := .int .i64 tt) (b6 := .bool false) (b7 := .slice none 0 0) hk) hB8 hbT
                  rw [← hwx] at g8 hB8 hL8
                  have hX8 : KeptX w wc := ((KeptX.below hb2).trans hX7).kb (by rw [← hTT.out]; exact (hMx.be.mono (Nat.le_succ T)).trans hB8)
                  clear hwx hB8 hMx x c0 c1 c2 c3 c4 c5 hMd hM
                  have hL9 : LwAt W0 (wc.setCell ⟨b, 2, none⟩ (.int .i64 ((s.i : Int) + nk))) b file n (some ⟨rb, ro, none⟩) cap (s.i + nk) vd6 ds9 s.sp q9 := by
                    have := hL8.at (s.i + nk)
                    rw [Int.natCast_add] at this
                    exact this
                  have hL10 := hL9.space false
                  have hX10 := (hX8.trans (KeptX.set hL8.cells 2 (.int .i64 ((s.i : Int) + nk)))).trans (KeptX.set hL9.cells 4 (.bool false))
                  have g10 : ((wc.setCell ⟨b, 2, none⟩ (.int .i64 ((s.i : Int) + nk))).setCell ⟨b, 4, none⟩ (.bool false)).heap[T]? = _ := ((Below.heap_setCell _ _ _ _ (Nat.ne_of_gt hbT)).trans (Below.heap_setCell _ _ _ _ (Nat.ne_of_gt hbT))).trans g8
                  obtain ⟨c0, c1, c2, c3, c4, c5⟩ := cells6 hL8.cells
                  have fr := fun j => Lib.frozen_of_heap hL8.cells j
                  go_wp2_with fail
                  obtain ⟨wd, hwd⟩ : ∃ wd, wd = (wc.setCell ⟨b, 2, none⟩ (.int .i64 ((s.i : Int) + nk))).setCell ⟨b, 4, none⟩ (.bool false) := ⟨_, rfl⟩
                  rw [← hwd] at hL10 hX10 g10 ⊢
                  clear hwd hL9 hL8 g8 hX8 c0 c1 c2 c3 c4 c5 fr
                  go_step3
                  go_step
                  obtain ⟨c0, c1, c2, c3, c4, c5, c6, c7⟩ := cells8x g10
                  have fr := fun j => Lib.frozen_of_heap g10 j
                  have g11 := set8_at (b0 := .int .i64 kd) (b1 := .string ⟨tx.toArray⟩) (b2 := .bool s.sp) (b3 := .string file) (b4 := .int .i64 tf) (b5 := .int .i64 tt) (b6 := .bool false) (b7 := .slice none 0 0) g10
                  have hB11 := set8_below (b0 := .int .i64 kd) (b1 := .string ⟨tx.toArray⟩) (b2 := .bool s.sp) (b3 := .string file) (b4 := .int .i64 tf) (b5 := .int .i64 tt) (b6 := .bool false) (b7 := .slice none 0 0) (Below.refl T wd) (Nat.le_refl T)
                  have hL11 := hL10.swap g10 (fun k hk => set8_other (b0 := .int .i64 kd) (b1 := .string ⟨tx.toArray⟩) (b2 := .bool s.sp) (b3 := .string file) (b4 := .int .i64 tf) (b5 := .int .i64 tt) (b6 := .bool false) (b7 := .slice none 0 0) hk) hB11 hbT
                  have hX11 := hX10.kb (by rw [← hTT.out]; exact hB11)
                  replace hL11 := Lib.hid hL11
                  replace hX11 := Lib.hid hX11
                  replace hB11 := Lib.hid hB11
                  obtain ⟨m0, m1, m2, m3, m4, m5, m6, m7⟩ := cells8x g11
                  replace g11 := Lib.hid g11
                  unfold set8 at m0 m1 m2 m3 m4 m5 m6 m7
                  go_wp2
                  simp only [Exit.jump2]
                  have hfin : Hid (NextPost W0 b file R n (some ⟨rb, ro, none⟩) cap ⟨i0, ds0, sp0, q0, false⟩ w (.returned (.tuple #[.agg #[.int .i64 kd, .string ⟨tx.toArray⟩, .bool s.sp, .string file, .int .i64 tf, .int .i64 tt, .bool false, .slice none 0 0], .bool false, .bool true])) (set8 wd T (.int .i64 kd) (.string ⟨tx.toArray⟩) (.bool s.sp) (.string file) (.int .i64 tf) (.int .i64 tt) (.bool false) (.slice none 0 0))) := Lib.hid (by
                    refine ⟨s, hsk, hX11.out, .inr ⟨htk.out, ?_, vd6, ?_⟩⟩
                    · unfold tokN tkC
                      simp only
                      rw [hnk.out, Nat.add_sub_cancel_left, ← htx.out, ← hkd.out, ← htf.out, ← htt.out]
                    · unfold afterTok posN
                      simp only
                      rw [hnk.out, ← hds9.out, ← hq9.out]
                      exact hL11.out)
                  refine bodyPost_ret (v := .tuple #[.agg #[.int .i64 kd, .string ⟨tx.toArray⟩, .bool s.sp, .string file, .int .i64 tf, .int .i64 tt, .bool false, .slice none 0 0], .bool false, .bool true]) (by simp [results, Tryz.results65, go_sem, m0, m1, m2, m3, m4, m5, m6, m7]) rfl hfin.out
    · have hend : Hid (¬ AtIn R s) := Lib.hid (fun h => by have := h.1; rw [HN.out] at this; omega)
      have dg : decide ((n : Int) ≤ s.i) = true := decide_eq_true (by omega)
      have e1 : (n : Int) ≤ s.i := by omega
      go_wp2_with fail
      go_quiet (fail)
      go_wp2
      go_step3
      refine .inr ⟨rfl, s, _, rfl, ?_, hsk, hend.out, ⟨vd, hL.after (drewN_below wr nq)⟩, ((KeptX.below hb2).trans hX).trans (KeptX.below (drewN_below wr nq)), ?_⟩
      · rfl
      exact ((drewN_below wr nq).block T (lt_of_block hTr)).trans hTr
  · rintro a' wr ⟨s, xs, rfl, hxs, hsk, hend, hLS, hX, hT⟩
    obtain ⟨F, rfl⟩ := frame125 hxs
    clear hxs
    replace hTT := Lib.hid hTT
    obtain ⟨c0, c1, c2, c3, c4, c5, c6, c7⟩ := cells8x hT
    have fr := fun j => Lib.frozen_of_heap hT j
    obtain ⟨vd', hLS⟩ := hLS
    have hbT : b < T := by rw [hTT.out]; exact lt_of_block h.cells
    have g8 := set8_at (b0 := .int .i64 0) (b1 := .string ⟨#[]⟩) (b2 := .bool false) (b3 := .string ⟨#[]⟩) (b4 := .int .i64 0) (b5 := .int .i64 0) (b6 := .bool false) (b7 := .slice none 0 0) hT
    have hB8 := set8_below (b0 := .int .i64 0) (b1 := .string ⟨#[]⟩) (b2 := .bool false) (b3 := .string ⟨#[]⟩) (b4 := .int .i64 0) (b5 := .int .i64 0) (b6 := .bool false) (b7 := .slice none 0 0) (Below.refl T wr) (Nat.le_refl T)
    have hL8 := hLS.swap hT (fun k hk => set8_other hk) hB8 hbT
    have hX8 := hX.kb (by rw [← hTT.out]; exact hB8)
    replace hL8 := Lib.hid hL8
    replace hX8 := Lib.hid hX8
    replace hB8 := Lib.hid hB8
    obtain ⟨m0, m1, m2, m3, m4, m5, m6, m7⟩ := cells8x g8
    replace g8 := Lib.hid g8
    unfold set8 at m0 m1 m2 m3 m4 m5 m6 m7
    go_wp2
    simp only [Exit.noGoto]
    refine bodyPost_ret (v := .tuple #[.agg zeroTok.toArray, .bool s.op, .bool false]) (by simp [results, Tryz.results65, go_sem, m0, m1, m2, m3, m4, m5, m6, m7]; rfl) rfl ⟨s, hsk, hX8.out, .inl ⟨hend, rfl, vd', hL8.out⟩⟩
end Go.Proofs.YtfaoamdlknlgpaaGreat
