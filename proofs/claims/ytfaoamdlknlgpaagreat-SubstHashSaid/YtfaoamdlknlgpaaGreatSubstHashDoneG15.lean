/- Texts of this seat's proofs, laid into one file. -/
import Derived.Test.YtfaoamdlknlgpaaGreatSubstHashDoneG14
import Derived.Deep.RegionHeld3
import Derived.Test.YtfaoamdlknlgpaaGreatSubstHashDoneG9
/- args: Fit, walked. -/
namespace Go.Proofs.YtfaoamdlknlgpaaGreat
open Go.RowKit
set_option linter.unusedVariables false

theorem OwnT.ge {X : List Tf} {B : Nat} {v : Value} {w : World} (h : OwnT X B v w) : ∀ k, v.ownBlock = some k → B ≤ k := by
  obtain ⟨T, o, _⟩ := h
  exact o.ge

/-- the first list's length, as the walk asks for it -/
theorem LsIn.head {w : World} {v : Value} {X : List Tf} {r : List (List Tf)} (h : LsIn w v (X :: r)) : ∃ b o cap la lc, v = .slice (some ⟨b, o, none⟩) (r.length + 1) cap ∧ w.cell? ⟨b, o, none⟩ = some (.slice la X.length lc) := by
  obtain ⟨ao, cap, vs, rfl, h2, h3, h4, h5, h6, _⟩ := h
  obtain ⟨u, hu⟩ : ∃ u, vs[0]? = some u := ⟨_, List.getElem?_eq_getElem (by rw [h5]; simp)⟩
  obtain ⟨la, lc, T, rfl, _⟩ := h6 0 u X hu rfl
  obtain ⟨b, o, rfl, hat⟩ := h4 (by intro e; simp at e; rw [e] at hu; simp at hu)
  have hc := hat.cell (i := 0) (cs := [.slice la X.length lc]) (by rw [List.getElem?_map, hu]; rfl) (j := 0) rfl
  exact ⟨b, o, cap, la, lc, rfl, by simpa using hc⟩

/-- each list's cell -/
theorem LsIn.cell {w : World} {b o n cap k : Nat} {XX : List (List Tf)} {X : List Tf} (h : LsIn w (.slice (some ⟨b, o, none⟩) n cap) XX) (hk : XX[k]? = some X) : ∃ u, w.cell? ⟨b, o + k, none⟩ = some u ∧ ToksIn w u X := by
  obtain ⟨ao, cap', vs, hv, h2, h3, h4, h5, h6, _⟩ := h
  simp only [Value.slice.injEq] at hv
  obtain ⟨rfl, rfl, rfl⟩ := hv
  obtain ⟨u, hu⟩ : ∃ u, vs[k]? = some u := ⟨_, List.getElem?_eq_getElem (by rw [h5]; exact (List.getElem?_eq_some_iff.1 hk).1)⟩
  obtain ⟨b', o', e, hat⟩ := h4 (by intro e; simp at e; rw [e] at hu; simp at hu)
  simp only [Option.some.injEq, Addr.mk.injEq, and_true] at e
  obtain ⟨rfl, rfl⟩ := e
  have hc := hat.cell (i := k) (cs := [u]) (by rw [List.getElem?_map, hu]; rfl) (j := 0) rfl
  exact ⟨u, by simpa using hc, h6 k u X hu hk⟩

set_option maxRecDepth 100000 in
set_option maxHeartbeats 2000000 in
theorem fit_any (XX : List (List Tf)) (CC : List Tf) (name : ByteArray) (fn va : Bool) (pao : Option Addr) (np pcap : Nat) (bo : Value) (file : ByteArray) (f t : Int) (v2 v3 : Value) (hn : np ≤ 1000000) (hh : XX.length ≤ 1000) (hc : CC.length ≤ 1000000) (hX : ∀ X ∈ XX, X.length ≤ 1000) (hne : XX ≠ []) (w : World) (hL : LsIn w v2 XX) (hC : ToksIn w v3 CC) :
    Calls Tryz.prog 28 #[.agg #[.string name, .bool fn, .bool va, .slice pao np pcap, bo, .string file, .int .i64 f, .int .i64 t], v2, v3] w fun e w' => (∃ v, e = .returned (.tuple #[v, .bool (fitP np va XX CC).2]) ∧ OwnLs (fitP np va XX CC).1 w.heap.size v w') ∧ Below w.heap.size w w' := by
  have HS := fun (em : Bool) (W : World) => shape_any name fn va pao np pcap bo file f t XX.length em hn (by omega) W
  replace HS := Lib.hid HS
  obtain ⟨W1, hW1⟩ : ∃ W1, W1 = w.alloc (.cells #[.string name, .bool fn, .bool va, .slice pao np pcap, bo, .string file, .int .i64 f, .int .i64 t] 53) := ⟨_, rfl⟩
  have b1 : Hid (Below w.heap.size w W1) := Lib.hid (by rw [hW1]; exact (Below.refl _ w).alloc (Nat.le_refl _) _)
  have hbx : W1.heap[w.heap.size]? = some (.cells #[.string name, .bool fn, .bool va, .slice pao np pcap, bo, .string file, .int .i64 f, .int .i64 t] 53 (0, 0)) := by rw [hW1]; exact heap_alloc_new w _
  replace hbx := Lib.hid hbx
  obtain ⟨m, hm⟩ : ∃ m, m = XX.length := ⟨_, rfl⟩
  have HM : Hid (XX.length = m) := Lib.hid hm.symm
  rw [← hm] at hh HS
  clear hm
  obtain ⟨lao, lcap, rfl⟩ : ∃ lao lcap, v2 = .slice lao m lcap := by obtain ⟨ao, cap, _, e, _⟩ := hL; rw [HM.out] at e; exact ⟨ao, cap, e⟩
  obtain ⟨pl, ok, hsh⟩ : ∃ pl ok, shapeL np va m (emptyB XX) = (pl, ok) := ⟨_, _, rfl⟩
  have hfit : Hid (fitP np va XX CC = if ok = false ∨ np = 0 then ([], ok) else (XX.take pl ++ (if va then [restF pl CC 0 (XX.drop pl)] else []), true)) := Lib.hid (by unfold fitP; rw [HM.out, hsh])
  have HSe := HS.out (emptyB XX)
  rw [hsh] at HSe
  simp only at HSe
  have hpl : ok = true → ¬ np = 0 → pl ≤ m := by
    intro h1 h2
    unfold shapeL at hsh
    rw [if_neg h2] at hsh
    cases va with
    | true => simp only [if_true, Prod.mk.injEq] at hsh; have := hsh.2; rw [h1, decide_eq_true_eq] at this; omega
    | false => simp only [Bool.false_eq_true, if_false, Prod.mk.injEq] at hsh; have := hsh.2; rw [h1, decide_eq_true_eq] at this; omega
  replace hsh := Lib.hid hsh
  replace HSe := Lib.hid HSe
  replace hL := Lib.hid hL
  replace hC := Lib.hid hC
  replace hX := Lib.hid hX
  replace hne := Lib.hid hne
  replace hpl := Lib.hid hpl
  clear HS
  go_enter Tryz.func28, Tryz.ntmps28
  go_upto_region 2 with fail
  rw [← hW1]
  replace hW1 := Lib.hid hW1
  go_cut [7, 9] from 15 to 31 (fun s7 s9 wx => s7 = .bool ok ∧ s9 = .int .i64 pl ∧ Hid (Below W1.heap.size W1 wx))
  case first =>
    obtain ⟨x0, x1, x2, x3, x4, x5, x6, x7⟩ := cells8 hbx.out
    cases XX with
    | nil => exact absurd rfl hne.out
    | cons X r =>
      obtain ⟨hb, ho, hcp, la, lc, hv, hcell⟩ := hL.out.head
      simp only [Value.slice.injEq] at hv
      obtain ⟨rfl, hmr, rfl⟩ := hv
      have hm0 : (0 : Int) < m := by omega
      have hm1 : decide ((0 : Int) < m) = true := decide_eq_true hm0
      have hm3 : 0 < m := by omega
      have hm4 : (0 : Int).toNat < m := hm3
      have hcell1 := kept_cell b1.out hcell
      replace hmr := Lib.hid hmr
      clear hcell
      by_cases hX0 : X = []
      · have HSe2 := HSe.out
        rw [show emptyB (X :: r) = true by rw [hX0]; rfl] at HSe2
        rw [show X.length = 0 by rw [hX0]; rfl] at hcell1
        replace HSe := Lib.hid HSe2
        replace hX0 := Lib.hid hX0
        clear HSe2
        have HF : Hid (∀ x, Below W1.heap.size W1 x → x.cell? ⟨w.heap.size, 0, none⟩ = some (.string name) ∧ x.cell? ⟨w.heap.size, 1, none⟩ = some (.bool fn) ∧ x.cell? ⟨w.heap.size, 2, none⟩ = some (.bool va) ∧ x.cell? ⟨w.heap.size, 3, none⟩ = some (.slice pao np pcap) ∧ x.cell? ⟨w.heap.size, 4, none⟩ = some bo ∧ x.cell? ⟨w.heap.size, 5, none⟩ = some (.string file) ∧ x.cell? ⟨w.heap.size, 6, none⟩ = some (.int .i64 f) ∧ x.cell? ⟨w.heap.size, 7, none⟩ = some (.int .i64 t) ∧ x.cell? ⟨hb, ho, none⟩ = some (.slice la 0 lc)) := Lib.hid fun x hx => ⟨kept_cell hx x0, kept_cell hx x1, kept_cell hx x2, kept_cell hx x3, kept_cell hx x4, kept_cell hx x5, kept_cell hx x6, kept_cell hx x7, kept_cell hx hcell1⟩
        have hb0' := (Below.refl W1.heap.size W1).drew
        obtain ⟨s0, s1, s2, s3, s4, s5, s6, s7, s8⟩ := HF.out _ hb0'
        have HSf : Hid (∀ x, Below W1.heap.size W1 x → Calls Tryz.prog 55 #[.agg #[.string name, .bool fn, .bool va, .slice pao np pcap, bo, .string file, .int .i64 f, .int .i64 t], .int .i64 m, .bool true] x fun e w' => e = .returned (.tuple #[.int .i64 pl, .bool ok]) ∧ Below W1.heap.size W1 w') := Lib.hid fun x hx => (HSe.out x).mono fun e w' ⟨h1, h2⟩ => ⟨h1, hx.trans (h2.mono hx.size)⟩
        clear x0 x1 x2 x3 x4 x5 x6 x7 hcell1
        go_region_held3 (fun x : World => x.cell? ⟨w.heap.size, 0, none⟩ = some (.string name) ∧ x.cell? ⟨w.heap.size, 1, none⟩ = some (.bool fn) ∧ x.cell? ⟨w.heap.size, 2, none⟩ = some (.bool va) ∧ x.cell? ⟨w.heap.size, 3, none⟩ = some (.slice pao np pcap) ∧ x.cell? ⟨w.heap.size, 4, none⟩ = some bo ∧ x.cell? ⟨w.heap.size, 5, none⟩ = some (.string file) ∧ x.cell? ⟨w.heap.size, 6, none⟩ = some (.int .i64 f) ∧ x.cell? ⟨w.heap.size, 7, none⟩ = some (.int .i64 t) ∧ x.cell? ⟨hb, ho, none⟩ = some (.slice la 0 lc)) (first | with_reducible exact ⟨s0, s1, s2, s3, s4, s5, s6, s7, s8⟩ | with_reducible exact HF.out _ hb5) (first | (go_at_call 55; refine (HSf.out _ (by assumption)).mono ?_; rintro e w5 ⟨rfl, hb5⟩))
        all_goals
          go_wp2_with fail
          go_meet
          case rel => exact ⟨rfl, rfl, Lib.hid hb5⟩
      · have HSe2 := HSe.out
        rw [show emptyB (X :: r) = false by cases X with | nil => exact absurd rfl hX0 | cons _ _ => rfl] at HSe2
        have hql : 0 < X.length := List.length_pos_iff.2 hX0
        generalize X.length = q at hcell1 hql
        have hq0 : ((q : Int) == 0) = false := beq_false_of_ne (by omega)
        replace HSe := Lib.hid HSe2
        clear HSe2
        have HF : Hid (∀ x, Below W1.heap.size W1 x → x.cell? ⟨w.heap.size, 0, none⟩ = some (.string name) ∧ x.cell? ⟨w.heap.size, 1, none⟩ = some (.bool fn) ∧ x.cell? ⟨w.heap.size, 2, none⟩ = some (.bool va) ∧ x.cell? ⟨w.heap.size, 3, none⟩ = some (.slice pao np pcap) ∧ x.cell? ⟨w.heap.size, 4, none⟩ = some bo ∧ x.cell? ⟨w.heap.size, 5, none⟩ = some (.string file) ∧ x.cell? ⟨w.heap.size, 6, none⟩ = some (.int .i64 f) ∧ x.cell? ⟨w.heap.size, 7, none⟩ = some (.int .i64 t) ∧ x.cell? ⟨hb, ho, none⟩ = some (.slice la q lc)) := Lib.hid fun x hx => ⟨kept_cell hx x0, kept_cell hx x1, kept_cell hx x2, kept_cell hx x3, kept_cell hx x4, kept_cell hx x5, kept_cell hx x6, kept_cell hx x7, kept_cell hx hcell1⟩
        have hb0' := (Below.refl W1.heap.size W1).drew
        obtain ⟨s0, s1, s2, s3, s4, s5, s6, s7, s8⟩ := HF.out _ hb0'
        have HSf : Hid (∀ x, Below W1.heap.size W1 x → Calls Tryz.prog 55 #[.agg #[.string name, .bool fn, .bool va, .slice pao np pcap, bo, .string file, .int .i64 f, .int .i64 t], .int .i64 m, .bool false] x fun e w' => e = .returned (.tuple #[.int .i64 pl, .bool ok]) ∧ Below W1.heap.size W1 w') := Lib.hid fun x hx => (HSe.out x).mono fun e w' ⟨h1, h2⟩ => ⟨h1, hx.trans (h2.mono hx.size)⟩
        clear x0 x1 x2 x3 x4 x5 x6 x7 hcell1
        go_region_held3 (fun x : World => x.cell? ⟨w.heap.size, 0, none⟩ = some (.string name) ∧ x.cell? ⟨w.heap.size, 1, none⟩ = some (.bool fn) ∧ x.cell? ⟨w.heap.size, 2, none⟩ = some (.bool va) ∧ x.cell? ⟨w.heap.size, 3, none⟩ = some (.slice pao np pcap) ∧ x.cell? ⟨w.heap.size, 4, none⟩ = some bo ∧ x.cell? ⟨w.heap.size, 5, none⟩ = some (.string file) ∧ x.cell? ⟨w.heap.size, 6, none⟩ = some (.int .i64 f) ∧ x.cell? ⟨w.heap.size, 7, none⟩ = some (.int .i64 t) ∧ x.cell? ⟨hb, ho, none⟩ = some (.slice la q lc)) (first | with_reducible exact ⟨s0, s1, s2, s3, s4, s5, s6, s7, s8⟩ | with_reducible exact HF.out _ hb5) (first | (go_at_call 55; refine (HSf.out _ (by assumption)).mono ?_; rintro e w5 ⟨rfl, hb5⟩))
        all_goals
          go_wp2_with fail
          go_meet
          case rel => exact ⟨rfl, rfl, Lib.hid hb5⟩
  case rest =>
    obtain ⟨rfl, rfl, hbc⟩ := hcut
    have hbC := hbc
    have hle : w.heap.size ≤ wc.heap.size := Nat.le_trans b1.out.size hbc.out.size
    replace hle := Lib.hid hle
    cases ok with
    | false =>
      go_wp2
      go_ret2
      rw [hfit.out, if_pos (.inl trivial)]
      exact ⟨⟨_, rfl, ⟨[], Own.nil _ _ _ _, rfl, by simp⟩⟩, b1.out.trans (hbc.out.mono b1.out.size)⟩
    | true =>
      obtain ⟨x0, x1, x2, x3, x4, x5, x6, x7⟩ := cells8 ((hbc.out.block w.heap.size (lt_of_block hbx.out)).trans hbx.out)
      by_cases hnp : np = 0
      · have hnp' : ((np : Int) == 0) = true := by rw [hnp]; rfl
        have hfit2 := hfit.out
        rw [if_pos (.inr hnp)] at hfit2
        replace hfit2 := Lib.hid hfit2
        replace hnp := Lib.hid hnp
        go_wp2
        go_ret2
        rw [hfit2.out]
        exact ⟨⟨_, rfl, ⟨[], Own.nil _ _ _ _, rfl, by simp⟩⟩, b1.out.trans (hbc.out.mono b1.out.size)⟩
      · have hnp' : ((np : Int) == 0) = false := beq_false_of_ne (by omega)
        have hnp0 : Hid (¬ np = 0) := Lib.hid hnp
        have hplm : pl ≤ m := hpl.out rfl hnp
        have hpl1 : (pl : Int) ≤ m := by omega
        obtain ⟨X0, r0, hXr⟩ : ∃ X r, XX = X :: r := by cases XX with | nil => exact absurd rfl hne.out | cons X r => exact ⟨X, r, rfl⟩
        obtain ⟨lb, lo, hlao⟩ : ∃ b o, lao = some ⟨b, o, none⟩ := by
          have h := hL.out
          rw [hXr] at h
          obtain ⟨b, o, cp, la, lc, hv, _⟩ := h.head
          simp only [Value.slice.injEq] at hv
          exact ⟨b, o, hv.1⟩
        subst hlao
        have hlc : m ≤ lcap := by
          obtain ⟨_, _, _, hv, h2, _⟩ := hL.out
          simp only [Value.slice.injEq] at hv
          rw [hv.2.2, ← HM.out]
          exact h2
        have hlc1 : (pl : Int) ≤ lcap := by omega
        have hlc2 : (m : Int) ≤ lcap := by omega
        obtain ⟨cn, hcn⟩ : ∃ cn, cn = CC.length := ⟨_, rfl⟩
        have HCn : Hid (CC.length = cn) := Lib.hid hcn.symm
        obtain ⟨cao, ccap, rfl⟩ : ∃ cao ccap, v3 = .slice cao cn ccap := by
          obtain ⟨ao, cap, T, rfl, _⟩ := hC.out
          exact ⟨ao, cap, by rw [hcn]⟩
        rw [← hcn] at hc
        have hcc : cn ≤ ccap := by
          obtain ⟨_, _, _, hv, h2, _⟩ := hC.out
          simp only [Value.slice.injEq] at hv
          rw [hv.2.2, hcn]
          exact h2
        clear hcn
        replace hXr := Lib.hid hXr
        have HOw : Hid (∀ (i : Nat) Y, XX[i]? = some Y → ∃ u, ∀ W, Below wc.heap.size wc W → W.cell? ⟨lb, lo + i, none⟩ = some u ∧ Calls Tryz.prog 52 #[u] W fun e w' => ∃ v, e = .returned v ∧ OwnT Y W.heap.size v w' ∧ Below W.heap.size W w') := Lib.hid fun i Y hY => by
          have hbw := b1.out.trans (hbc.out.mono b1.out.size)
          obtain ⟨u, hcu, hTu⟩ := (hL.out.below hbw).cell hY
          exact ⟨u, fun W hW => ⟨kept_cell hW hcu, ownIn_any (hTu.below hW) (by have := hX.out Y (List.mem_of_getElem? hY); omega)⟩⟩
        go_wp2_with fail
        go_loopg [6, 11, 45] pl (fun q v6 v11 v45 wx => ∃ i, q = pl - i ∧ i ≤ pl ∧ v45 = .int .i64 i ∧ Hid (CoSt [] wc wc.heap.size (XX.take i) [] v6 (.slice none 0 0) wx) ∧ Hid (Below wc.heap.size wc wx))
        case atStart => exact ⟨0, rfl, Nat.zero_le _, rfl, Lib.hid ⟨⟨[], Own.nil _ _ _ _, by simp, by simp, by simp⟩, ⟨[], Own.nil _ _ _ _, rfl, by simp⟩⟩, Lib.hid (Below.refl _ _)⟩
        case round =>
          obtain ⟨i, hq, hi, rfl, hco, hb⟩ := hrel
          replace hq := hq.symm
          subst hq
          by_cases hin : i < pl
          · have hin' : (i : Int) < pl := by omega
            have f4 : Hid (pl - (i + 1) < pl - i) := Lib.hid (by omega)
            have g1 : IntKind.i64.wrap ((i : Int) + 1) = (i : Int) + 1 := IntWalk.i64_in _ (by omega)
            obtain ⟨Y, hY⟩ : ∃ Y, XX[i]? = some Y := ⟨_, List.getElem?_eq_getElem (by rw [HM.out]; omega)⟩
            obtain ⟨u, hu⟩ := HOw.out i Y hY
            obtain ⟨hcu, hO⟩ := hu wr hb.out
            clear hu
            replace hO := Lib.hid hO
            have htk : Hid (XX.take (i + 1) = XX.take i ++ [Y]) := Lib.hid (by rw [List.take_add_one, hY]; rfl)
            clear hY
            go_wp2_with fail
            refine hO.out.mono ?_
            rintro e w3 ⟨v7, rfl, hOT, b3⟩
            obtain ⟨xa, xc, rfl⟩ := hOT.slice rfl
            obtain ⟨yn, hyn⟩ : ∃ yn, yn = Y.length := ⟨_, rfl⟩
            rw [← hyn] at hOT ⊢
            replace hyn := Lib.hid hyn
            have hco3 := hco.out.below b3
            obtain ⟨vs, l1, l2, l3, l4⟩ := hco3.ls
            have hb3 := Lib.hid (hb.out.trans (b3.mono hb.out.size))
            have hlen : (vs.map fun u => [u]).length + 1 ≤ 1000000000 := by rw [List.length_map, l2, List.length_take]; omega
            replace l2 := Lib.hid l2
            replace l3 := Lib.hid l3
            replace l4 := Lib.hid l4
            replace hco3 := Lib.hid hco3
            replace b3 := Lib.hid b3
            replace hOT := Lib.hid hOT
            go_wp2_with (at_builtin; go_must (refine wpList_append1 El22 rfl rfl l1 rfl rfl (news := [.slice xa yn xc]) (by simp) rfl (by simp [Value.oneCell']) hlen (by decide) hb3.out.size ?_); intro v9 w9 hown9 hg9)
            go_roundg (pl - (i + 1))
            case measure => exact f4.out
            case rel =>
              refine ⟨i + 1, rfl, hin, by simp, Lib.hid ?_, Lib.hid (bapp hb3.out l1 hg9 hb3.out.size)⟩
              rw [htk.out]
              exact hco3.out.arg l1 l2.out l3.out l4.out hOT.out hb.out.size (by intro kk hkk; simp [Value.ownBlock] at hkk) hown9 hg9
          · have hin' : ¬ (i : Int) < pl := by omega
            have hip : i = pl := by omega
            rw [hip] at hco
            replace hip := Lib.hid hip
            obtain ⟨wE, hwE⟩ : ∃ wE, wE = wr := ⟨_, rfl⟩
            subst hwE
            have hcoE := hco
            have hbE := hb
            have hbL : Hid (Below W1.heap.size W1 wE) := Lib.hid (hbc.out.trans (hb.out.mono hbc.out.size))
            clear x0 x1 x2 x3 x4 x5 x6 x7
            by_cases hlp : lcap = pl
            · have hmp : m - pl = 0 := by omega
              replace hlp := hlp.symm
              subst hlp
              go_wp2_with fail
              go_loopg [8, 12, 13, 14, 59] (m - pl) (fun q v8 v12 v13 v14 v59 wx => ∃ j, q = m - pl - j ∧ j ≤ m - pl ∧ v59 = .int .i64 j ∧ Hid (OwnT (restF pl CC 0 ((XX.drop pl).take j)) wE.heap.size v8 wx) ∧ Hid (Below wE.heap.size wE wx))
              case atStart => exact ⟨0, rfl, Nat.zero_le _, rfl, Lib.hid ⟨[], Own.nil _ _ _ _, rfl, by simp⟩, Lib.hid (Below.refl _ _)⟩
              case round =>
                obtain ⟨j, hq, hj, rfl, hR, hbR⟩ := hrel
                replace hq := hq.symm
                subst hq
                by_cases hjn : j < m - pl
                · exact absurd hjn (by omega)
                · have hjn' : ¬ (j : Int) < ((m - pl : Nat) : Int) := by omega
                  have htk2 : (XX.drop pl).take j = XX.drop pl := List.take_of_length_le (by rw [List.length_drop, HM.out]; omega)
                  rw [htk2] at hR
                  have hbM : Below W1.heap.size W1 wr := hbL.out.trans (hbR.out.mono hbL.out.size)
                  obtain ⟨x0, x1, x2, x3, x4, x5, x6, x7⟩ := cells8 ((hbM.block w.heap.size (lt_of_block hbx.out)).trans hbx.out)
                  have hcoR := hcoE.out.below hbR.out
                  have hbW : Hid (Below w.heap.size w wr) := Lib.hid (b1.out.trans (hbM.mono b1.out.size))
                  replace hbM := Lib.hid hbM
                  cases va with
                  | false =>
                    replace hcoR := Lib.hid hcoR
                    go_wp2
                    go_ret2
                    rw [hfit.out, if_neg (by simp [hnp0.out])]
                    refine ⟨⟨_, rfl, ?_⟩, hbW.out⟩
                    rw [if_neg (by decide), List.append_nil]
                    obtain ⟨vs, l1, l2, l3, _⟩ := hcoR.out.ls
                    exact ⟨vs, l1.mono hle.out, l2, fun i u X hu hX => (l3 i u X hu hX).mono hle.out⟩
                  | true =>
                    obtain ⟨vs, l1, l2, l3, l4⟩ := hcoR.ls
                    have hlen : (vs.map fun u => [u]).length + 1 ≤ 1000000000 := by rw [List.length_map, l2, List.length_take]; omega
                    obtain ⟨ra, rc, hrv⟩ := hR.out.slice rfl
                    obtain ⟨rn, hrn⟩ : ∃ rn, rn = (restF pl CC 0 (XX.drop pl)).length := ⟨_, rfl⟩
                    rw [← hrn] at hrv
                    subst hrv
                    replace hrn := Lib.hid hrn
                    replace l2 := Lib.hid l2
                    replace l3 := Lib.hid l3
                    replace l4 := Lib.hid l4
                    replace hcoR := Lib.hid hcoR
                    have hbB := hbE.out.trans (hbR.out.mono hbE.out.size)
                    have hsB := hbB.size
                    go_wp2_with (at_builtin; go_must (refine wpList_append1 El22 rfl rfl l1 rfl rfl (news := [.slice ra rn rc]) (by simp) rfl (by simp [Value.oneCell']) hlen (by decide) hsB ?_); intro v9 w9 hown9 hg9)
                    go_ret2
                    have h9 := hcoR.out.arg l1 l2.out l3.out l4.out hR.out hbE.out.size (by intro kk hkk; simp [Value.ownBlock] at hkk) hown9 hg9
                    have hb9 := bapp hbB l1 hg9 hsB
                    rw [hfit.out, if_neg (by simp [hnp0.out])]
                    refine ⟨⟨_, rfl, ?_⟩, b1.out.trans ((hbC.out.trans (hb9.mono hbC.out.size)).mono b1.out.size)⟩
                    rw [if_pos trivial]
                    obtain ⟨vs', k1, k2, k3, _⟩ := h9.ls
                    exact ⟨vs', k1.mono hle.out, k2, fun i u X hu hX => (k3 i u X hu hX).mono hle.out⟩
            · go_wp2_with fail
              go_loopg [8, 12, 13, 14, 59] (m - pl) (fun q v8 v12 v13 v14 v59 wx => ∃ j, q = m - pl - j ∧ j ≤ m - pl ∧ v59 = .int .i64 j ∧ Hid (OwnT (restF pl CC 0 ((XX.drop pl).take j)) wE.heap.size v8 wx) ∧ Hid (Below wE.heap.size wE wx))
              case atStart => exact ⟨0, rfl, Nat.zero_le _, rfl, Lib.hid ⟨[], Own.nil _ _ _ _, rfl, by simp⟩, Lib.hid (Below.refl _ _)⟩
              case round =>
                obtain ⟨j, hq, hj, rfl, hR, hbR⟩ := hrel
                replace hq := hq.symm
                subst hq
                by_cases hjn : j < m - pl
                · have hjn' : (j : Int) < ((m - pl : Nat) : Int) := by omega
                  have f4 : Hid (m - pl - (j + 1) < m - pl - j) := Lib.hid (by omega)
                  have g1 : IntKind.i64.wrap ((j : Int) + 1) = (j : Int) + 1 := IntWalk.i64_in _ (by omega)
                  have g2 : IntKind.i64.wrap ((pl : Int) + j) = ((pl + j : Nat) : Int) := by rw [IntWalk.i64_in _ (by omega)]; omega
                  obtain ⟨Y, hY⟩ : ∃ Y, XX[pl + j]? = some Y := ⟨_, List.getElem?_eq_getElem (by rw [HM.out]; omega)⟩
                  have hYl := hX.out Y (List.mem_of_getElem? hY)
                  have hbM : Below W1.heap.size W1 wr := hbL.out.trans (hbR.out.mono hbL.out.size)
                  have hbW : Below w.heap.size w wr := b1.out.trans (hbM.mono b1.out.size)
                  obtain ⟨u, hu⟩ := HOw.out (pl + j) Y hY
                  have hcu := (hu wr (hbE.out.trans (hbR.out.mono hbE.out.size))).1
                  have hHO := fun W (hW : Below wE.heap.size wE W) => (hu W (hbE.out.trans (hW.mono hbE.out.size))).2
                  clear hu
                  have hYd : (XX.drop pl)[j]? = some Y := by rw [List.getElem?_drop]; exact hY
                  have hstep : Hid (restF pl CC 0 ((XX.drop pl).take (j + 1)) = restF pl CC 0 ((XX.drop pl).take j) ++ (if 0 < j then (CC[pl + j - 1]?).toList else []) ++ Y) := Lib.hid (by
                    rw [List.take_add_one, hYd]
                    show restF pl CC 0 (List.take j (XX.drop pl) ++ [Y]) = _
                    rw [restF_snoc]
                    have hl : (List.take j (XX.drop pl)).length = j := by rw [List.length_take, List.length_drop, HM.out]; omega
                    rw [hl, Nat.zero_add])
                  have hrl : (restF pl CC 0 ((XX.drop pl).take j)).length ≤ 1001000 := by
                    have h1 := restF_len pl CC (m := 1000) ((XX.drop pl).take j) 0 (fun X hX' => hX.out X (List.mem_of_mem_drop (List.mem_of_mem_take hX')))
                    have h2 : ((XX.drop pl).take j).length ≤ 1000 := by rw [List.length_take, List.length_drop, HM.out]; omega
                    have h3 : ((XX.drop pl).take j).length * (1000 + 1) ≤ 1000 * (1000 + 1) := Nat.mul_le_mul_right _ h2
                    omega
                  have hcu2 : wr.cell? ⟨lb, lo + pl + j, none⟩ = some u := by rw [Nat.add_assoc]; exact hcu
                  replace hHO := Lib.hid hHO
                  have hsR := hbR.out.size
                  clear hY hYd hbM hcu
                  by_cases hk : 0 < j ∧ pl + j - 1 < CC.length
                  · have hk1 : (0 : Int) < j := by omega
                    have hkj : 0 < j := hk.1
                    obtain ⟨x, hx⟩ : ∃ x, CC[pl + j - 1]? = some x := ⟨_, List.getElem?_eq_getElem hk.2⟩
                    have hst2 : Hid (restF pl CC 0 ((XX.drop pl).take (j + 1)) = (restF pl CC 0 ((XX.drop pl).take j) ++ [x]) ++ Y) := Lib.hid (by rw [hstep.out, if_pos hk.1, hx]; rfl)
                    have hkn : pl + j - 1 < cn := by have := hk.2; rw [HCn.out] at this; exact this
                    obtain ⟨cb, co, hca, hTx⟩ : ∃ b o, cao = some ⟨b, o, none⟩ ∧ ToksIn wr (.slice (some ⟨b, o + (pl + j - 1) * 8, none⟩) (pl + j - (pl + j - 1)) (ccap - (pl + j - 1))) [x] := by
                      obtain ⟨_, h⟩ := (hC.out.below hbW).one hx
                      have e : pl + j - (pl + j - 1) = 1 := by have := hk.1; omega
                      rw [e]
                      exact h
                    subst hca
                    have hHX := ownIn_any hTx (by simp)
                    replace hHX := Lib.hid hHX
                    have hkn1 : ((pl + j - 1 : Nat) : Int) < cn := by omega
                    have hkc : ¬ ccap = pl + j - 1 := by omega
                    have hk2 : ((pl + j : Nat) : Int) ≤ ccap := by omega
                    have hk4 : ((pl + j - 1 : Nat) : Int) ≤ ((pl + j : Nat) : Int) := by omega
                    have hk5 : pl + j - 1 ≤ pl + j := by omega
                    have hk6 : pl + j ≤ ccap := by omega
                    have g3 : IntKind.i64.wrap (((pl + j : Nat) : Int) - 1) = ((pl + j - 1 : Nat) : Int) := by rw [IntWalk.i64_in _ (by omega)]; omega
                    have g4 : IntKind.i64.wrap (((pl + j - 1 : Nat) : Int) + 1) = ((pl + j : Nat) : Int) := by rw [IntWalk.i64_in _ (by omega)]; omega
                    replace hk := Lib.hid hk
                    clear hTx hx hbW
                    go_wp2_with fail
                    refine hHX.out.mono ?_
                    rintro e w3 ⟨v7, rfl, hOT, b3⟩
                    have hR3 := hR.out.below b3
                    have hb3 := hbR.out.trans (b3.mono hsR)
                    have hs3 := hb3.size
                    have hlen3 : (restF pl CC 0 ((XX.drop pl).take j)).length + [x].length ≤ 1000000000 := by rw [List.length_singleton]; omega
                    replace b3 := Lib.hid b3
                    go_wp2_with (at_builtin; go_must (refine wpList_appendT rfl rfl hR3 rfl hOT rfl hsR hlen3 hs3 ?_); intro v9 w9 hR9 hg9; have hb9 := Lib.hid (hb3.grown hg9 hs3 (hR3.ge)))
                    refine (hHO.out w9 hb9.out).mono ?_
                    rintro e w4 ⟨v10, rfl, hOY, b4⟩
                    have hR4 := hR9.below b4
                    have hb4 := hb9.out.trans (b4.mono hb9.out.size)
                    have hs4 := hb4.size
                    have hs9 := hb9.out.size
                    have hlen4 : (restF pl CC 0 ((XX.drop pl).take j) ++ [x]).length + Y.length ≤ 1000000000 := by rw [List.length_append, List.length_singleton]; omega
                    replace b4 := Lib.hid b4
                    go_wp2_with (at_builtin; go_must (refine wpList_appendT rfl rfl hR4 rfl hOY rfl hs9 hlen4 hs4 ?_); intro v11 w11 hR11 hg11; have hb11 := Lib.hid (hb4.grown hg11 hs4 (hR4.ge)))
                    go_roundg (m - pl - (j + 1))
                    case measure => exact f4.out
                    case rel => exact ⟨j + 1, rfl, hjn, by simp, Lib.hid (by rw [hst2.out]; exact hR11), hb11⟩
                  · have hst2 : Hid (restF pl CC 0 ((XX.drop pl).take (j + 1)) = restF pl CC 0 ((XX.drop pl).take j) ++ Y) := Lib.hid (by
                      rw [hstep.out]
                      by_cases h0 : 0 < j
                      · rw [if_pos h0, List.getElem?_eq_none (by omega)]
                        simp
                      · rw [if_neg h0]
                        simp)
                    have hR3 := hR.out
                    have hlen3 : (restF pl CC 0 ((XX.drop pl).take j)).length + Y.length ≤ 1000000000 := by omega
                    by_cases h0 : 0 < j
                    · have hk1 : (0 : Int) < j := by omega
                      have hkn : ¬ pl + j - 1 < cn := by rw [← HCn.out]; omega
                      have hkn1 : ¬ ((pl + j - 1 : Nat) : Int) < cn := by omega
                      have g3 : IntKind.i64.wrap (((pl + j : Nat) : Int) - 1) = ((pl + j - 1 : Nat) : Int) := by rw [IntWalk.i64_in _ (by omega)]; omega
                      replace hk := Lib.hid hk
                      clear hbW
                      go_wp2_with fail
                      refine (hHO.out wr hbR.out).mono ?_
                      rintro e w4 ⟨v10, rfl, hOY, b4⟩
                      have hR4 := hR3.below b4
                      have hb4 := hbR.out.trans (b4.mono hsR)
                      have hs4 := hb4.size
                      replace b4 := Lib.hid b4
                      go_wp2_with (at_builtin; go_must (refine wpList_appendT rfl rfl hR4 rfl hOY rfl hsR hlen3 hs4 ?_); intro v11 w11 hR11 hg11; have hb11 := Lib.hid (hb4.grown hg11 hs4 (hR4.ge)))
                      go_roundg (m - pl - (j + 1))
                      case measure => exact f4.out
                      case rel => exact ⟨j + 1, rfl, hjn, by simp, Lib.hid (by rw [hst2.out]; exact hR11), hb11⟩
                    · have hk1 : ¬ (0 : Int) < j := by omega
                      have g3 : IntKind.i64.wrap (((pl + j : Nat) : Int) - 1) = ((pl + j : Nat) : Int) - 1 := IntWalk.i64_in _ (by omega)
                      replace hk := Lib.hid hk
                      clear hbW
                      go_wp2_with fail
                      refine (hHO.out wr hbR.out).mono ?_
                      rintro e w4 ⟨v10, rfl, hOY, b4⟩
                      have hR4 := hR3.below b4
                      have hb4 := hbR.out.trans (b4.mono hsR)
                      have hs4 := hb4.size
                      replace b4 := Lib.hid b4
                      go_wp2_with (at_builtin; go_must (refine wpList_appendT rfl rfl hR4 rfl hOY rfl hsR hlen3 hs4 ?_); intro v11 w11 hR11 hg11; have hb11 := Lib.hid (hb4.grown hg11 hs4 (hR4.ge)))
                      go_roundg (m - pl - (j + 1))
                      case measure => exact f4.out
                      case rel => exact ⟨j + 1, rfl, hjn, by simp, Lib.hid (by rw [hst2.out]; exact hR11), hb11⟩
                · have hjn' : ¬ (j : Int) < ((m - pl : Nat) : Int) := by omega
                  have htk2 : (XX.drop pl).take j = XX.drop pl := List.take_of_length_le (by rw [List.length_drop, HM.out]; omega)
                  rw [htk2] at hR
                  have hbM : Below W1.heap.size W1 wr := hbL.out.trans (hbR.out.mono hbL.out.size)
                  obtain ⟨x0, x1, x2, x3, x4, x5, x6, x7⟩ := cells8 ((hbM.block w.heap.size (lt_of_block hbx.out)).trans hbx.out)
                  have hcoR := hcoE.out.below hbR.out
                  have hbW : Hid (Below w.heap.size w wr) := Lib.hid (b1.out.trans (hbM.mono b1.out.size))
                  replace hbM := Lib.hid hbM
                  cases va with
                  | false =>
                    replace hcoR := Lib.hid hcoR
                    go_wp2
                    go_ret2
                    rw [hfit.out, if_neg (by simp [hnp0.out])]
                    refine ⟨⟨_, rfl, ?_⟩, hbW.out⟩
                    rw [if_neg (by decide), List.append_nil]
                    obtain ⟨vs, l1, l2, l3, _⟩ := hcoR.out.ls
                    exact ⟨vs, l1.mono hle.out, l2, fun i u X hu hX => (l3 i u X hu hX).mono hle.out⟩
                  | true =>
                    obtain ⟨vs, l1, l2, l3, l4⟩ := hcoR.ls
                    have hlen : (vs.map fun u => [u]).length + 1 ≤ 1000000000 := by rw [List.length_map, l2, List.length_take]; omega
                    obtain ⟨ra, rc, hrv⟩ := hR.out.slice rfl
                    obtain ⟨rn, hrn⟩ : ∃ rn, rn = (restF pl CC 0 (XX.drop pl)).length := ⟨_, rfl⟩
                    rw [← hrn] at hrv
                    subst hrv
                    replace hrn := Lib.hid hrn
                    replace l2 := Lib.hid l2
                    replace l3 := Lib.hid l3
                    replace l4 := Lib.hid l4
                    replace hcoR := Lib.hid hcoR
                    have hbB := hbE.out.trans (hbR.out.mono hbE.out.size)
                    have hsB := hbB.size
                    go_wp2_with (at_builtin; go_must (refine wpList_append1 El22 rfl rfl l1 rfl rfl (news := [.slice ra rn rc]) (by simp) rfl (by simp [Value.oneCell']) hlen (by decide) hsB ?_); intro v9 w9 hown9 hg9)
                    go_ret2
                    have h9 := hcoR.out.arg l1 l2.out l3.out l4.out hR.out hbE.out.size (by intro kk hkk; simp [Value.ownBlock] at hkk) hown9 hg9
                    have hb9 := bapp hbB l1 hg9 hsB
                    rw [hfit.out, if_neg (by simp [hnp0.out])]
                    refine ⟨⟨_, rfl, ?_⟩, b1.out.trans ((hbC.out.trans (hb9.mono hbC.out.size)).mono b1.out.size)⟩
                    rw [if_pos trivial]
                    obtain ⟨vs', k1, k2, k3, _⟩ := h9.ls
                    exact ⟨vs', k1.mono hle.out, k2, fun i u X hu hX => (k3 i u X hu hX).mono hle.out⟩
end Go.Proofs.YtfaoamdlknlgpaaGreat

/- subst: how a body's places stand: raw, hashed; an argument of the list. -/
namespace Go.Proofs.YtfaoamdlknlgpaaGreat
open Go.RowKit
set_option linter.unusedVariables false

/-- tokens that can be read, wherever they lie -/
def ToksRd (w : World) (v : Value) (X : List Tf) : Prop :=
  ∃ (ao : Option Addr) (cap : Nat) (T : List (Tm × Value)), v = .slice ao X.length cap ∧ X.length ≤ cap ∧ Row w 8 ao (T.map tvC) ∧ T.length = X.length ∧ ∀ (i : Nat) p x, T[i]? = some p → X[i]? = some x → p.1 = x.1 ∧ SiteIn w p.2 x.2

theorem ToksRd.below {w w' : World} {v : Value} {X : List Tf} (h : ToksRd w v X) (hb : Below w.heap.size w w') : ToksRd w' v X := by
  obtain ⟨ao, cap, T, h1, h2, h5, h6, h7⟩ := h
  exact ⟨ao, cap, T, h1, h2, h5.below hb, h6, fun i p x hp hx => ⟨(h7 i p x hp hx).1, (h7 i p x hp hx).2.below hb⟩⟩

theorem ToksIn.rd {w : World} {v : Value} {X : List Tf} (h : ToksIn w v X) : ToksRd w v X := by
  obtain ⟨ao, cap, T, h1, h2, _, _, h5, h6, h7⟩ := h
  exact ⟨ao, cap, T, h1, h2, h5, h6, h7⟩

/-- lists of tokens that can be read -/
def LsRd (w : World) (v : Value) (XX : List (List Tf)) : Prop :=
  ∃ (ao : Option Addr) (cap : Nat) (vs : List Value), v = .slice ao XX.length cap ∧ XX.length ≤ cap ∧ Row w 1 ao (vs.map fun u => [u]) ∧ vs.length = XX.length ∧ ∀ (i : Nat) u X, vs[i]? = some u → XX[i]? = some X → ToksRd w u X

theorem LsRd.below {w w' : World} {v : Value} {XX : List (List Tf)} (h : LsRd w v XX) (hb : Below w.heap.size w w') : LsRd w' v XX := by
  obtain ⟨ao, cap, vs, h1, h2, h4, h5, h6⟩ := h
  exact ⟨ao, cap, vs, h1, h2, h4.below hb, h5, fun i u X hu hX => (h6 i u X hu hX).below hb⟩

theorem LsIn.rd {w : World} {v : Value} {XX : List (List Tf)} (h : LsIn w v XX) : LsRd w v XX := by
  obtain ⟨ao, cap, vs, h1, h2, _, h4, h5, h6, _⟩ := h
  exact ⟨ao, cap, vs, h1, h2, h4, h5, fun i u X hu hX => (h6 i u X hu hX).rd⟩

theorem LsRd.nil (w : World) : LsRd w (.slice none 0 0) [] := ⟨none, 0, [], rfl, Nat.le_refl _, Row.nil _ _ _, rfl, by simp⟩

theorem ownRd_any {X : List Tf} {v : Value} {w : World} (h : ToksRd w v X) (hn : X.length ≤ 1000000) :
    Calls Tryz.prog 52 #[v] w fun e w' => ∃ v, e = .returned v ∧ OwnT X w.heap.size v w' ∧ Below w.heap.size w w' := by
  obtain ⟨ao, cap, T, rfl, h2, h5, h6, h7⟩ := h
  have := mOwnF_any X T ao cap (by omega) (by omega) w h5 h6 h7
  rwa [h6] at this

/-- a definition behind a pointer -/
structure MH (b : Nat) (m : Mac) (T : List (Tm × Value)) (pao : Option Addr) (pcap : Nat) (bao : Option Addr) (bcap : Nat) (w : World) : Prop where
  cells : ∃ fz, w.heap[b]? = some (.cells (mcC m.name m.fn m.va (.slice pao m.params.length pcap) (.slice bao T.length bcap) m.file m.f m.t).toArray 53 fz)
  ps : Row w 1 pao (m.params.map fun p => [.string p])
  pl : m.params.length ≤ 1000000
  row : Row w 8 bao (T.map tvC)
  len : T.length ≤ 1000000
  cap : T.length ≤ bcap
  sl : ∀ p ∈ T, SlV p.2
  body : T.map (·.1) = m.body

theorem MH.below {b : Nat} {m : Mac} {T : List (Tm × Value)} {pao : Option Addr} {pcap : Nat} {bao : Option Addr} {bcap : Nat} {w w' : World} (h : MH b m T pao pcap bao bcap w) (hb : Below w.heap.size w w') : MH b m T pao pcap bao bcap w' := by
  obtain ⟨fz, hc⟩ := h.cells
  exact ⟨⟨fz, (hb.block _ (lt_of_block hc)).trans hc⟩, h.ps.below hb, h.pl, h.row.below hb, h.len, h.cap, h.sl, h.body⟩

/-- a token of the body: its cells -/
theorem MH.tok {b : Nat} {m : Mac} {T : List (Tm × Value)} {pao : Option Addr} {pcap : Nat} {bao : Option Addr} {bcap : Nat} {w : World} (h : MH b m T pao pcap bao bcap w) {i : Nat} (hi : i < T.length) : ∃ (bb bo : Nat) (t : Tm) (sa : Option Addr) (sn sc : Nat), bao = some ⟨bb, bo, none⟩ ∧ T[i]? = some (t, .slice sa sn sc) ∧ m.body[i]? = some t ∧
    (w.cell? ⟨bb, bo + i * 8, none⟩ = some (.int .i64 t.kind) ∧ w.cell? ⟨bb, bo + i * 8 + 1, none⟩ = some (.string t.text) ∧ w.cell? ⟨bb, bo + i * 8 + 2, none⟩ = some (.bool t.sp) ∧ w.cell? ⟨bb, bo + i * 8 + 3, none⟩ = some (.string t.file) ∧ w.cell? ⟨bb, bo + i * 8 + 4, none⟩ = some (.int .i64 t.f) ∧ w.cell? ⟨bb, bo + i * 8 + 5, none⟩ = some (.int .i64 t.t) ∧ w.cell? ⟨bb, bo + i * 8 + 6, none⟩ = some (.bool t.made) ∧ w.cell? ⟨bb, bo + i * 8 + 7, none⟩ = some (.slice sa sn sc)) := by
  obtain ⟨⟨t, v⟩, hp⟩ : ∃ p, T[i]? = some p := ⟨_, List.getElem?_eq_getElem hi⟩
  obtain ⟨sa, sn, sc, hv⟩ := h.sl _ (List.mem_of_getElem? hp)
  simp only at hv
  subst hv
  obtain ⟨bb, bo, rfl, hat⟩ := h.row (by intro e; simp at e; rw [e] at hi; simp at hi)
  exact ⟨bb, bo, t, sa, sn, sc, rfl, hp, by rw [← h.body, List.getElem?_map, hp]; rfl, tok8 (tok_at hat hp)⟩

def prevB (o : Option Tm) : Bool := match o with | some t => pasteP t || hashP t | none => false
def nextB (o : Option Tm) : Bool := match o with | some t => pasteP t | none => false
def rawP (B : List Tm) (i : Nat) : Bool := prevB (if 0 < i then B[i - 1]? else none) || nextB B[i + 1]?

def hashedP (m : Mac) (i : Nat) : Bool :=
  m.fn && (match m.body[i]? with | some t => hashP t | none => false) && (match m.body[i + 1]? with | some t => decide (0 ≤ ofP m.fn m.params t) | none => false)

set_option maxRecDepth 100000 in
theorem sArg_any (XX : List (List Tf)) (v : Value) (p : Nat) (hh : XX.length ≤ 1000000) (hp : p ≤ 1000000) (w : World) (hL : LsRd w v XX) :
    Calls Tryz.prog 102 #[v, .int .i64 p] w fun e w' => (∃ u, e = .returned u ∧ ToksRd w u (XX[p]?.getD [])) ∧ w' = w := by
  obtain ⟨ao, cap, vs, rfl, h2, h4, h5, h6⟩ := hL
  obtain ⟨m, hm⟩ : ∃ m, m = XX.length := ⟨_, rfl⟩
  rw [← hm] at hh h2 h5 ⊢
  replace h6 := Lib.hid h6
  go_enter Tryz.func102, Tryz.ntmps102
  by_cases hpm : p < m
  · have hpm' : (p : Int) < m := by omega
    obtain ⟨u, hu⟩ : ∃ u, vs[p]? = some u := ⟨_, List.getElem?_eq_getElem (by omega)⟩
    obtain ⟨X, hX⟩ : ∃ X, XX[p]? = some X := ⟨_, List.getElem?_eq_getElem (by omega)⟩
    obtain ⟨b, o, rfl, hat⟩ := h4 (by intro e; simp at e; rw [e] at hu; simp at hu)
    have hc := hat.cell (i := p) (cs := [u]) (by rw [List.getElem?_map, hu]; rfl) (j := 0) rfl
    simp only [Nat.mul_one, Nat.add_zero] at hc
    have hT := Lib.hid (h6.out p u X hu hX)
    rw [hX]
    replace hm := Lib.hid hm
    clear hat hu hX
    go_wp2
    go_ret
    exact ⟨⟨u, rfl, hT.out⟩, rfl⟩
  · have hpm' : ¬ (p : Int) < m := by omega
    rw [List.getElem?_eq_none (by omega)]
    replace hm := Lib.hid hm
    go_wp2
    go_ret
    exact ⟨⟨_, rfl, ⟨none, 0, [], rfl, Nat.le_refl _, Row.nil _ _ _, rfl, by simp⟩⟩, rfl⟩
end Go.Proofs.YtfaoamdlknlgpaaGreat
