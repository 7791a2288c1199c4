/- Texts of this seat's proofs, laid into one file. -/
import Derived.Test.YtfaoamdlknlgpaaGreatSubstHashDoneG15
/- subst: raw and hashed, walked. -/
namespace Go.Proofs.YtfaoamdlknlgpaaGreat
open Go.RowKit
set_option linter.unusedVariables false

theorem rawP_eq {B : List Tm} {i : Nat} {p q : Option Tm} (hp : (if 0 < i then B[i - 1]? else none) = p) (hq : B[i + 1]? = q) : rawP B i = (prevB p || nextB q) := by
  unfold rawP
  rw [hp, hq]

set_option maxRecDepth 100000 in
set_option maxHeartbeats 2000000 in
theorem sRaw_any (b : Nat) (m : Mac) (T : List (Tm × Value)) (pao : Option Addr) (pcap : Nat) (bao : Option Addr) (bcap : Nat) (i : Nat) (hi : i < T.length) (w : World) (h : MH b m T pao pcap bao bcap w) :
    Calls Tryz.prog 81 #[.pointer (some ⟨b, 0, none⟩), .int .i64 i] w fun e w' => e = .returned (.bool (rawP m.body i)) ∧ Below w.heap.size w w' := by
  have hlen := h.len
  have hbcap := h.cap
  have hbl : m.body.length = T.length := by rw [← h.body, List.length_map]
  obtain ⟨n, hn⟩ : ∃ n, n = T.length := ⟨_, rfl⟩
  have HN : Hid (T.length = n) := Lib.hid hn.symm
  have HC : Hid (∀ x, Below w.heap.size w x → x.cell? ⟨b, 4, none⟩ = some (.slice bao n bcap)) := Lib.hid fun x hx => by
    obtain ⟨fz, hc⟩ := (h.below hx).cells
    rw [HN.out] at hc
    exact (cells8 hc).2.2.2.2.1
  rw [← hn] at hi hlen hbcap hbl
  replace hn := Lib.hid hn
  have g1 : IntKind.i64.wrap ((i : Int) + 1) = ((i + 1 : Nat) : Int) := by rw [IntWalk.i64_in _ (by omega)]; omega
  have hr := Below.refl w.heap.size w
  by_cases hi0 : 0 < i
  · obtain ⟨bbp, bop, tp, sap, snp, scp, hbp, hTp, hBp, _⟩ := h.tok (i := (i - 1)) (by have := HN.out; omega)
    have HTp : Hid (∀ x, Below w.heap.size w x → x.cell? ⟨bbp, bop + (i - 1) * 8, none⟩ = some (.int .i64 tp.kind) ∧ x.cell? ⟨bbp, bop + (i - 1) * 8 + 1, none⟩ = some (.string tp.text) ∧ x.cell? ⟨bbp, bop + (i - 1) * 8 + 2, none⟩ = some (.bool tp.sp) ∧ x.cell? ⟨bbp, bop + (i - 1) * 8 + 3, none⟩ = some (.string tp.file) ∧ x.cell? ⟨bbp, bop + (i - 1) * 8 + 4, none⟩ = some (.int .i64 tp.f) ∧ x.cell? ⟨bbp, bop + (i - 1) * 8 + 5, none⟩ = some (.int .i64 tp.t) ∧ x.cell? ⟨bbp, bop + (i - 1) * 8 + 6, none⟩ = some (.bool tp.made) ∧ x.cell? ⟨bbp, bop + (i - 1) * 8 + 7, none⟩ = some (.slice sap snp scp)) := Lib.hid fun x hx => by
      obtain ⟨b', o', t', sa', sn', sc', e1, e2, e3, e4⟩ := (h.below hx).tok (i := (i - 1)) (by have := HN.out; omega)
      rw [hTp] at e2
      simp only [Option.some.injEq, Prod.mk.injEq, Value.slice.injEq] at e2
      obtain ⟨rfl, rfl, rfl, rfl⟩ := e2
      rw [hbp] at e1
      simp only [Option.some.injEq, Addr.mk.injEq, and_true] at e1
      obtain ⟨rfl, rfl⟩ := e1
      exact e4
    have hi1 : (0 : Int) < i := by omega
    have g2 : IntKind.i64.wrap ((i : Int) - 1) = ((i - 1 : Nat) : Int) := by rw [IntWalk.i64_in _ (by omega)]; omega
    have hpn : ((i - 1 : Nat) : Int) < n := by omega
    have hpn' : i - 1 < n := by omega
    subst hbp
    have HP1 := Lib.hid (fun W => mPaste_any tp (.slice sap snp scp) W)
    have HH1 := Lib.hid (fun W => mHash_any tp (.slice sap snp scp) W)
    unfold tmC at HP1 HH1
    by_cases hin : i + 1 < n
    · obtain ⟨bbq, boq, tq, saq, snq, scq, hbq, hTq, hBq, _⟩ := h.tok (i := (i + 1)) (by have := HN.out; omega)
      have HTq : Hid (∀ x, Below w.heap.size w x → x.cell? ⟨bbq, boq + (i + 1) * 8, none⟩ = some (.int .i64 tq.kind) ∧ x.cell? ⟨bbq, boq + (i + 1) * 8 + 1, none⟩ = some (.string tq.text) ∧ x.cell? ⟨bbq, boq + (i + 1) * 8 + 2, none⟩ = some (.bool tq.sp) ∧ x.cell? ⟨bbq, boq + (i + 1) * 8 + 3, none⟩ = some (.string tq.file) ∧ x.cell? ⟨bbq, boq + (i + 1) * 8 + 4, none⟩ = some (.int .i64 tq.f) ∧ x.cell? ⟨bbq, boq + (i + 1) * 8 + 5, none⟩ = some (.int .i64 tq.t) ∧ x.cell? ⟨bbq, boq + (i + 1) * 8 + 6, none⟩ = some (.bool tq.made) ∧ x.cell? ⟨bbq, boq + (i + 1) * 8 + 7, none⟩ = some (.slice saq snq scq)) := Lib.hid fun x hx => by
        obtain ⟨b', o', t', sa', sn', sc', e1, e2, e3, e4⟩ := (h.below hx).tok (i := (i + 1)) (by have := HN.out; omega)
        rw [hTq] at e2
        simp only [Option.some.injEq, Prod.mk.injEq, Value.slice.injEq] at e2
        obtain ⟨rfl, rfl, rfl, rfl⟩ := e2
        rw [hbq] at e1
        simp only [Option.some.injEq, Addr.mk.injEq, and_true] at e1
        obtain ⟨rfl, rfl⟩ := e1
        exact e4
      simp only [Option.some.injEq, Addr.mk.injEq, and_true] at hbq
      obtain ⟨rfl, rfl⟩ := hbq
      have hin1 : ((i + 1 : Nat) : Int) < n := by omega
      have HP2 := Lib.hid (fun W => mPaste_any tq (.slice saq snq scq) W)
      unfold tmC at HP2
      rw [rawP_eq (p := some tp) (q := some tq) (by rw [if_pos hi0]; exact hBp) hBq]
      unfold prevB nextB
      simp only
      generalize pasteP tq = x3 at HP2 ⊢
      generalize pasteP tp = x1 at HP1 ⊢
      generalize hashP tp = x2 at HH1 ⊢
      have c4_0 := HC.out w hr
      obtain ⟨p0_0, p1_0, p2_0, p3_0, p4_0, p5_0, p6_0, p7_0⟩ := HTp.out w hr
      obtain ⟨q0_0, q1_0, q2_0, q3_0, q4_0, q5_0, q6_0, q7_0⟩ := HTq.out w hr
      clear h hn hTp hBp hTq hBq
      cases x1 with
      | true =>
        go_enter Tryz.func81, Tryz.ntmps81
        go_wp2_with fail
        refine (HP1.out _).mono ?_
        rintro e y1 ⟨rfl, b1⟩
        have hy1 := hr.trans (b1.mono hr.size)
        clear b1
        have c4_1 := HC.out y1 hy1
        obtain ⟨p0_1, p1_1, p2_1, p3_1, p4_1, p5_1, p6_1, p7_1⟩ := HTp.out y1 hy1
        obtain ⟨q0_1, q1_1, q2_1, q3_1, q4_1, q5_1, q6_1, q7_1⟩ := HTq.out y1 hy1
        go_wp2
        go_ret
        exact ⟨by simp, hy1⟩
      | false =>
        cases x2 with
        | true =>
          go_enter Tryz.func81, Tryz.ntmps81
          go_wp2_with fail
          refine (HP1.out _).mono ?_
          rintro e y1 ⟨rfl, b1⟩
          have hy1 := hr.trans (b1.mono hr.size)
          clear b1
          have c4_1 := HC.out y1 hy1
          obtain ⟨p0_1, p1_1, p2_1, p3_1, p4_1, p5_1, p6_1, p7_1⟩ := HTp.out y1 hy1
          obtain ⟨q0_1, q1_1, q2_1, q3_1, q4_1, q5_1, q6_1, q7_1⟩ := HTq.out y1 hy1
          go_wp2_with fail
          refine (HH1.out _).mono ?_
          rintro e y2 ⟨rfl, b2⟩
          have hy2 := hy1.trans (b2.mono hy1.size)
          clear b2
          have c4_2 := HC.out y2 hy2
          obtain ⟨p0_2, p1_2, p2_2, p3_2, p4_2, p5_2, p6_2, p7_2⟩ := HTp.out y2 hy2
          obtain ⟨q0_2, q1_2, q2_2, q3_2, q4_2, q5_2, q6_2, q7_2⟩ := HTq.out y2 hy2
          go_wp2
          go_ret
          exact ⟨by simp, hy2⟩
        | false =>
          go_enter Tryz.func81, Tryz.ntmps81
          go_wp2_with fail
          refine (HP1.out _).mono ?_
          rintro e y1 ⟨rfl, b1⟩
          have hy1 := hr.trans (b1.mono hr.size)
          clear b1
          have c4_1 := HC.out y1 hy1
          obtain ⟨p0_1, p1_1, p2_1, p3_1, p4_1, p5_1, p6_1, p7_1⟩ := HTp.out y1 hy1
          obtain ⟨q0_1, q1_1, q2_1, q3_1, q4_1, q5_1, q6_1, q7_1⟩ := HTq.out y1 hy1
          go_wp2_with fail
          refine (HH1.out _).mono ?_
          rintro e y2 ⟨rfl, b2⟩
          have hy2 := hy1.trans (b2.mono hy1.size)
          clear b2
          have c4_2 := HC.out y2 hy2
          obtain ⟨p0_2, p1_2, p2_2, p3_2, p4_2, p5_2, p6_2, p7_2⟩ := HTp.out y2 hy2
          obtain ⟨q0_2, q1_2, q2_2, q3_2, q4_2, q5_2, q6_2, q7_2⟩ := HTq.out y2 hy2
          go_wp2_with fail
          refine (HP2.out _).mono ?_
          rintro e y3 ⟨rfl, b3⟩
          have hy3 := hy2.trans (b3.mono hy2.size)
          clear b3
          have c4_3 := HC.out y3 hy3
          obtain ⟨p0_3, p1_3, p2_3, p3_3, p4_3, p5_3, p6_3, p7_3⟩ := HTp.out y3 hy3
          obtain ⟨q0_3, q1_3, q2_3, q3_3, q4_3, q5_3, q6_3, q7_3⟩ := HTq.out y3 hy3
          go_wp2
          go_ret
          exact ⟨by simp, hy3⟩
    · have hin1 : ¬ ((i + 1 : Nat) : Int) < n := by omega
      rw [rawP_eq (p := some tp) (q := none) (by rw [if_pos hi0]; exact hBp) (List.getElem?_eq_none (by omega))]
      unfold prevB nextB
      simp only
      generalize pasteP tp = x1 at HP1 ⊢
      generalize hashP tp = x2 at HH1 ⊢
      have c4_0 := HC.out w hr
      obtain ⟨p0_0, p1_0, p2_0, p3_0, p4_0, p5_0, p6_0, p7_0⟩ := HTp.out w hr
      clear h hn hTp hBp
      cases x1 with
      | true =>
        go_enter Tryz.func81, Tryz.ntmps81
        go_wp2_with fail
        refine (HP1.out _).mono ?_
        rintro e y1 ⟨rfl, b1⟩
        have hy1 := hr.trans (b1.mono hr.size)
        clear b1
        have c4_1 := HC.out y1 hy1
        obtain ⟨p0_1, p1_1, p2_1, p3_1, p4_1, p5_1, p6_1, p7_1⟩ := HTp.out y1 hy1
        go_wp2
        go_ret
        exact ⟨by simp, hy1⟩
      | false =>
        cases x2 with
        | true =>
          go_enter Tryz.func81, Tryz.ntmps81
          go_wp2_with fail
          refine (HP1.out _).mono ?_
          rintro e y1 ⟨rfl, b1⟩
          have hy1 := hr.trans (b1.mono hr.size)
          clear b1
          have c4_1 := HC.out y1 hy1
          obtain ⟨p0_1, p1_1, p2_1, p3_1, p4_1, p5_1, p6_1, p7_1⟩ := HTp.out y1 hy1
          go_wp2_with fail
          refine (HH1.out _).mono ?_
          rintro e y2 ⟨rfl, b2⟩
          have hy2 := hy1.trans (b2.mono hy1.size)
          clear b2
          have c4_2 := HC.out y2 hy2
          obtain ⟨p0_2, p1_2, p2_2, p3_2, p4_2, p5_2, p6_2, p7_2⟩ := HTp.out y2 hy2
          go_wp2
          go_ret
          exact ⟨by simp, hy2⟩
        | false =>
          go_enter Tryz.func81, Tryz.ntmps81
          go_wp2_with fail
          refine (HP1.out _).mono ?_
          rintro e y1 ⟨rfl, b1⟩
          have hy1 := hr.trans (b1.mono hr.size)
          clear b1
          have c4_1 := HC.out y1 hy1
          obtain ⟨p0_1, p1_1, p2_1, p3_1, p4_1, p5_1, p6_1, p7_1⟩ := HTp.out y1 hy1
          go_wp2_with fail
          refine (HH1.out _).mono ?_
          rintro e y2 ⟨rfl, b2⟩
          have hy2 := hy1.trans (b2.mono hy1.size)
          clear b2
          have c4_2 := HC.out y2 hy2
          obtain ⟨p0_2, p1_2, p2_2, p3_2, p4_2, p5_2, p6_2, p7_2⟩ := HTp.out y2 hy2
          go_wp2
          go_ret
          exact ⟨by simp, hy2⟩
  · have hi1 : ¬ (0 : Int) < i := by omega
    by_cases hin : i + 1 < n
    · obtain ⟨bbq, boq, tq, saq, snq, scq, hbq, hTq, hBq, _⟩ := h.tok (i := (i + 1)) (by have := HN.out; omega)
      have HTq : Hid (∀ x, Below w.heap.size w x → x.cell? ⟨bbq, boq + (i + 1) * 8, none⟩ = some (.int .i64 tq.kind) ∧ x.cell? ⟨bbq, boq + (i + 1) * 8 + 1, none⟩ = some (.string tq.text) ∧ x.cell? ⟨bbq, boq + (i + 1) * 8 + 2, none⟩ = some (.bool tq.sp) ∧ x.cell? ⟨bbq, boq + (i + 1) * 8 + 3, none⟩ = some (.string tq.file) ∧ x.cell? ⟨bbq, boq + (i + 1) * 8 + 4, none⟩ = some (.int .i64 tq.f) ∧ x.cell? ⟨bbq, boq + (i + 1) * 8 + 5, none⟩ = some (.int .i64 tq.t) ∧ x.cell? ⟨bbq, boq + (i + 1) * 8 + 6, none⟩ = some (.bool tq.made) ∧ x.cell? ⟨bbq, boq + (i + 1) * 8 + 7, none⟩ = some (.slice saq snq scq)) := Lib.hid fun x hx => by
        obtain ⟨b', o', t', sa', sn', sc', e1, e2, e3, e4⟩ := (h.below hx).tok (i := (i + 1)) (by have := HN.out; omega)
        rw [hTq] at e2
        simp only [Option.some.injEq, Prod.mk.injEq, Value.slice.injEq] at e2
        obtain ⟨rfl, rfl, rfl, rfl⟩ := e2
        rw [hbq] at e1
        simp only [Option.some.injEq, Addr.mk.injEq, and_true] at e1
        obtain ⟨rfl, rfl⟩ := e1
        exact e4
      subst hbq
      have hin1 : ((i + 1 : Nat) : Int) < n := by omega
      have HP2 := Lib.hid (fun W => mPaste_any tq (.slice saq snq scq) W)
      unfold tmC at HP2
      rw [rawP_eq (p := none) (q := some tq) (by rw [if_neg hi0]) hBq]
      unfold prevB nextB
      simp only
      generalize pasteP tq = x3 at HP2 ⊢
      have c4_0 := HC.out w hr
      obtain ⟨q0_0, q1_0, q2_0, q3_0, q4_0, q5_0, q6_0, q7_0⟩ := HTq.out w hr
      clear h hn hTq hBq
      go_enter Tryz.func81, Tryz.ntmps81
      go_wp2_with fail
      refine (HP2.out _).mono ?_
      rintro e y1 ⟨rfl, b1⟩
      have hy1 := hr.trans (b1.mono hr.size)
      clear b1
      have c4_1 := HC.out y1 hy1
      obtain ⟨q0_1, q1_1, q2_1, q3_1, q4_1, q5_1, q6_1, q7_1⟩ := HTq.out y1 hy1
      go_wp2
      go_ret
      exact ⟨by simp, hy1⟩
    · have hin1 : ¬ ((i + 1 : Nat) : Int) < n := by omega
      rw [rawP_eq (p := none) (q := none) (by rw [if_neg hi0]) (List.getElem?_eq_none (by omega))]
      unfold prevB nextB
      simp only
      have c4_0 := HC.out w hr
      clear h hn
      go_enter Tryz.func81, Tryz.ntmps81
      go_wp2
      go_ret
      exact ⟨by simp, hr⟩
end Go.Proofs.YtfaoamdlknlgpaaGreat

/- subst: hashed, walked; Of on a definition behind a pointer. -/
namespace Go.Proofs.YtfaoamdlknlgpaaGreat
open Go.RowKit
set_option linter.unusedVariables false

theorem MH.of {b : Nat} {m : Mac} {T : List (Tm × Value)} {pao : Option Addr} {pcap : Nat} {bao : Option Addr} {bcap : Nat} {w : World} (h : MH b m T pao pcap bao bcap w) (t : Tm) (v : Value) : Calls Tryz.prog 80 #[.pointer (some ⟨b, 0, none⟩), .agg #[.int .i64 t.kind, .string t.text, .bool t.sp, .string t.file, .int .i64 t.f, .int .i64 t.t, .bool t.made, v]] w fun e w' => e = .returned (.int .i64 (ofP m.fn m.params t)) ∧ Below w.heap.size w w' := by
  obtain ⟨fz, hc⟩ := h.cells
  exact mOf_any t v b m.name m.fn m.va (.slice bao T.length bcap) m.file m.f m.t m.params pao pcap fz (by have := h.pl; omega) w h.ps hc

set_option maxRecDepth 100000 in
set_option maxHeartbeats 2000000 in
theorem sHashed_any (b : Nat) (m : Mac) (T : List (Tm × Value)) (pao : Option Addr) (pcap : Nat) (bao : Option Addr) (bcap : Nat) (i : Nat) (hi : i < T.length) (w : World) (h : MH b m T pao pcap bao bcap w) :
    Calls Tryz.prog 101 #[.pointer (some ⟨b, 0, none⟩), .int .i64 i] w fun e w' => e = .returned (.bool (hashedP m i)) ∧ Below w.heap.size w w' := by
  have hlen := h.len
  have hbcap := h.cap
  have hbl : m.body.length = T.length := by rw [← h.body, List.length_map]
  obtain ⟨n, hn⟩ : ∃ n, n = T.length := ⟨_, rfl⟩
  have HN : Hid (T.length = n) := Lib.hid hn.symm
  have HC : Hid (∀ x, Below w.heap.size w x → x.cell? ⟨b, 1, none⟩ = some (.bool m.fn) ∧ x.cell? ⟨b, 4, none⟩ = some (.slice bao n bcap)) := Lib.hid fun x hx => by
    obtain ⟨fz, hc⟩ := (h.below hx).cells
    rw [HN.out] at hc
    exact ⟨(cells8 hc).2.1, (cells8 hc).2.2.2.2.1⟩
  rw [← hn] at hi hlen hbcap hbl
  replace hn := Lib.hid hn
  have g1 : IntKind.i64.wrap ((i : Int) + 1) = ((i + 1 : Nat) : Int) := by rw [IntWalk.i64_in _ (by omega)]; omega
  have hr := Below.refl w.heap.size w
  have hi' : (i : Int) < n := by omega
  obtain ⟨bbp, bop, tp, sap, snp, scp, hbp, hTp, hBp, _⟩ := h.tok (i := i) (by have := HN.out; omega)
  have HTp : Hid (∀ x, Below w.heap.size w x → x.cell? ⟨bbp, bop + i * 8, none⟩ = some (.int .i64 tp.kind) ∧ x.cell? ⟨bbp, bop + i * 8 + 1, none⟩ = some (.string tp.text) ∧ x.cell? ⟨bbp, bop + i * 8 + 2, none⟩ = some (.bool tp.sp) ∧ x.cell? ⟨bbp, bop + i * 8 + 3, none⟩ = some (.string tp.file) ∧ x.cell? ⟨bbp, bop + i * 8 + 4, none⟩ = some (.int .i64 tp.f) ∧ x.cell? ⟨bbp, bop + i * 8 + 5, none⟩ = some (.int .i64 tp.t) ∧ x.cell? ⟨bbp, bop + i * 8 + 6, none⟩ = some (.bool tp.made) ∧ x.cell? ⟨bbp, bop + i * 8 + 7, none⟩ = some (.slice sap snp scp)) := Lib.hid fun x hx => by
    obtain ⟨b', o', t', sa', sn', sc', e1, e2, e3, e4⟩ := (h.below hx).tok (i := i) (by have := HN.out; omega)
    rw [hTp] at e2
    simp only [Option.some.injEq, Prod.mk.injEq, Value.slice.injEq] at e2
    obtain ⟨rfl, rfl, rfl, rfl⟩ := e2
    rw [hbp] at e1
    simp only [Option.some.injEq, Addr.mk.injEq, and_true] at e1
    obtain ⟨rfl, rfl⟩ := e1
    exact e4
  subst hbp
  unfold hashedP
  rw [hBp]
  simp only
  have HH := Lib.hid (fun W => mHash_any tp (.slice sap snp scp) W)
  unfold tmC at HH
  generalize hashP tp = x1 at HH ⊢
  obtain ⟨c1_0, c4_0⟩ := HC.out w hr
  cases hfn : m.fn with
  | false =>
    rw [hfn] at c1_0
    rw [Bool.false_and, Bool.false_and]
    clear h hn hTp hBp
    go_enter Tryz.func101, Tryz.ntmps101
    go_wp2
    go_ret
    exact ⟨by simp, hr⟩
  | true =>
    rw [hfn] at c1_0
    obtain ⟨p0_0, p1_0, p2_0, p3_0, p4_0, p5_0, p6_0, p7_0⟩ := HTp.out w hr
    cases x1 with
    | false =>
      rw [Bool.and_false, Bool.false_and]
      clear h hn hTp hBp
      go_enter Tryz.func101, Tryz.ntmps101
      go_wp2_with fail
      refine (HH.out _).mono ?_
      rintro e y1 ⟨rfl, b1⟩
      have hy1 := hr.trans (b1.mono hr.size)
      clear b1
      go_wp2
      go_ret
      exact ⟨by simp, hy1⟩
    | true =>
      by_cases hin : i + 1 < n
      · have hin1 : ((i + 1 : Nat) : Int) < n := by omega
        obtain ⟨bbq, boq, tq, saq, snq, scq, hbq, hTq, hBq, _⟩ := h.tok (i := (i + 1)) (by have := HN.out; omega)
        have HTq : Hid (∀ x, Below w.heap.size w x → x.cell? ⟨bbq, boq + (i + 1) * 8, none⟩ = some (.int .i64 tq.kind) ∧ x.cell? ⟨bbq, boq + (i + 1) * 8 + 1, none⟩ = some (.string tq.text) ∧ x.cell? ⟨bbq, boq + (i + 1) * 8 + 2, none⟩ = some (.bool tq.sp) ∧ x.cell? ⟨bbq, boq + (i + 1) * 8 + 3, none⟩ = some (.string tq.file) ∧ x.cell? ⟨bbq, boq + (i + 1) * 8 + 4, none⟩ = some (.int .i64 tq.f) ∧ x.cell? ⟨bbq, boq + (i + 1) * 8 + 5, none⟩ = some (.int .i64 tq.t) ∧ x.cell? ⟨bbq, boq + (i + 1) * 8 + 6, none⟩ = some (.bool tq.made) ∧ x.cell? ⟨bbq, boq + (i + 1) * 8 + 7, none⟩ = some (.slice saq snq scq)) := Lib.hid fun x hx => by
          obtain ⟨b', o', t', sa', sn', sc', e1, e2, e3, e4⟩ := (h.below hx).tok (i := (i + 1)) (by have := HN.out; omega)
          rw [hTq] at e2
          simp only [Option.some.injEq, Prod.mk.injEq, Value.slice.injEq] at e2
          obtain ⟨rfl, rfl, rfl, rfl⟩ := e2
          rw [hbq] at e1
          simp only [Option.some.injEq, Addr.mk.injEq, and_true] at e1
          obtain ⟨rfl, rfl⟩ := e1
          exact e4
        simp only [Option.some.injEq, Addr.mk.injEq, and_true] at hbq
        obtain ⟨rfl, rfl⟩ := hbq
        rw [hBq]
        simp only
        have HO : Hid (∀ x, Below w.heap.size w x → Calls Tryz.prog 80 #[.pointer (some ⟨b, 0, none⟩), .agg #[.int .i64 tq.kind, .string tq.text, .bool tq.sp, .string tq.file, .int .i64 tq.f, .int .i64 tq.t, .bool tq.made, .slice saq snq scq]] x fun e w' => e = .returned (.int .i64 (ofP true m.params tq)) ∧ Below x.heap.size x w') := Lib.hid fun x hx => by
          have := (h.below hx).of tq (.slice saq snq scq)
          rwa [hfn] at this
        obtain ⟨k, hk⟩ : ∃ k, k = ofP true m.params tq := ⟨_, rfl⟩
        rw [← hk] at HO ⊢
        replace hk := Lib.hid hk
        clear h hn hTp hBp hTq hBq
        go_enter Tryz.func101, Tryz.ntmps101
        go_wp2_with fail
        refine (HH.out _).mono ?_
        rintro e y1 ⟨rfl, b1⟩
        have hy1 := hr.trans (b1.mono hr.size)
        clear b1
        obtain ⟨c1_1, c4_1⟩ := HC.out y1 hy1
        obtain ⟨q0_1, q1_1, q2_1, q3_1, q4_1, q5_1, q6_1, q7_1⟩ := HTq.out y1 hy1
        go_wp2_with fail
        refine (HO.out _ hy1).mono ?_
        rintro e y2 ⟨rfl, b2⟩
        have hy2 := hy1.trans (b2.mono hy1.size)
        clear b2
        go_wp2
        go_ret
        exact ⟨by simp, hy2⟩
      · have hin1 : ¬ ((i + 1 : Nat) : Int) < n := by omega
        rw [List.getElem?_eq_none (by omega)]
        simp only
        clear h hn hTp hBp
        go_enter Tryz.func101, Tryz.ntmps101
        go_wp2_with fail
        refine (HH.out _).mono ?_
        rintro e y1 ⟨rfl, b1⟩
        have hy1 := hr.trans (b1.mono hr.size)
        clear b1
        obtain ⟨c1_1, c4_1⟩ := HC.out y1 hy1
        go_wp2
        go_ret
        exact ⟨by simp, hy1⟩
end Go.Proofs.YtfaoamdlknlgpaaGreat
