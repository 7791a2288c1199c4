/- LexBytes: the walk. -/
import Derived.Test.YthbicbfdldpemaaLw22
import Derived.Test.YthbicbfdldpemaaLexBytesSpec
import Derived.Test.YthbicbfdldpemaaLx9
namespace Go.Proofs.Ythbicbfdldpemaa
open Go.RowKit
set_option linter.unusedVariables false

set_option maxHeartbeats 4000000 in
set_option maxRecDepth 100000 in
theorem lexBytes_walk (a0 : ByteArray) (w0 : a0.size ≤ maxLen) (w : World) :
    Calls Try.prog 8 #[.string a0] w fun e w' => e = .returned (.bool true) ∧ Below w.heap.size w w' := by
  clear w0
  by_cases h1 : 3000 < a0.size
  · have e1 : (3000 : Int) < (a0.size : Int) := by omega
    go_enter Try.func8, Try.ntmps8
    go_wp2_with (go_at_call 22; refine (lexAwake_any _).mono ?_; rintro e w' ⟨rfl, hb⟩)
    go_ret
    exact ⟨rfl, hb⟩
  · have e1 : ¬ (3000 : Int) < (a0.size : Int) := by omega
    have hs : a0.size ≤ 1000000 := by omega
    obtain ⟨hlt, hll, _⟩ := linesL_lens a0.data.toList
    obtain ⟨hok, hnil⟩ := linesL_ok a0.data.toList
    rw [← Lib.size_eq] at hlt hll hok
    have HBk := fun (x y : Int) (w' : World) => rback_any a0 hs x y w'
    have HLi := lines_any ⟨#[102]⟩ a0 hs w
    unfold LinesPost at HLi
    obtain ⟨tx, htx⟩ : ∃ tx, tx = a0.data.toList := ⟨_, rfl⟩
    rw [← htx] at hlt hll hok hnil HBk HLi
    obtain ⟨ls, hls⟩ : ∃ ls, ls = (linesL tx).1 := ⟨_, rfl⟩
    rw [← hls] at hlt hll hok hnil HLi
    obtain ⟨L, hL⟩ : ∃ L, L = ls.length := ⟨_, rfl⟩
    have HL : Hid (ls.length = L) := Lib.hid hL.symm
    rw [← hL] at hll
    replace hok := Lib.hid hok
    replace hnil := Lib.hid hnil
    replace HBk := Lib.hid HBk
    replace HLi := Lib.hid HLi
    replace htx := Lib.hid htx
    clear hL hls
    replace hlt := Lib.hid hlt
    go_enter Try.func8, Try.ntmps8
    go_wp2_with fail
    refine HLi.out.mono ?_
    rintro e w1 ⟨vo, vd, lcs, rfl, hO1, hL1, hD1, hb1⟩
    obtain ⟨oa, oc, rfl, hoc, _, hor, _⟩ := hO1.rown (n := L) (by rw [hL1.len, HL.out])
    clear hO1 hD1
    go_wp2_with fail
    go_loopg [5, 6] L (fun u v5 v6 wr => ∃ (i a : Nat), u = L - i ∧ i ≤ L ∧ v5 = .int .i64 a ∧ v6 = .int .i64 i ∧ Below w1.heap.size w1 wr ∧ Hid (LnsOk tx a (ls.drop i) a0.size))
    case atStart => exact ⟨0, 0, rfl, Nat.zero_le _, rfl, rfl, Below.refl _ _, by simpa using hok⟩
    case round =>
      obtain ⟨i, a, rfl, hi, rfl, rfl, hb, hK⟩ := hrel
      by_cases hil : i < L
      · have e2 : (i : Int) < L := by omega
        obtain ⟨ln, hp⟩ : ∃ p, ls[i]? = some p := ⟨ls[i]'(by rw [HL.out]; exact hil), by simp⟩
        have hK2 := hK.out
        have hdr : ls.drop i = ln :: ls.drop (i + 1) := by rw [List.drop_eq_getElem_cons (by rw [HL.out]; exact hil)]; congr 1; exact (List.getElem?_eq_some_iff.1 hp).2
        rw [hdr] at hK2
        obtain ⟨rfl, k2, k3, k4, k5⟩ := hK2
        have hmt := hlt.out ln (List.mem_of_getElem? hp)
        obtain ⟨cA, hcA, hAt⟩ := (hL1.kept (KeptTok.below hb)).get hp
        obtain ⟨ta, tc, rfl, htc, hAr⟩ := hAt.row
        obtain ⟨rb, o, rfl, hat⟩ := (hor.below hb) (by intro h; subst h; simp at hcA)
        obtain ⟨t0, t1, t2, t3⟩ := ln_cells hat hcA
        have e3 : ¬ (ln.t : Int) < ln.f := by omega
        have q1 : IntKind.i64.wrap ((i : Int) + 1) = (i : Int) + 1 := IntWalk.i64_in _ (by omega)
        have e4 : ln.op = true → ¬ ((i : Int) + 1 < L) := by
          intro h
          have := k4 h
          have h2 : (ls.drop (i + 1)).length = 0 := by rw [this]; rfl
          rw [List.length_drop, HL.out] at h2
          omega
        obtain ⟨m, hm⟩ : ∃ m, m = ln.toks.length := ⟨_, rfl⟩
        have HM : Hid (ln.toks.length = m) := Lib.hid hm.symm
        rw [← hm] at hmt htc t0
        clear hK hdr hat hcA hAt hp k4
        replace k5 := Lib.hid k5
        replace k3 := Lib.hid k3
        have hgo : Hid (∀ w', Below wr.heap.size wr w' → Row w' 8 ta (ln.toks.map (tkC ⟨#[102]⟩)) ∧ w'.cell? ⟨rb, o + i * 4, none⟩ = some (.slice ta m tc) ∧ w'.cell? ⟨rb, o + i * 4 + 1, none⟩ = some (.int .i64 ln.f) ∧ w'.cell? ⟨rb, o + i * 4 + 2, none⟩ = some (.int .i64 ln.t)) := Lib.hid (fun w' h => ⟨hAr.below h, kept_cell h t0, kept_cell h t1, kept_cell h t2⟩)
        clear hm hAr
        obtain ⟨bop, hbop⟩ : ∃ b, b = ln.op := ⟨_, rfl⟩
        rw [← hbop] at e4 t3
        replace hbop := Lib.hid hbop
        generalize wr = w2 at *
        cases bop
        all_goals
          try have e6 := e4 rfl
          clear e4
          go_wp2_with fail
          go_loopg [5, 7] m (fun u v5 v7 wx => ∃ (k a : Nat), u = m - k ∧ k ≤ m ∧ v5 = .int .i64 a ∧ v7 = .int .i64 k ∧ Below w2.heap.size w2 wx ∧ Hid (ToksOk tx a (ln.toks.drop k) ln.t))
          case atStart => exact ⟨0, ln.f, rfl, Nat.zero_le _, rfl, rfl, Below.refl _ _, by simpa using k3⟩
          case round =>
            obtain ⟨k, a, rfl, hk, rfl, rfl, hbx, hT⟩ := hrel
            obtain ⟨hrw, x0, x1, x2⟩ := hgo.out wr hbx
            clear t0 t1 t2 t3
            by_cases hkm : k < m
            · have f1 : (k : Int) < m := by omega
              obtain ⟨tk, hp⟩ : ∃ p, ln.toks[k]? = some p := ⟨ln.toks[k]'(by rw [HM.out]; exact hkm), by simp⟩
              have hT2 := hT.out
              have hdr : ln.toks.drop k = tk :: ln.toks.drop (k + 1) := by rw [List.drop_eq_getElem_cons (by rw [HM.out]; exact hkm)]; congr 1; exact (List.getElem?_eq_some_iff.1 hp).2
              rw [hdr] at hT2
              obtain ⟨m1, m2, m3, m4⟩ := hT2
              have hle := m4.le
              have f2 : ¬ (tk.f : Int) < a := by omega
              have f3 : ¬ (tk.t : Int) ≤ tk.f := by omega
              have f4 : ¬ (ln.t : Int) < tk.t := by omega
              have d2 : decide (tk.f < a) = false := decide_eq_false (by omega)
              have d3 : decide (tk.t ≤ tk.f) = false := decide_eq_false (by omega)
              have d4 : decide (ln.t < tk.t) = false := decide_eq_false (by omega)
              obtain ⟨rb2, o2, rfl, hat2⟩ := hrw (by intro h; simp at h; rw [h] at hp; simp at hp)
              obtain ⟨y0, y1, y2, y3, y4, y5, y6, y7⟩ := tk_cells hat2 hp
              have HB2 : Hid (∀ wx, Calls Try.prog 28 #[.string a0, .int .i64 tk.f, .int .i64 tk.t] wx fun e w' => e = .returned (.string ⟨tk.text.toArray⟩) ∧ Below wx.heap.size wx w') := Lib.hid (by
                intro wx
                have := HBk.out tk.f tk.t wx
                rw [m3] at this
                exact this)
              replace m4 := Lib.hid m4
              have hnewb := (Below.refl wr.heap.size wr).alloc (Nat.le_refl _) (.cells #[.string ⟨#[102]⟩, .int .i64 tk.f, .int .i64 tk.t] 27)
              have g0 := cell_new wr [.string ⟨#[102]⟩, .int .i64 tk.f, .int .i64 tk.t] 27 (j := 0) rfl
              have g1 := cell_new wr [.string ⟨#[102]⟩, .int .i64 tk.f, .int .i64 tk.t] 27 (j := 1) rfl
              have g2 := cell_new wr [.string ⟨#[102]⟩, .int .i64 tk.f, .int .i64 tk.t] 27 (j := 2) rfl
              have z0 := kept_cell hnewb x0
              have z2 := kept_cell hnewb x2
              have z1 := kept_cell hnewb y1
              have hsz := Nat.le_trans hbx.size hnewb.size
              clear hat2 hp hdr m1 m2 m3 hT hle
              go_upto_region 73 with fail
              obtain ⟨wT, hwT⟩ : ∃ wT, wT = wr.alloc (.cells #[.string ⟨#[102]⟩, .int .i64 tk.f, .int .i64 tk.t] 27) := ⟨_, rfl⟩
              obtain ⟨T, hTT⟩ : ∃ T, T = wr.heap.size := ⟨_, rfl⟩
              have hbT : Below w2.heap.size w2 wT := by rw [hwT]; exact hbx.alloc hbx.size _
              rw [← hwT] at g0 g1 g2 z0 z1 z2 ⊢
              rw [← hTT] at g0 g1 g2 ⊢
              clear hwT hTT hnewb
              have hb0 := (Below.refl wT.heap.size wT).drew
              have HFx : Hid (∀ x : World, Below wT.heap.size wT x → x.cell? ⟨T, 0, none⟩ = some (.string ⟨#[102]⟩) ∧ x.cell? ⟨T, 1, none⟩ = some (.int .i64 tk.f) ∧ x.cell? ⟨T, 2, none⟩ = some (.int .i64 tk.t) ∧ x.cell? ⟨rb, o + i * 4, none⟩ = some (.slice (some ⟨rb2, o2, none⟩) m tc) ∧ x.cell? ⟨rb2, o2 + k * 8 + 1, none⟩ = some (.string ⟨tk.text.toArray⟩) ∧ x.cell? ⟨rb, o + i * 4 + 2, none⟩ = some (.int .i64 ln.t)) := Lib.hid (fun x hx => ⟨kept_cell hx g0, kept_cell hx g1, kept_cell hx g2, kept_cell hx z0, kept_cell hx z1, kept_cell hx z2⟩)
              have HB3 : Hid (∀ wx, Below wT.heap.size wT wx → Calls Try.prog 28 #[.string a0, .int .i64 tk.f, .int .i64 tk.t] wx fun e w' => e = .returned (.string ⟨tk.text.toArray⟩) ∧ Below wT.heap.size wT w') := Lib.hid (by
                intro wx hx
                refine (HB2.out wx).mono ?_
                rintro e w' ⟨rfl, hw'⟩
                exact ⟨rfl, hx.trans (hw'.mono hx.size)⟩)
              obtain ⟨v0, v1, v2, v3, v4, v5⟩ := HFx.out _ hb0
              clear x0 x1 x2 y0 y1 y2 y3 y4 y5 y6 y7
              go_cut [116] from 73 to 116 (fun v wx => v = .bool false ∧ Below wT.heap.size wT wx)
              case first =>
                go_region_held3 (fun x : World => x.cell? ⟨T, 0, none⟩ = some (.string ⟨#[102]⟩) ∧ x.cell? ⟨T, 1, none⟩ = some (.int .i64 tk.f) ∧ x.cell? ⟨T, 2, none⟩ = some (.int .i64 tk.t) ∧ x.cell? ⟨rb, o + i * 4, none⟩ = some (.slice (some ⟨rb2, o2, none⟩) m tc) ∧ x.cell? ⟨rb2, o2 + k * 8 + 1, none⟩ = some (.string ⟨tk.text.toArray⟩) ∧ x.cell? ⟨rb, o + i * 4 + 2, none⟩ = some (.int .i64 ln.t)) (first | with_reducible exact ⟨v0, v1, v2, v3, v4, v5⟩ | with_reducible exact HFx.out _ hb5) (first | (go_at_call 28; refine (HB3.out _ (by assumption)).mono ?_; rintro e w5 ⟨rfl, hb5⟩))
                all_goals
                  go_wp2_with fail
                  go_meet
                  case rel => exact ⟨rfl, hb5⟩
              case rest =>
                obtain ⟨rfl, hb5⟩ := hcut
                obtain ⟨u0, u1, u2, _⟩ := HFx.out _ hb5
                go_wp2_with fail
                go_roundg (m - (k + 1))
                case measure => omega
                case rel => exact ⟨k + 1, tk.t, rfl, by omega, rfl, by go_num, hbT.trans (hb5.mono hbT.size), m4⟩
            · have f1 : ¬ (k : Int) < m := by omega
              have hbw := hb.trans (hbx.mono hb.size)
              go_wp2_with fail
              go_roundg (L - (i + 1))
              case measure => omega
              case rel => exact ⟨i + 1, ln.t, rfl, by omega, rfl, by go_num, hbw, k5⟩
      · have e2 : ¬ (i : Int) < L := by omega
        have hia : a = a0.size := by
          have := hK.out
          rw [List.drop_eq_nil_of_le (by rw [HL.out]; omega)] at this
          exact this
        subst hia
        have hbw := hb1.trans (hb.mono hb1.size)
        have hnil2 : L = 0 ↔ a0.data.toList = [] := by
          have := hnil.out
          rw [htx.out] at this
          rw [← this, ← HL.out]
          exact List.length_eq_zero_iff
        by_cases hL0 : L = 0
        · have h0 : a0.toList.isEmpty = true := by
            rw [Lib.toList_data, hnil2.1 hL0]
            rfl
          go_wp2_with fail
          refine (lexAwake_any _).mono ?_
          rintro e w3 ⟨rfl, hb3⟩
          go_wp2
          go_ret
          exact ⟨rfl, hbw.trans (hb3.mono hbw.size)⟩
        · have h0 : a0.toList.isEmpty = false := by
            rw [Lib.toList_data]
            cases h : a0.data.toList with
            | nil => exact absurd (hnil2.2 h) hL0
            | cons => rfl
          have hL1' : ((L : Int) == 0) = false := by simp; omega
          go_wp2_with fail
          refine (lexAwake_any _).mono ?_
          rintro e w3 ⟨rfl, hb3⟩
          go_wp2
          go_ret
          exact ⟨rfl, hbw.trans (hb3.mono hbw.size)⟩
end Go.Proofs.Ythbicbfdldpemaa
