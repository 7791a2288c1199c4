/- Texts of this seat's proofs, laid into one file. -/
import Derived.Test.YtfaoamdlknlgpaaGreatSubstHashDoneG44
import Derived.Test.YtfaoamdlknlgpaaGreatSubstHashDoneG28
/- SubstSides: the walk. -/
namespace Go.Proofs.YtfaoamdlknlgpaaGreat
open Go.RowKit
set_option linter.unusedVariables false

theorem sdL_len (c : UInt8) : ∀ n, (sdL c n).length = 3 * n
  | 0 => rfl
  | n + 1 => by simp [sdL, sdL_len c n]; omega

theorem sd_step {c : UInt8} {i : Nat} {S : ByteArray} (hS : S = ⟨(sdL c i).toArray⟩) : S ++ (⟨#[32, c]⟩ : ByteArray) ++ (⟨#[UInt8.ofNat (97 + i)]⟩ : ByteArray) = ⟨(sdL c (i + 1)).toArray⟩ := by
  subst hS
  apply ByteArray.ext
  simp [sdL]

/-- what a pair of counts gives -/
structure SdF (m : Mac) (a b : Nat) (fin : ZS) : Prop where
  run : sdFin m a b = some fin
  args : ArgsOk (sdRR a b)
  ds : fin.ds.length = 0
  len : (fin.out ++ fin.ahead).length = sdN a b + 2
  first : ∃ p, (fin.out ++ fin.ahead)[0]? = some p ∧ p.t.text = bs [91]
  last : ∃ p, (fin.out ++ fin.ahead)[sdN a b + 1]? = some p ∧ p.t.text = bs [93]
  mid : ∀ i, i < sdN a b → ∃ p, (fin.out ++ fin.ahead)[1 + i]? = some p ∧ p.t.text = sdT a b i ∧ p.t.made = sdM a b i ∧ p.par = sdP a b i

theorem sd_facts {m : Mac} (h : sdAll m = true) {a b : Nat} (ha : a ≤ 10) (hb : b ≤ 10) : m.params.length = 2 ∧ m.body.length ≤ 1000 ∧ ∃ fin, SdF m a b fin := by
  unfold sdAll at h
  simp only [Bool.and_eq_true, decide_eq_true_eq, List.all_eq_true, List.mem_range] at h
  refine ⟨h.1.1, h.1.2, ?_⟩
  have hc := h.2 a (by omega) b (by omega)
  unfold sdChk at hc
  rw [Bool.and_eq_true] at hc
  have hk := argsOk_all (L := sdRR a b) (by simp [sdRR]) hc.1
  have hc2 := hc.2
  cases hf : sdFin m a b with
  | none => rw [hf] at hc2; cases hc2
  | some s =>
    rw [hf] at hc2
    simp only [Bool.and_eq_true, decide_eq_true_eq, List.all_eq_true, List.mem_range] at hc2
    obtain ⟨⟨⟨⟨h1, h2⟩, h3⟩, h4⟩, h5⟩ := hc2
    refine ⟨s, hf, hk, h1, h2, ?_, ?_, fun i hi => ?_⟩
    · cases hp : (s.out ++ s.ahead)[0]? with
      | none => rw [hp] at h3; cases h3
      | some p => rw [hp] at h3; exact ⟨p, rfl, by simpa using h3⟩
    · cases hp : (s.out ++ s.ahead)[sdN a b + 1]? with
      | none => rw [hp] at h4; cases h4
      | some p => rw [hp] at h4; exact ⟨p, rfl, by simpa using h4⟩
    · have := h5 i hi
      cases hp : (s.out ++ s.ahead)[1 + i]? with
      | none => rw [hp] at this; cases this
      | some p =>
        rw [hp] at this
        simp only [Bool.and_eq_true, decide_eq_true_eq, beq_iff_eq] at this
        exact ⟨p, rfl, this.1.1, this.1.2, this.2⟩

/-- a token that the call owns, and its place -/
theorem at_both {P : List Pz} {B n : Nat} {va fa : Option Addr} {vc fc k : Nat} {w : World} {p : Pz} (ho : OwnT (P.map tfZ) B (.slice va n vc) w) (hf : Own w B 3 1 (.slice fa n fc) (P.map parC)) (hk : P[k]? = some p) :
    ∃ b o sa sn sc g q, va = some ⟨b, o, none⟩ ∧ fa = some ⟨g, q, none⟩ ∧ w.cell? ⟨g, q + k, none⟩ = some (.int .i64 p.par) ∧
    (w.cell? ⟨b, o + k * 8, none⟩ = some (.int .i64 p.t.kind) ∧ w.cell? ⟨b, o + k * 8 + 1, none⟩ = some (.string p.t.text) ∧ w.cell? ⟨b, o + k * 8 + 2, none⟩ = some (.bool p.t.sp) ∧ w.cell? ⟨b, o + k * 8 + 3, none⟩ = some (.string p.t.file) ∧ w.cell? ⟨b, o + k * 8 + 4, none⟩ = some (.int .i64 p.t.f) ∧ w.cell? ⟨b, o + k * 8 + 5, none⟩ = some (.int .i64 p.t.t) ∧ w.cell? ⟨b, o + k * 8 + 6, none⟩ = some (.bool p.t.made) ∧ w.cell? ⟨b, o + k * 8 + 7, none⟩ = some (.slice sa sn sc)) := by
  obtain ⟨b, o, sa, sn, sc, rfl, _, h⟩ := ho.at (k := k) (x := tfZ p) (by rw [List.getElem?_map, hk]; rfl)
  obtain ⟨g, q, rfl, hat⟩ := hf.here (by intro e; simp at e; rw [e] at hk; simp at hk)
  have hc := hat.cell (i := k) (cs := parC p) (by rw [List.getElem?_map, hk]; rfl) (j := 0) rfl
  simp only [Nat.mul_one, Nat.add_zero] at hc
  exact ⟨b, o, sa, sn, sc, g, q, rfl, rfl, hc, h⟩

theorem at_all {P : List Pz} {B n : Nat} {va fa : Option Addr} {vc fc : Nat} {w : World} (ho : OwnT (P.map tfZ) B (.slice va n vc) w) (hf : Own w B 3 1 (.slice fa n fc) (P.map parC)) (hne : P ≠ []) :
    ∃ b o g q, va = some ⟨b, o, none⟩ ∧ fa = some ⟨g, q, none⟩ ∧ ∀ x, Below w.heap.size w x → ∀ (k : Nat) (p : Pz), P[k]? = some p → x.cell? ⟨g, q + k, none⟩ = some (.int .i64 p.par) ∧ ∃ sa sn sc, (x.cell? ⟨b, o + k * 8, none⟩ = some (.int .i64 p.t.kind) ∧ x.cell? ⟨b, o + k * 8 + 1, none⟩ = some (.string p.t.text) ∧ x.cell? ⟨b, o + k * 8 + 2, none⟩ = some (.bool p.t.sp) ∧ x.cell? ⟨b, o + k * 8 + 3, none⟩ = some (.string p.t.file) ∧ x.cell? ⟨b, o + k * 8 + 4, none⟩ = some (.int .i64 p.t.f) ∧ x.cell? ⟨b, o + k * 8 + 5, none⟩ = some (.int .i64 p.t.t) ∧ x.cell? ⟨b, o + k * 8 + 6, none⟩ = some (.bool p.t.made) ∧ x.cell? ⟨b, o + k * 8 + 7, none⟩ = some (.slice sa sn sc)) := by
  obtain ⟨p0, r, rfl⟩ : ∃ p r, P = p :: r := by cases P with | nil => exact absurd rfl hne | cons p r => exact ⟨p, r, rfl⟩
  obtain ⟨b, o, _, _, _, g, q, rfl, rfl, _⟩ := at_both ho hf (k := 0) (p := p0) rfl
  refine ⟨b, o, g, q, rfl, rfl, fun x hx k p hk => ?_⟩
  obtain ⟨b', o', sa, sn, sc, g', q', e1, e2, h1, h2⟩ := at_both (ho.below hx) (hf.below hx) hk
  simp only [Option.some.injEq, Addr.mk.injEq, and_true] at e1 e2
  obtain ⟨rfl, rfl⟩ := e1
  obtain ⟨rfl, rfl⟩ := e2
  exact ⟨h1, sa, sn, sc, h2⟩

set_option maxHeartbeats 4000000 in
set_option maxRecDepth 100000 in
theorem substSides_main (a b : Int) (w : World) (ha : -9223372036854775808 ≤ a ∧ a ≤ 9223372036854775807) (hb : -9223372036854775808 ≤ b ∧ b ≤ 9223372036854775807) :
    Calls Tryz.prog 11 #[.int .i64 a, .int .i64 b] w fun e w' => e = .returned (.bool true) ∧ Below w.heap.size w w' := by
  have HAw := Lib.hid awake11_any
  by_cases h1 : a < 0
  · go_enter Tryz.func11, Tryz.ntmps11
    go_wp2_with fail
    refine (HAw.out _).mono ?_
    rintro e w1 ⟨rfl, hb1⟩
    go_wp2
    go_ret
    exact ⟨rfl, hb1⟩
  by_cases h2 : 10 < a
  · go_enter Tryz.func11, Tryz.ntmps11
    go_wp2_with fail
    refine (HAw.out _).mono ?_
    rintro e w1 ⟨rfl, hb1⟩
    go_wp2
    go_ret
    exact ⟨rfl, hb1⟩
  by_cases h3 : b < 0
  · go_enter Tryz.func11, Tryz.ntmps11
    go_wp2_with fail
    refine (HAw.out _).mono ?_
    rintro e w1 ⟨rfl, hb1⟩
    go_wp2
    go_ret
    exact ⟨rfl, hb1⟩
  by_cases h4 : 10 < b
  · go_enter Tryz.func11, Tryz.ntmps11
    go_wp2_with fail
    refine (HAw.out _).mono ?_
    rintro e w1 ⟨rfl, hb1⟩
    go_wp2
    go_ret
    exact ⟨rfl, hb1⟩
  obtain ⟨na, rfl⟩ : ∃ n : Nat, a = n := ⟨a.toNat, by omega⟩
  obtain ⟨nb, rfl⟩ : ∃ n : Nat, b = n := ⟨b.toNat, by omega⟩
  have hna : na ≤ 10 := by omega
  have hnb : nb ≤ 10 := by omega
  clear ha hb
  obtain ⟨m, hm, hfn, hva, hne, hck⟩ := chkM_get sd_m
  obtain ⟨hpl, hbl, fin, hF⟩ := sd_facts hck hna hnb
  have HPar : Hid (∀ (x : World) (ao : Option Addr) (n cap : Nat), (toksL sdText.data.toList).length = n → n ≤ cap → n ≤ 1000000 → Row x 8 ao (((toksL sdText.data.toList).map nilTv).map tvC) → Calls Tryz.prog 36 #[.slice ao n cap] x fun e w' => (∃ pa pc ba bc, e = .returned (.tuple #[.agg #[.string m.name, .bool m.fn, .bool m.va, .slice pa m.params.length pc, .slice ba m.body.length bc, .string m.file, .int .i64 m.f, .int .i64 m.t], .slice none 0 0]) ∧ MB m pa pc ba bc w') ∧ Below x.heap.size x w') := Lib.hid fun x ao n cap h1 h2 h3 h4 => by
    subst h1
    refine (rParseM_any _ m hm hfn hva hne ao cap h3 h2 x h4).mono ?_
    rintro e w' ⟨⟨psv, bov, rfl, ho⟩, hb⟩
    obtain ⟨pa, pc, ba, bc, rfl, rfl, h5, h6, h7⟩ := ho.parts
    exact ⟨⟨pa, pc, ba, bc, rfl, h6, h7, h5⟩, hb⟩
  have HBo : Hid (∀ (x : World) (pa : Option Addr) (pc : Nat) (ba : Option Addr) (bc : Nat) (rv : Value), MB m pa pc ba bc x → LsRd x rv (sdRR na nb) → Calls Tryz.prog 37 #[.agg #[.string m.name, .bool m.fn, .bool m.va, .slice pa m.params.length pc, .slice ba m.body.length bc, .string m.file, .int .i64 m.f, .int .i64 m.t], rv, .slice none 0 0, .agg #[.string ⟨#[]⟩, .string ⟨#[]⟩, .int .i64 0, .int .i64 0, .bool false], .slice none 0 0] x fun e w' => (∃ v vf vd, e = .returned (.tuple #[v, vf, vd]) ∧ OwnT ((fin.out ++ fin.ahead).map tfZ) x.heap.size v w' ∧ Own w' x.heap.size 3 1 vf ((fin.out ++ fin.ahead).map parC) ∧ Own w' x.heap.size 68 4 vd (fin.ds.map badV)) ∧ Below x.heap.size x w') := Lib.hid fun x pa pc ba bc rv h1 h2 =>
    body11_any m pa pc ba bc (sdRR na nb) [] rv (.slice none 0 0) ⟨#[]⟩ x h1 (by omega) (by omega) h2 (LsRd.nil _) hF.args ⟨by simp, by simp⟩ fin hF.run
  have hFd := hF.ds
  have hFl := hF.len
  have hFf := hF.first
  have hFz := hF.last
  have hFm := hF.mid
  obtain ⟨P, hP⟩ : ∃ P, P = fin.out ++ fin.ahead := ⟨_, rfl⟩
  rw [← hP] at HBo hFl hFf hFz hFm
  obtain ⟨N, hN⟩ : ∃ N, N = sdN na nb := ⟨_, rfl⟩
  rw [← hN] at hFl hFz hFm
  have hN20 : N ≤ 20 := by rw [hN]; unfold sdN; omega
  obtain ⟨mname, mfn, mva, mps, mbody, mfile, mf, mt⟩ := m
  simp only at HPar HBo hbl hpl hne hfn hva
  rw [hpl] at HPar HBo
  obtain ⟨bn, hbn⟩ : ∃ q, q = mbody.length := ⟨_, rfl⟩
  rw [← hbn] at HPar HBo hbl
  replace hbn := Lib.hid hbn
  replace hm := Lib.hid hm
  replace hck := Lib.hid hck
  replace hne := Lib.hid hne
  replace hpl := Lib.hid hpl
  replace hfn := Lib.hid hfn
  replace hva := Lib.hid hva
  replace hF := Lib.hid hF
  replace hP := Lib.hid hP
  replace hN := Lib.hid hN
  replace hFd := Lib.hid hFd
  replace hFl := Lib.hid hFl
  replace hFf := Lib.hid hFf
  replace hFz := Lib.hid hFz
  replace hFm := Lib.hid hFm
  go_enter Tryz.func11, Tryz.ntmps11
  go_wp2_with fail
  refine (toks11_rd sdText (by decide) w).mono ?_
  rintro e w1 ⟨n1, ao1, cap1, rfl, hb1, hr1⟩
  have HP1 := HPar.out w1 ao1 n1 cap1 hr1.out.2.1 hr1.out.2.2.1 (Nat.le_trans hr1.out.2.2.2.1 (by decide)) hr1.out.2.2.2.2
  replace HP1 := Lib.hid HP1
  go_wp2_with fail
  refine HP1.out.mono ?_
  rintro e w2 ⟨⟨pa, pc, ba, bc, rfl, hM2⟩, hb2⟩
  clear HPar HP1 hr1
  obtain ⟨W3, hW3⟩ : ∃ W3, W3 = w2.alloc (.cells #[.string mname, .bool mfn, .bool mva, .slice pa 2 pc, .slice ba bn bc, .string mfile, .int .i64 mf, .int .i64 mt] 47) := ⟨_, rfl⟩
  have b23 : Below w2.heap.size w2 W3 := by rw [hW3]; exact (Below.refl _ w2).alloc (Nat.le_refl _) _
  have hc3 : W3.heap[w2.heap.size]? = some (.cells #[.string mname, .bool mfn, .bool mva, .slice pa 2 pc, .slice ba bn bc, .string mfile, .int .i64 mf, .int .i64 mt] 47 (0, 0)) := by rw [hW3]; exact heap_alloc_new w2 _
  have b3 : Below w.heap.size w W3 := (hb1.trans (hb2.mono hb1.size)).trans (b23.mono (Nat.le_trans hb1.size hb2.size))
  have hM3 := hM2.below b23
  obtain ⟨gm, hgm⟩ : ∃ g, g = w2.heap.size := ⟨_, rfl⟩
  rw [← hgm] at hc3
  replace hc3 := Lib.hid hc3
  replace hM3 := Lib.hid hM3
  replace b3 := Lib.hid b3
  clear hM2 hb1 hb2 b23
  go_upto_region 4 with fail
  rw [← hW3, ← hgm]
  replace hW3 := Lib.hid hW3
  replace hgm := Lib.hid hgm
  have hrf := Below.refl W3.heap.size W3
  go_wp2_with fail
  go_loopg [7, 9] na (fun q v7 v9 wx => ∃ (i : Nat) (S : ByteArray), q = na - i ∧ i ≤ na ∧ v9 = .int .i64 i ∧ v7 = .string S ∧ Hid (S = ⟨(sdL 120 i).toArray⟩) ∧ Hid (Below W3.heap.size W3 wx))
  case atStart => exact ⟨0, ⟨#[]⟩, rfl, Nat.zero_le _, rfl, rfl, Lib.hid rfl, Lib.hid hrf⟩
  case round =>
    obtain ⟨i, S, rfl, hi, rfl, rfl, hS, hbw⟩ := hrel
    have hSz : S.size ≤ 30 := by rw [hS.out]; show (sdL 120 i).toArray.size ≤ 30; rw [List.size_toArray, sdL_len]; omega
    by_cases hin : i < na
    · have hin' : (i : Int) < na := by omega
      have g1 : IntKind.i64.wrap ((i : Int) + 1) = (i : Int) + 1 := IntWalk.i64_in _ (by omega)
      have g2 : IntKind.i64.wrap (97 + (i : Int)) = 97 + (i : Int) := IntWalk.i64_in _ (by omega)
      have g3 : IntKind.u8.wrap (97 + (i : Int)) = 97 + (i : Int) := by
        simp [IntKind.wrap, IntKind.signed, IntKind.bits]
        omega
      have hcv := conv_a (i := i) (by omega) wr
      have hst := sd_step (c := 120) hS.out
      obtain ⟨ch, hch⟩ : ∃ c, c = UInt8.ofNat (97 + i) := ⟨_, rfl⟩
      rw [← hch] at hcv hst
      replace hch := Lib.hid hch
      obtain ⟨S1, hS1⟩ : ∃ S1 : ByteArray, S1 = S ++ (⟨#[32, 120]⟩ : ByteArray) := ⟨_, rfl⟩
      have hs1 : S1.size ≤ 40 := by rw [hS1, ByteArray.size_append]; have : (⟨#[32, 120]⟩ : ByteArray).size = 2 := rfl; omega
      have z0 : ¬ 9223372036854775807 < S.size + (⟨#[32, 120]⟩ : ByteArray).size := by have : (⟨#[32, 120]⟩ : ByteArray).size = 2 := rfl; omega
      have z1 : ¬ 9223372036854775807 < S.size + 2 := by omega
      have z2 : S.size + (⟨#[32, 120]⟩ : ByteArray).size ≤ 9223372036854775807 := by have : (⟨#[32, 120]⟩ : ByteArray).size = 2 := rfl; omega
      go_wp2_with fail
      go_roundg (na - (i + 1))
      case measure => omega
      case rel => exact ⟨i + 1, _, rfl, hin, by go_num, rfl, Lib.hid rfl, Lib.hid (hbw.out.alloc hbw.out.size _)⟩
    · obtain rfl : i = na := by omega
      have hin' : ¬ (i : Int) < i := by omega
      obtain ⟨w4, hw4⟩ : ∃ w4, w4 = wr := ⟨_, rfl⟩
      subst hw4
      have hb4 := hbw
      go_wp2_with fail
      go_loopg [8, 10] nb (fun q v8 v10 wx => ∃ (j : Nat) (Y : ByteArray), q = nb - j ∧ j ≤ nb ∧ v10 = .int .i64 j ∧ v8 = .string Y ∧ Hid (Y = ⟨(sdL 121 j).toArray⟩) ∧ Hid (Below W3.heap.size W3 wx))
      case atStart => exact ⟨0, ⟨#[]⟩, rfl, Nat.zero_le _, rfl, rfl, Lib.hid rfl, hb4⟩
      case round =>
        clear hbw
        obtain ⟨j, Y, rfl, hj, rfl, rfl, hY, hbw⟩ := hrel
        have hYz : Y.size ≤ 30 := by rw [hY.out]; show (sdL 121 j).toArray.size ≤ 30; rw [List.size_toArray, sdL_len]; omega
        by_cases hjn : j < nb
        · have hjn' : (j : Int) < nb := by omega
          have g1 : IntKind.i64.wrap ((j : Int) + 1) = (j : Int) + 1 := IntWalk.i64_in _ (by omega)
          have g2 : IntKind.i64.wrap (97 + (j : Int)) = 97 + (j : Int) := IntWalk.i64_in _ (by omega)
          have g3 : IntKind.u8.wrap (97 + (j : Int)) = 97 + (j : Int) := by
            simp [IntKind.wrap, IntKind.signed, IntKind.bits]
            omega
          have hcv := conv_a (i := j) (by omega) wr
          have hst := sd_step (c := 121) hY.out
          obtain ⟨ch, hch⟩ : ∃ c, c = UInt8.ofNat (97 + j) := ⟨_, rfl⟩
          rw [← hch] at hcv hst
          replace hch := Lib.hid hch
          obtain ⟨S1, hS1⟩ : ∃ S1 : ByteArray, S1 = Y ++ (⟨#[32, 121]⟩ : ByteArray) := ⟨_, rfl⟩
          have hs1 : S1.size ≤ 40 := by rw [hS1, ByteArray.size_append]; have : (⟨#[32, 121]⟩ : ByteArray).size = 2 := rfl; omega
          have z0 : ¬ 9223372036854775807 < Y.size + (⟨#[32, 121]⟩ : ByteArray).size := by have : (⟨#[32, 121]⟩ : ByteArray).size = 2 := rfl; omega
          have z1 : ¬ 9223372036854775807 < Y.size + 2 := by omega
          have z2 : Y.size + (⟨#[32, 121]⟩ : ByteArray).size ≤ 9223372036854775807 := by have : (⟨#[32, 121]⟩ : ByteArray).size = 2 := rfl; omega
          go_wp2_with fail
          go_roundg (nb - (j + 1))
          case measure => omega
          case rel => exact ⟨j + 1, _, rfl, hjn, by go_num, rfl, Lib.hid rfl, Lib.hid (hbw.out.alloc hbw.out.size _)⟩
        · obtain rfl : j = nb := by omega
          have hjn' : ¬ (j : Int) < j := by omega
          obtain ⟨w5, hw5⟩ : ∃ w5, w5 = wr := ⟨_, rfl⟩
          subst hw5
          have hc5 := (hbw.out.block _ (lt_of_block hc3.out)).trans hc3.out
          have hM5 := Lib.hid (hM3.out.below hbw.out)
          obtain ⟨k0, k1, k2, k3, k4, k5, k6, k7⟩ := cells8 hc5
          have hX1 : S.data.toList = sdL 120 i := by rw [hS.out]
          have hY1 : Y.data.toList = sdL 121 j := by rw [hY.out]
          replace hX1 := Lib.hid hX1
          replace hY1 := Lib.hid hY1
          go_wp2_with fail
          refine (made11_any mname mfn mva (.slice pa 2 pc) (.slice ba bn bc) mfile mf mt ⟨_, _, _, rfl⟩ ⟨_, _, _, rfl⟩ _).mono ?_
          rintro e w6 ⟨rfl, hb6⟩
          go_wp2_with fail
          refine (toks11_rd S (by omega) w6).mono ?_
          rintro e w7 ⟨n7, ao7, cap7, rfl, hb7, hr7⟩
          go_wp2_with fail
          refine (toks11_rd Y (by omega) w7).mono ?_
          rintro e w8 ⟨n8, ao8, cap8, rfl, hb8, hr8⟩
          have hr7' := hr7.out.1
          have hr8' := hr8.out.1
          rw [hX1.out] at hr7'
          rw [hY1.out] at hr8'
          obtain ⟨W9, hW9⟩ : ∃ W9, W9 = w8.alloc (.cells #[.slice ao7 n7 cap7, .slice ao8 n8 cap8] 22) := ⟨_, rfl⟩
          have b89 : Below w8.heap.size w8 W9 := by rw [hW9]; exact (Below.refl _ w8).alloc (Nat.le_refl _) _
          have hx9 : W9.heap[w8.heap.size]? = some (.cells #[.slice ao7 n7 cap7, .slice ao8 n8 cap8] 22 (0, 0)) := by rw [hW9]; exact heap_alloc_new w8 _
          have hL9 : LsRd W9 (.slice (some ⟨w8.heap.size, 0, none⟩) 2 2) (sdRR i j) := lsRd_two hx9 ((hr7'.below hb8).below b89) (hr8'.below b89)
          have b69 := ((hb6.trans (hb7.mono hb6.size)).trans (hb8.mono (Nat.le_trans hb6.size hb7.size))).trans (b89.mono (Nat.le_trans hb6.size (Nat.le_trans hb7.size hb8.size)))
          have b39 : Below W3.heap.size W3 W9 := hbw.out.trans (b69.mono hbw.out.size)
          have HB9 := HBo.out W9 pa pc ba bc _ (hM5.out.below b69) hL9
          obtain ⟨g9, hg9⟩ : ∃ g, g = w8.heap.size := ⟨_, rfl⟩
          rw [← hg9] at HB9
          replace HB9 := Lib.hid HB9
          replace b39 := Lib.hid b39
          clear hx9 hr7 hr8 hr7' hr8' hb6 hb7 hb8 b89 hL9 b69 HBo k0 k1 k2 k3 k4 k5 k6 k7
          go_wp2_with fail
          rw [← hW9, ← hg9]
          replace hW9 := Lib.hid hW9
          replace hg9 := Lib.hid hg9
          refine HB9.out.mono ?_
          rintro e w11 ⟨⟨v, vf, vd, rfl, ho11, hf11, hd11⟩, hb11⟩
          have hbl11 : Hid (Below w.heap.size w w11) := Lib.hid (b3.out.trans ((b39.out.trans (hb11.mono b39.out.size)).mono b3.out.size))
          obtain ⟨va, vc, rfl⟩ := ho11.slice (n := N + 2) (by rw [List.length_map]; exact hFl.out)
          obtain ⟨fa, fc, rfl, _, _, _, _⟩ := hf11.rown (n := N + 2) (by rw [List.length_map]; exact hFl.out)
          obtain ⟨da, dc, rfl, _, _, _, _⟩ := hd11.rown (n := 0) (by rw [List.length_map]; exact hFd.out)
          have hPne : P ≠ [] := by intro e; have := hFl.out; rw [e] at this; simp at this
          obtain ⟨vb, vo, fb, fo, rfl, rfl, HK⟩ := at_all ho11 hf11 hPne
          replace HK := Lib.hid HK
          clear ho11 hf11 hd11 hb11 HB9 hPne
          obtain ⟨p0, hp0, et0⟩ := hFf.out
          obtain ⟨pz, hpz, etz⟩ := hFz.out
          have hb0 : (p0.t.text.toList == [91]) = true := by rw [et0, beq_text]; exact decide_eq_true rfl
          have hbz : (pz.t.text.toList == [93]) = true := by rw [etz, beq_text]; exact decide_eq_true rfl
          obtain ⟨c0, _, _, _, _, c1, _⟩ := HK.out w11 (Below.refl _ _) 0 p0 hp0
          obtain ⟨d0, _, _, _, _, d1, _⟩ := HK.out w11 (Below.refl _ _) (N + 1) pz hpz
          simp only [Nat.zero_mul, Nat.add_zero] at c1
          generalize p0.t.text = x0 at hb0 c1
          generalize pz.t.text = xz at hbz d1
          clear hp0 et0 hpz etz c0 d0
          have g2 : IntKind.i64.wrap ((N : Int) + 2) = (N : Int) + 2 := IntWalk.i64_in _ (by omega)
          have g3 : IntKind.i64.wrap ((N : Int) + 1) = (N : Int) + 1 := IntWalk.i64_in _ (by omega)
          have g4 : (N : Int) + 1 < (N : Int) + 2 := by omega
          have g5 : (0 : Int) ≤ (N : Int) + 1 := by omega
          have g6 : ((N : Int) + 1).toNat = N + 1 := by omega
          have g7 : (0 : Int) < (N : Int) + 2 := by omega
          have hrf11 := Below.refl w11.heap.size w11
          have h10 : ((0 : Int) < (i : Int) ∧ (0 : Int) < (j : Int)) ∨ ((0 : Int) < (i : Int) ∧ ¬ (0 : Int) < (j : Int)) ∨ ¬ (0 : Int) < (i : Int) := by omega
          rcases h10 with ⟨cA, cB⟩ | ⟨cA, cB⟩ | cA
          · have hNe : N + 1 = i + j := by rw [hN.out]; unfold sdN; rw [if_pos (by omega)]; omega
            obtain ⟨M, hM⟩ : ∃ M : Nat, M = i + j := ⟨_, rfl⟩
            have k1 : IntKind.i64.wrap ((i : Int) + (j : Int)) = (M : Int) := by rw [IntWalk.i64_in _ (by omega)]; omega
            have k2 : IntKind.i64.wrap ((M : Int) - 1) = (N : Int) := by rw [IntWalk.i64_in _ (by omega)]; omega
            replace hM := Lib.hid hM
            replace hNe := Lib.hid hNe
            have cA2 : decide ((0 : Int) < (i : Int)) = true := decide_eq_true cA
            have cA3 : decide (0 < i) = true := decide_eq_true (by omega)
            have cB2 : decide ((0 : Int) < (j : Int)) = true := decide_eq_true cB
            have cB3 : decide (0 < j) = true := decide_eq_true (by omega)
            go_wp2_with fail
            go_loopg [15] N (fun q v15 wx => ∃ k : Nat, q = N - k ∧ k ≤ N ∧ v15 = .int .i64 k ∧ Hid (Below w11.heap.size w11 wx))
            case atStart => exact ⟨0, rfl, Nat.zero_le _, rfl, Lib.hid hrf11⟩
            case round =>
              obtain ⟨k, rfl, hk, rfl, hbk⟩ := hrel
              by_cases hkn : k < N
              · have hkn' : (k : Int) < N := by omega
                have f4 : Hid (N - (k + 1) < N - k) := Lib.hid (by omega)
                have e0 : IntKind.i64.wrap ((k : Int) + 1) = (k : Int) + 1 := IntWalk.i64_in _ (by omega)
                have e1 : IntKind.i64.wrap (1 + (k : Int)) = 1 + (k : Int) := IntWalk.i64_in _ (by omega)
                have e2 : (1 : Int) + (k : Int) < (N : Int) + 2 := by omega
                have e3 : (0 : Int) ≤ 1 + (k : Int) := by omega
                have e4 : ((1 : Int) + (k : Int)).toNat = 1 + k := by omega
                obtain ⟨p, hp, pt, pm, pp⟩ := hFm.out k hkn
                obtain ⟨⟨tk, tx, tsp, tfi, tf1, tf2, tmd⟩, pcss, ppar, pat, pfl⟩ := p
                simp only at pt pm pp
                replace pt := Lib.hid pt
                replace pm := Lib.hid pm
                replace pp := Lib.hid pp
                have hKa := fun o => HK.out _ (hbk.out.alloc hbk.out.size o) (1 + k) _ hp
                simp only at hKa
                have hKd := fun o => (hKa o).1
                obtain ⟨_, sa, sn, sc, u0, u1, u2, u3, u4, u5, u6, u7⟩ := HK.out wr hbk.out (1 + k) _ hp
                simp only at u0 u1 u2 u3 u4 u5 u6 u7
                have v0 := fun o => kept_cell ((Below.refl wr.heap.size wr).alloc (Nat.le_refl _) o) u0
                have v1 := fun o => kept_cell ((Below.refl wr.heap.size wr).alloc (Nat.le_refl _) o) u1
                have v2 := fun o => kept_cell ((Below.refl wr.heap.size wr).alloc (Nat.le_refl _) o) u2
                have v3 := fun o => kept_cell ((Below.refl wr.heap.size wr).alloc (Nat.le_refl _) o) u3
                have v4 := fun o => kept_cell ((Below.refl wr.heap.size wr).alloc (Nat.le_refl _) o) u4
                have v5 := fun o => kept_cell ((Below.refl wr.heap.size wr).alloc (Nat.le_refl _) o) u5
                have v6 := fun o => kept_cell ((Below.refl wr.heap.size wr).alloc (Nat.le_refl _) o) u6
                have v7 := fun o => kept_cell ((Below.refl wr.heap.size wr).alloc (Nat.le_refl _) o) u7
                obtain ⟨W4, hW4⟩ : ∃ W4, W4 = (wr.alloc (.cells #[.int .i64 tk, .string tx, .bool tsp, .string tfi, .int .i64 tf1, .int .i64 tf2, .bool tmd, .slice sa sn sc] 34)).drew := ⟨_, rfl⟩
                have hx4 : W4.heap[wr.heap.size]? = some (.cells #[.int .i64 tk, .string tx, .bool tsp, .string tfi, .int .i64 tf1, .int .i64 tf2, .bool tmd, .slice sa sn sc] 34 (0, 0)) := by rw [hW4]; exact heap_alloc_new wr _
                have hb4' : Hid (Below w11.heap.size w11 W4) := Lib.hid (by rw [hW4]; exact (hbk.out.alloc hbk.out.size _).drew)
                obtain ⟨gx, hgx⟩ : ∃ g, g = wr.heap.size := ⟨_, rfl⟩
                rw [← hgx] at hx4
                replace hp := Lib.hid hp
                clear hKa
                go_wp2_with fail
                go_region
                rw [← hW4, ← hgx]
                replace hW4 := Lib.hid hW4
                replace hgx := Lib.hid hgx
                clear hKd u0 u1 u2 u3 u4 u5 u6 u7 v0 v1 v2 v3 v4 v5 v6 v7
                replace pt := pt.out
                replace pm := pm.out
                replace pp := pp.out
                by_cases hc1 : k + 1 = i
                · obtain ⟨i1, hi1⟩ : ∃ n, n = i - 1 := ⟨_, rfl⟩
                  have pt0 : tx = (⟨#[120]⟩ : ByteArray) ++ (⟨#[UInt8.ofNat (97 + i1)]⟩ : ByteArray) ++ (⟨#[121, 97]⟩ : ByteArray) := by rw [pt]; unfold sdT; rw [if_pos (by omega), hi1]; apply ByteArray.ext; simp
                  have pm0 : tmd = true := by rw [pm]; unfold sdM; exact decide_eq_true (by omega)
                  have pp0 : ppar = -1 := by rw [pp]; unfold sdP; rw [if_pos (by omega)]
                  replace pt := pt0
                  replace pm := pm0
                  replace pp := pp0
                  clear pt0 pm0 pp0
                  have y0 : IntKind.i64.wrap ((i : Int) - 1) = (k : Int) := by rw [IntWalk.i64_in _ (by omega)]; omega
                  have y1 : IntKind.i64.wrap (97 + (i : Int)) = 97 + (i : Int) := IntWalk.i64_in _ (by omega)
                  have y2 : IntKind.i64.wrap (97 + (i : Int) - 1) = 97 + (i1 : Int) := by rw [IntWalk.i64_in _ (by omega)]; omega
                  have y3 : IntKind.u8.wrap (97 + ((i1 : Nat) : Int)) = 97 + ((i1 : Nat) : Int) := by
                    simp [IntKind.wrap, IntKind.signed, IntKind.bits]
                    omega
                  have hi1' : i1 < 26 := by omega
                  replace hi1 := Lib.hid hi1
                  have hcv := conv_a (i := i1) (by omega) W4
                  obtain ⟨ch, hch⟩ : ∃ c, c = UInt8.ofNat (97 + i1) := ⟨_, rfl⟩
                  rw [← hch] at hcv pt
                  replace hch := Lib.hid hch
                  have z0 : (⟨#[120]⟩ : ByteArray).size + (⟨#[ch]⟩ : ByteArray).size ≤ 9223372036854775807 := by show 1 + 1 ≤ 9223372036854775807; omega
                  have z1 : (⟨#[121]⟩ : ByteArray).size + (⟨#[ch]⟩ : ByteArray).size ≤ 9223372036854775807 := by show 1 + 1 ≤ 9223372036854775807; omega
                  have z2 : ((⟨#[120]⟩ : ByteArray) ++ (⟨#[ch]⟩ : ByteArray)).size + (⟨#[121, 97]⟩ : ByteArray).size ≤ 9223372036854775807 := by rw [ByteArray.size_append]; show 1 + 1 + 2 ≤ 9223372036854775807; omega
                  subst pt pm pp
                  obtain ⟨q0, q1, q2, q3, q4, q5, q6, q7⟩ := cells8 hx4
                  have q6a := fun o => kept_cell ((Below.refl W4.heap.size W4).alloc (Nat.le_refl _) o) q6
                  replace hx4 := Lib.hid hx4
                  go_wp2_with fail
                  go_roundg (N - (k + 1))
                  case measure => exact f4.out
                  case rel => exact ⟨k + 1, rfl, hkn, by go_num, Lib.hid (hb4'.out.alloc hb4'.out.size _)⟩
                · by_cases hc2 : k < i
                  · have pt0 : tx = (⟨#[120]⟩ : ByteArray) ++ (⟨#[UInt8.ofNat (97 + k)]⟩ : ByteArray) := by rw [pt]; unfold sdT; rw [if_neg (by omega), if_pos (by omega)]; apply ByteArray.ext; simp
                    have pm0 : tmd = false := by rw [pm]; unfold sdM; exact decide_eq_false (by omega)
                    have pp0 : ppar = 0 := by rw [pp]; unfold sdP; rw [if_neg (by omega), if_pos (by omega)]
                    replace pt := pt0
                    replace pm := pm0
                    replace pp := pp0
                    clear pt0 pm0 pp0
                    obtain ⟨i1, hi1⟩ : ∃ n, n = i - 1 := ⟨_, rfl⟩
                    have y0 : IntKind.i64.wrap ((i : Int) - 1) = (i1 : Int) := by rw [IntWalk.i64_in _ (by omega)]; omega
                    have y9 : ((k : Int) == (i1 : Int)) = false := beq_false_of_ne (by omega)
                    replace hi1 := Lib.hid hi1
                    have y8 : (k : Int) < (i : Int) := by omega
                    have y1 : IntKind.i64.wrap (97 + (k : Int)) = 97 + (k : Int) := IntWalk.i64_in _ (by omega)
                    have y3 : IntKind.u8.wrap (97 + ((k : Nat) : Int)) = 97 + ((k : Nat) : Int) := by
                      simp [IntKind.wrap, IntKind.signed, IntKind.bits]
                      omega
                    have hcv := conv_a (i := k) (by omega) W4
                    obtain ⟨ch, hch⟩ : ∃ c, c = UInt8.ofNat (97 + k) := ⟨_, rfl⟩
                    rw [← hch] at hcv pt
                    replace hch := Lib.hid hch
                    have z0 : (⟨#[120]⟩ : ByteArray).size + (⟨#[ch]⟩ : ByteArray).size ≤ 9223372036854775807 := by show 1 + 1 ≤ 9223372036854775807; omega
                    have z1 : (⟨#[121]⟩ : ByteArray).size + (⟨#[ch]⟩ : ByteArray).size ≤ 9223372036854775807 := by show 1 + 1 ≤ 9223372036854775807; omega
                    have z2 : ((⟨#[120]⟩ : ByteArray) ++ (⟨#[ch]⟩ : ByteArray)).size + (⟨#[121, 97]⟩ : ByteArray).size ≤ 9223372036854775807 := by rw [ByteArray.size_append]; show 1 + 1 + 2 ≤ 9223372036854775807; omega
                    subst pt pm pp
                    obtain ⟨q0, q1, q2, q3, q4, q5, q6, q7⟩ := cells8 hx4
                    have q6a := fun o => kept_cell ((Below.refl W4.heap.size W4).alloc (Nat.le_refl _) o) q6
                    replace hx4 := Lib.hid hx4
                    go_wp2_with fail
                    go_roundg (N - (k + 1))
                    case measure => exact f4.out
                    case rel => exact ⟨k + 1, rfl, hkn, by go_num, Lib.hid (hb4'.out.alloc hb4'.out.size _)⟩
                  · obtain ⟨jj, hjj⟩ : ∃ n, n = k - i + 1 := ⟨_, rfl⟩
                    have pt0 : tx = (⟨#[121]⟩ : ByteArray) ++ (⟨#[UInt8.ofNat (97 + jj)]⟩ : ByteArray) := by rw [pt]; unfold sdT; rw [if_neg (by omega), if_neg (by omega), if_pos (by omega), hjj]; apply ByteArray.ext; simp
                    have pm0 : tmd = false := by rw [pm]; unfold sdM; exact decide_eq_false (by omega)
                    have pp0 : ppar = 1 := by rw [pp]; unfold sdP; rw [if_neg (by omega), if_neg (by omega)]
                    replace pt := pt0
                    replace pm := pm0
                    replace pp := pp0
                    clear pt0 pm0 pp0
                    obtain ⟨i1, hi1⟩ : ∃ n, n = i - 1 := ⟨_, rfl⟩
                    have y0 : IntKind.i64.wrap ((i : Int) - 1) = (i1 : Int) := by rw [IntWalk.i64_in _ (by omega)]; omega
                    have y9 : ((k : Int) == (i1 : Int)) = false := beq_false_of_ne (by omega)
                    obtain ⟨ki, hki⟩ : ∃ n, n = k - i := ⟨_, rfl⟩
                    have y7 : IntKind.i64.wrap ((k : Int) - (i : Int)) = (ki : Int) := by rw [IntWalk.i64_in _ (by omega)]; omega
                    have y6 : IntKind.i64.wrap ((ki : Int) + 1) = (jj : Int) := by rw [IntWalk.i64_in _ (by omega)]; omega
                    have y8 : ¬ (k : Int) < (i : Int) := by omega
                    have y1 : IntKind.i64.wrap (97 + (jj : Int)) = 97 + (jj : Int) := IntWalk.i64_in _ (by omega)
                    have y3 : IntKind.u8.wrap (97 + ((jj : Nat) : Int)) = 97 + ((jj : Nat) : Int) := by
                      simp [IntKind.wrap, IntKind.signed, IntKind.bits]
                      omega
                    have hjj' : jj < 26 := by omega
                    replace hjj := Lib.hid hjj
                    replace hki := Lib.hid hki
                    replace hi1 := Lib.hid hi1
                    have hcv := conv_a (i := jj) (by omega) W4
                    obtain ⟨ch, hch⟩ : ∃ c, c = UInt8.ofNat (97 + jj) := ⟨_, rfl⟩
                    rw [← hch] at hcv pt
                    replace hch := Lib.hid hch
                    have z0 : (⟨#[120]⟩ : ByteArray).size + (⟨#[ch]⟩ : ByteArray).size ≤ 9223372036854775807 := by show 1 + 1 ≤ 9223372036854775807; omega
                    have z1 : (⟨#[121]⟩ : ByteArray).size + (⟨#[ch]⟩ : ByteArray).size ≤ 9223372036854775807 := by show 1 + 1 ≤ 9223372036854775807; omega
                    have z2 : ((⟨#[120]⟩ : ByteArray) ++ (⟨#[ch]⟩ : ByteArray)).size + (⟨#[121, 97]⟩ : ByteArray).size ≤ 9223372036854775807 := by rw [ByteArray.size_append]; show 1 + 1 + 2 ≤ 9223372036854775807; omega
                    subst pt pm pp
                    obtain ⟨q0, q1, q2, q3, q4, q5, q6, q7⟩ := cells8 hx4
                    have q6a := fun o => kept_cell ((Below.refl W4.heap.size W4).alloc (Nat.le_refl _) o) q6
                    replace hx4 := Lib.hid hx4
                    go_wp2_with fail
                    go_roundg (N - (k + 1))
                    case measure => exact f4.out
                    case rel => exact ⟨k + 1, rfl, hkn, by go_num, Lib.hid (hb4'.out.alloc hb4'.out.size _)⟩
              · obtain rfl : k = N := by omega
                have hkn' : ¬ (k : Int) < k := by omega
                go_wp2_with fail
                refine (HAw.out _).mono ?_
                rintro e w12 ⟨rfl, hb12⟩
                go_wp2
                go_ret
                have hbk2 := hbk.out.trans (hb12.mono hbk.out.size)
                exact ⟨rfl, hbl11.out.trans (hbk2.mono hbl11.out.size)⟩
          · have hNe : N = i + j := by rw [hN.out]; unfold sdN; rw [if_neg (by omega)]; omega
            have k1 : IntKind.i64.wrap ((i : Int) + (j : Int)) = (N : Int) := by rw [IntWalk.i64_in _ (by omega)]; omega
            replace hNe := Lib.hid hNe
            have cA2 : decide ((0 : Int) < (i : Int)) = true := decide_eq_true cA
            have cA3 : decide (0 < i) = true := decide_eq_true (by omega)
            have cB2 : decide ((0 : Int) < (j : Int)) = false := decide_eq_false cB
            have cB3 : decide (0 < j) = false := decide_eq_false (by omega)
            go_wp2_with fail
            go_loopg [15] N (fun q v15 wx => ∃ k : Nat, q = N - k ∧ k ≤ N ∧ v15 = .int .i64 k ∧ Hid (Below w11.heap.size w11 wx))
            case atStart => exact ⟨0, rfl, Nat.zero_le _, rfl, Lib.hid hrf11⟩
            case round =>
              obtain ⟨k, rfl, hk, rfl, hbk⟩ := hrel
              by_cases hkn : k < N
              · have hkn' : (k : Int) < N := by omega
                have f4 : Hid (N - (k + 1) < N - k) := Lib.hid (by omega)
                have e0 : IntKind.i64.wrap ((k : Int) + 1) = (k : Int) + 1 := IntWalk.i64_in _ (by omega)
                have e1 : IntKind.i64.wrap (1 + (k : Int)) = 1 + (k : Int) := IntWalk.i64_in _ (by omega)
                have e2 : (1 : Int) + (k : Int) < (N : Int) + 2 := by omega
                have e3 : (0 : Int) ≤ 1 + (k : Int) := by omega
                have e4 : ((1 : Int) + (k : Int)).toNat = 1 + k := by omega
                obtain ⟨p, hp, pt, pm, pp⟩ := hFm.out k hkn
                obtain ⟨⟨tk, tx, tsp, tfi, tf1, tf2, tmd⟩, pcss, ppar, pat, pfl⟩ := p
                simp only at pt pm pp
                replace pt := Lib.hid pt
                replace pm := Lib.hid pm
                replace pp := Lib.hid pp
                have hKa := fun o => HK.out _ (hbk.out.alloc hbk.out.size o) (1 + k) _ hp
                simp only at hKa
                have hKd := fun o => (hKa o).1
                obtain ⟨_, sa, sn, sc, u0, u1, u2, u3, u4, u5, u6, u7⟩ := HK.out wr hbk.out (1 + k) _ hp
                simp only at u0 u1 u2 u3 u4 u5 u6 u7
                have v0 := fun o => kept_cell ((Below.refl wr.heap.size wr).alloc (Nat.le_refl _) o) u0
                have v1 := fun o => kept_cell ((Below.refl wr.heap.size wr).alloc (Nat.le_refl _) o) u1
                have v2 := fun o => kept_cell ((Below.refl wr.heap.size wr).alloc (Nat.le_refl _) o) u2
                have v3 := fun o => kept_cell ((Below.refl wr.heap.size wr).alloc (Nat.le_refl _) o) u3
                have v4 := fun o => kept_cell ((Below.refl wr.heap.size wr).alloc (Nat.le_refl _) o) u4
                have v5 := fun o => kept_cell ((Below.refl wr.heap.size wr).alloc (Nat.le_refl _) o) u5
                have v6 := fun o => kept_cell ((Below.refl wr.heap.size wr).alloc (Nat.le_refl _) o) u6
                have v7 := fun o => kept_cell ((Below.refl wr.heap.size wr).alloc (Nat.le_refl _) o) u7
                obtain ⟨W4, hW4⟩ : ∃ W4, W4 = (wr.alloc (.cells #[.int .i64 tk, .string tx, .bool tsp, .string tfi, .int .i64 tf1, .int .i64 tf2, .bool tmd, .slice sa sn sc] 34)).drew := ⟨_, rfl⟩
                have hx4 : W4.heap[wr.heap.size]? = some (.cells #[.int .i64 tk, .string tx, .bool tsp, .string tfi, .int .i64 tf1, .int .i64 tf2, .bool tmd, .slice sa sn sc] 34 (0, 0)) := by rw [hW4]; exact heap_alloc_new wr _
                have hb4' : Hid (Below w11.heap.size w11 W4) := Lib.hid (by rw [hW4]; exact (hbk.out.alloc hbk.out.size _).drew)
                obtain ⟨gx, hgx⟩ : ∃ g, g = wr.heap.size := ⟨_, rfl⟩
                rw [← hgx] at hx4
                replace hp := Lib.hid hp
                clear hKa
                go_wp2_with fail
                go_region
                rw [← hW4, ← hgx]
                replace hW4 := Lib.hid hW4
                replace hgx := Lib.hid hgx
                clear hKd u0 u1 u2 u3 u4 u5 u6 u7 v0 v1 v2 v3 v4 v5 v6 v7
                replace pt := pt.out
                replace pm := pm.out
                replace pp := pp.out
                have hki : k < i := by have := hNe.out; omega
                have pt0 : tx = (⟨#[120]⟩ : ByteArray) ++ (⟨#[UInt8.ofNat (97 + k)]⟩ : ByteArray) := by rw [pt]; unfold sdT; rw [if_neg (by omega), if_pos (by omega)]; apply ByteArray.ext; simp
                have pm0 : tmd = false := by rw [pm]; unfold sdM; exact decide_eq_false (by omega)
                have pp0 : ppar = 0 := by rw [pp]; unfold sdP; rw [if_neg (by omega), if_pos (by omega)]
                replace pt := pt0
                replace pm := pm0
                replace pp := pp0
                clear pt0 pm0 pp0
                have y8 : (k : Int) < (i : Int) := by omega
                have y1 : IntKind.i64.wrap (97 + (k : Int)) = 97 + (k : Int) := IntWalk.i64_in _ (by omega)
                have y3 : IntKind.u8.wrap (97 + ((k : Nat) : Int)) = 97 + ((k : Nat) : Int) := by
                  simp [IntKind.wrap, IntKind.signed, IntKind.bits]
                  omega
                have hcv := conv_a (i := k) (by omega) W4
                obtain ⟨ch, hch⟩ : ∃ c, c = UInt8.ofNat (97 + k) := ⟨_, rfl⟩
                rw [← hch] at hcv pt
                replace hch := Lib.hid hch
                have z0 : (⟨#[120]⟩ : ByteArray).size + (⟨#[ch]⟩ : ByteArray).size ≤ 9223372036854775807 := by show 1 + 1 ≤ 9223372036854775807; omega
                have z1 : (⟨#[121]⟩ : ByteArray).size + (⟨#[ch]⟩ : ByteArray).size ≤ 9223372036854775807 := by show 1 + 1 ≤ 9223372036854775807; omega
                have z2 : ((⟨#[120]⟩ : ByteArray) ++ (⟨#[ch]⟩ : ByteArray)).size + (⟨#[121, 97]⟩ : ByteArray).size ≤ 9223372036854775807 := by rw [ByteArray.size_append]; show 1 + 1 + 2 ≤ 9223372036854775807; omega
                subst pt pm pp
                obtain ⟨q0, q1, q2, q3, q4, q5, q6, q7⟩ := cells8 hx4
                have q6a := fun o => kept_cell ((Below.refl W4.heap.size W4).alloc (Nat.le_refl _) o) q6
                replace hx4 := Lib.hid hx4
                go_wp2_with fail
                go_roundg (N - (k + 1))
                case measure => exact f4.out
                case rel => exact ⟨k + 1, rfl, hkn, by go_num, Lib.hid (hb4'.out.alloc hb4'.out.size _)⟩
              · obtain rfl : k = N := by omega
                have hkn' : ¬ (k : Int) < k := by omega
                go_wp2_with fail
                refine (HAw.out _).mono ?_
                rintro e w12 ⟨rfl, hb12⟩
                go_wp2
                go_ret
                have hbk2 := hbk.out.trans (hb12.mono hbk.out.size)
                exact ⟨rfl, hbl11.out.trans (hbk2.mono hbl11.out.size)⟩
          · have hNe : N = i + j := by rw [hN.out]; unfold sdN; rw [if_neg (by omega)]; omega
            have k1 : IntKind.i64.wrap ((i : Int) + (j : Int)) = (N : Int) := by rw [IntWalk.i64_in _ (by omega)]; omega
            replace hNe := Lib.hid hNe
            have cA2 : decide ((0 : Int) < (i : Int)) = false := decide_eq_false cA
            have cA3 : decide (0 < i) = false := decide_eq_false (by omega)
            go_wp2_with fail
            go_loopg [15] N (fun q v15 wx => ∃ k : Nat, q = N - k ∧ k ≤ N ∧ v15 = .int .i64 k ∧ Hid (Below w11.heap.size w11 wx))
            case atStart => exact ⟨0, rfl, Nat.zero_le _, rfl, Lib.hid hrf11⟩
            case round =>
              obtain ⟨k, rfl, hk, rfl, hbk⟩ := hrel
              by_cases hkn : k < N
              · have hkn' : (k : Int) < N := by omega
                have f4 : Hid (N - (k + 1) < N - k) := Lib.hid (by omega)
                have e0 : IntKind.i64.wrap ((k : Int) + 1) = (k : Int) + 1 := IntWalk.i64_in _ (by omega)
                have e1 : IntKind.i64.wrap (1 + (k : Int)) = 1 + (k : Int) := IntWalk.i64_in _ (by omega)
                have e2 : (1 : Int) + (k : Int) < (N : Int) + 2 := by omega
                have e3 : (0 : Int) ≤ 1 + (k : Int) := by omega
                have e4 : ((1 : Int) + (k : Int)).toNat = 1 + k := by omega
                obtain ⟨p, hp, pt, pm, pp⟩ := hFm.out k hkn
                obtain ⟨⟨tk, tx, tsp, tfi, tf1, tf2, tmd⟩, pcss, ppar, pat, pfl⟩ := p
                simp only at pt pm pp
                replace pt := Lib.hid pt
                replace pm := Lib.hid pm
                replace pp := Lib.hid pp
                have hKa := fun o => HK.out _ (hbk.out.alloc hbk.out.size o) (1 + k) _ hp
                simp only at hKa
                have hKd := fun o => (hKa o).1
                obtain ⟨_, sa, sn, sc, u0, u1, u2, u3, u4, u5, u6, u7⟩ := HK.out wr hbk.out (1 + k) _ hp
                simp only at u0 u1 u2 u3 u4 u5 u6 u7
                have v0 := fun o => kept_cell ((Below.refl wr.heap.size wr).alloc (Nat.le_refl _) o) u0
                have v1 := fun o => kept_cell ((Below.refl wr.heap.size wr).alloc (Nat.le_refl _) o) u1
                have v2 := fun o => kept_cell ((Below.refl wr.heap.size wr).alloc (Nat.le_refl _) o) u2
                have v3 := fun o => kept_cell ((Below.refl wr.heap.size wr).alloc (Nat.le_refl _) o) u3
                have v4 := fun o => kept_cell ((Below.refl wr.heap.size wr).alloc (Nat.le_refl _) o) u4
                have v5 := fun o => kept_cell ((Below.refl wr.heap.size wr).alloc (Nat.le_refl _) o) u5
                have v6 := fun o => kept_cell ((Below.refl wr.heap.size wr).alloc (Nat.le_refl _) o) u6
                have v7 := fun o => kept_cell ((Below.refl wr.heap.size wr).alloc (Nat.le_refl _) o) u7
                obtain ⟨W4, hW4⟩ : ∃ W4, W4 = (wr.alloc (.cells #[.int .i64 tk, .string tx, .bool tsp, .string tfi, .int .i64 tf1, .int .i64 tf2, .bool tmd, .slice sa sn sc] 34)).drew := ⟨_, rfl⟩
                have hx4 : W4.heap[wr.heap.size]? = some (.cells #[.int .i64 tk, .string tx, .bool tsp, .string tfi, .int .i64 tf1, .int .i64 tf2, .bool tmd, .slice sa sn sc] 34 (0, 0)) := by rw [hW4]; exact heap_alloc_new wr _
                have hb4' : Hid (Below w11.heap.size w11 W4) := Lib.hid (by rw [hW4]; exact (hbk.out.alloc hbk.out.size _).drew)
                obtain ⟨gx, hgx⟩ : ∃ g, g = wr.heap.size := ⟨_, rfl⟩
                rw [← hgx] at hx4
                replace hp := Lib.hid hp
                clear hKa
                go_wp2_with fail
                go_region
                rw [← hW4, ← hgx]
                replace hW4 := Lib.hid hW4
                replace hgx := Lib.hid hgx
                clear hKd u0 u1 u2 u3 u4 u5 u6 u7 v0 v1 v2 v3 v4 v5 v6 v7
                replace pt := pt.out
                replace pm := pm.out
                replace pp := pp.out
                obtain ⟨jj, hjj⟩ : ∃ n, n = k - i := ⟨_, rfl⟩
                have pt0 : tx = (⟨#[121]⟩ : ByteArray) ++ (⟨#[UInt8.ofNat (97 + jj)]⟩ : ByteArray) := by rw [pt]; unfold sdT; rw [if_neg (by omega), if_neg (by omega), if_neg (by omega), hjj]; apply ByteArray.ext; simp
                have pm0 : tmd = false := by rw [pm]; unfold sdM; exact decide_eq_false (by omega)
                have pp0 : ppar = 1 := by rw [pp]; unfold sdP; rw [if_neg (by omega), if_neg (by omega)]
                replace pt := pt0
                replace pm := pm0
                replace pp := pp0
                clear pt0 pm0 pp0
                have y7 : IntKind.i64.wrap ((k : Int) - (i : Int)) = (jj : Int) := by rw [IntWalk.i64_in _ (by omega)]; omega
                have y8 : ¬ (k : Int) < (i : Int) := by omega
                have y1 : IntKind.i64.wrap (97 + (jj : Int)) = 97 + (jj : Int) := IntWalk.i64_in _ (by omega)
                have y3 : IntKind.u8.wrap (97 + ((jj : Nat) : Int)) = 97 + ((jj : Nat) : Int) := by
                  simp [IntKind.wrap, IntKind.signed, IntKind.bits]
                  omega
                have hjj' : jj < 26 := by omega
                replace hjj := Lib.hid hjj
                have hcv := conv_a (i := jj) (by omega) W4
                obtain ⟨ch, hch⟩ : ∃ c, c = UInt8.ofNat (97 + jj) := ⟨_, rfl⟩
                rw [← hch] at hcv pt
                replace hch := Lib.hid hch
                have z0 : (⟨#[120]⟩ : ByteArray).size + (⟨#[ch]⟩ : ByteArray).size ≤ 9223372036854775807 := by show 1 + 1 ≤ 9223372036854775807; omega
                have z1 : (⟨#[121]⟩ : ByteArray).size + (⟨#[ch]⟩ : ByteArray).size ≤ 9223372036854775807 := by show 1 + 1 ≤ 9223372036854775807; omega
                have z2 : ((⟨#[120]⟩ : ByteArray) ++ (⟨#[ch]⟩ : ByteArray)).size + (⟨#[121, 97]⟩ : ByteArray).size ≤ 9223372036854775807 := by rw [ByteArray.size_append]; show 1 + 1 + 2 ≤ 9223372036854775807; omega
                subst pt pm pp
                obtain ⟨q0, q1, q2, q3, q4, q5, q6, q7⟩ := cells8 hx4
                have q6a := fun o => kept_cell ((Below.refl W4.heap.size W4).alloc (Nat.le_refl _) o) q6
                replace hx4 := Lib.hid hx4
                go_wp2_with fail
                go_roundg (N - (k + 1))
                case measure => exact f4.out
                case rel => exact ⟨k + 1, rfl, hkn, by go_num, Lib.hid (hb4'.out.alloc hb4'.out.size _)⟩
              · obtain rfl : k = N := by omega
                have hkn' : ¬ (k : Int) < k := by omega
                go_wp2_with fail
                refine (HAw.out _).mono ?_
                rintro e w12 ⟨rfl, hb12⟩
                go_wp2
                go_ret
                have hbk2 := hbk.out.trans (hb12.mono hbk.out.size)
                exact ⟨rfl, hbl11.out.trans (hbk2.mono hbl11.out.size)⟩

theorem substSides_walk (a : Int) (ha : (Lit.int .i64 a).wf = true) (b : Int) (hb : (Lit.int .i64 b).wf = true) (w : World) :
    Calls Tryz.prog 11 #[.int .i64 a, .int .i64 b] w fun e w' => e = .returned (.bool true) ∧ Below w.heap.size w w' :=
  substSides_main a b w (i64_arg ha) (i64_arg hb)
end Go.Proofs.YtfaoamdlknlgpaaGreat
