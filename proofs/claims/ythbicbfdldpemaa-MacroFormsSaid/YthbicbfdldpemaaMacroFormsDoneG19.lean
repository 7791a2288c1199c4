/- Texts of this seat's proofs, laid into one file. -/
import Derived.Test.YthbicbfdldpemaaMacroFormsDoneG16
import Derived.Test.YthbicbfdldpemaaMacroFormsDoneG18
import Derived.KernelRfl
import Derived.Test.YthbicbfdldpemaaMacroFormsDoneG12
import Derived.BigQuiet
/- oxbowlaw5's awake. -/
namespace Go.Proofs.Ythbicbfdldpemaa
open Go.RowKit
set_option linter.unusedVariables false

theorem skips_stay {R : List Rn} {s t : NS} (h : Skips R s t) (hs : ¬ AtIn R s ∨ AtTok R s) : t = s := by
  induction h with
  | refl => rfl
  | white h hi hw ih =>
    subst ih
    rcases hs with hs | hs
    · exact absurd hi hs
    · rw [hs.2.1] at hw; cases hw
  | com h hi hw hc ih =>
    subst ih
    rcases hs with hs | hs
    · exact absurd hi hs
    · exact absurd hc hs.2.2

/-- a text's first token, where no blank and no comment stands ahead of it -/
theorem one_tok {l : List UInt8} {e : Ending} (hp : OnePost l e) (hl : 0 < l.length) (h10 : chAt l 0 ≠ 10) (hw : whiteB (chAt l 0) = false) (hc : ¬ 0 < (commentL l 0).1) :
    e = .returned (.tuple #[.agg (if (nextL l 0).2.1 < l.length ∨ tellB l 0 (-1) = true then zeroTok.toArray else #[.int .i64 (nextL l 0).1, .string ⟨(l.take (nextL l 0).2.1).toArray⟩, .bool false, .string ⟨#[]⟩, .int .i64 0, .int .i64 0, .bool false, .slice none 0 0]), .bool (decide (¬ ((nextL l 0).2.1 < l.length ∨ tellB l 0 (-1) = true)))]) := by
  have hat : AtTok (plainR l) ⟨0, [], false, -1, false⟩ := by
    unfold AtTok AtIn
    rw [plainR_cs, plainR_len]
    exact ⟨⟨hl, h10⟩, hw, hc⟩
  obtain ⟨s, hsk, hh⟩ := hp
  have hs := skips_stay hsk (.inr hat)
  subst hs
  rcases hh with ⟨h1, _⟩ | ⟨_, rfl⟩
  · exact absurd hat.1 h1
  · have hd : (0 < (afterTok (plainR l) ⟨0, [], false, -1, false⟩).ds.length) ↔ tellB l 0 (-1) = true := by
      unfold afterTok
      simp only [plainR_cs]
      cases tellB l 0 (-1) <;> simp
    have hi : (afterTok (plainR l) ⟨0, [], false, -1, false⟩).i = (nextL l 0).2.1 := by unfold afterTok; simp only [plainR_cs]
    simp only [hd, hi, Bool.false_eq_true, false_or]
    unfold tokN
    simp only [plainR_cs, List.drop_zero, Nat.sub_zero]

theorem aw1 : linesL [97, 43, 43, 43, 98, 10] = ([⟨[⟨1, [97], false, 0, 1⟩, ⟨5, [43, 43], false, 1, 3⟩, ⟨5, [43], false, 3, 4⟩, ⟨1, [98], false, 4, 5⟩], 0, 6, false⟩], []) := by rfl
theorem aw2 : linesL [47, 42, 32, 120] = ([⟨[], 0, 4, true⟩], [⟨1, 0, 2⟩]) := by rfl

theorem one1 {e : Ending} (hp : OnePost [60, 60, 61] e) : e = .returned (.tuple #[.agg #[.int .i64 5, .string ⟨#[60, 60, 61]⟩, .bool false, .string ⟨#[]⟩, .int .i64 0, .int .i64 0, .bool false, .slice none 0 0], .bool true]) := by
  have := one_tok hp (by decide) (by decide) (by decide) (by decide)
  rw [show nextL [60, 60, 61] 0 = (5, 3, false) by rfl, show tellB [60, 60, 61] 0 (-1) = false by decide] at this
  simpa using this
theorem one2 {e : Ending} (hp : OnePost [97, 32, 98] e) : e = .returned (.tuple #[.agg zeroTok.toArray, .bool false]) := by
  have := one_tok hp (by decide) (by decide) (by decide) (by decide)
  rw [show nextL [97, 32, 98] 0 = (1, 1, false) by rfl] at this
  simpa using this
end Go.Proofs.Ythbicbfdldpemaa

/- oxbowlaw5's awake: the walk. -/
namespace Go.Proofs.Ythbicbfdldpemaa
open Go.RowKit
set_option linter.unusedVariables false

set_option maxHeartbeats 4000000 in
set_option maxRecDepth 100000 in
theorem lexAwake_any (w : World) : Calls Try.prog 22 #[] w fun e w' => e = .returned (.bool true) ∧ Below w.heap.size w w' := by
  have HL1 := lines_any ⟨#[102]⟩ ⟨#[97, 43, 43, 43, 98, 10]⟩ (by decide) w
  have HL2 := fun w' => lines_any ⟨#[102]⟩ ⟨#[47, 42, 32, 120]⟩ (by decide) w'
  have HO1 := fun w' => lexOne_any ⟨#[60, 60, 61]⟩ (by decide) w'
  have HO2 := fun w' => lexOne_any ⟨#[97, 32, 98]⟩ (by decide) w'
  unfold LinesPost at HL1 HL2
  rw [show (⟨#[97, 43, 43, 43, 98, 10]⟩ : ByteArray).data.toList = [97, 43, 43, 43, 98, 10] from rfl, aw1] at HL1
  simp only [aw2] at HL2
  simp only at HO1
  simp only at HO2
  replace HL1 := Lib.hid HL1
  replace HL2 := Lib.hid HL2
  replace HO1 := Lib.hid HO1
  replace HO2 := Lib.hid HO2
  go_enter Try.func22, Try.ntmps22
  go_wp2_with fail
  refine HL1.out.mono ?_
  rintro e w1 ⟨vo, vd, lcs, rfl, hO, hLs, hD, hb1⟩
  cases hLs with
  | cons hl hr =>
  cases hr
  obtain ⟨ao, tcap, rfl, htc, hrow⟩ := hl.row
  obtain ⟨oa, ocap, rfl, hoc, _, horow, _⟩ := hO.rown (n := 1) (by simp)
  obtain ⟨da, dcap, rfl, _, _, _, _⟩ := hD.rown (n := 0) (by simp)
  obtain ⟨ob, oo, rfl, hat⟩ := horow (by simp)
  obtain ⟨tb, tq, rfl, htt⟩ := hrow (by simp)
  have q0 := (ln_cells hat (k := 0) rfl).1
  have q1 := (tk_cells htt (k := 1) rfl).2.1
  have q2 := tk_cells htt (k := 3) rfl
  obtain ⟨_, _, _, q3, q4, q5, _, _⟩ := q2
  simp only [Nat.zero_mul, Nat.add_zero, Nat.one_mul] at q0 q1 q3 q4 q5
  have HF : Hid (∀ wx, Below w1.heap.size w1 wx → wx.cell? ⟨ob, oo, none⟩ = some (.slice (some ⟨tb, tq, none⟩) 4 tcap) ∧ wx.cell? ⟨tb, tq + 8 + 1, none⟩ = some (.string ⟨#[43, 43]⟩) ∧ wx.cell? ⟨tb, tq + 3 * 8 + 3, none⟩ = some (.string ⟨#[102]⟩) ∧ wx.cell? ⟨tb, tq + 3 * 8 + 4, none⟩ = some (.int .i64 4) ∧ wx.cell? ⟨tb, tq + 3 * 8 + 5, none⟩ = some (.int .i64 5)) := Lib.hid (fun wx hx => ⟨kept_cell hx q0, kept_cell hx q1, kept_cell hx q3, kept_cell hx q4, kept_cell hx q5⟩)
  clear q0 q1 q3 q4 q5 hat htt hrow horow hD hO hl
  go_wp2_with fail
  refine (HO1.out _).mono ?_
  rintro e w2 ⟨hp2, hb2⟩
  obtain rfl := one1 hp2
  clear hp2
  have hT2 := heap_alloc_new w2 (.cells #[.int .i64 5, .string ⟨#[60, 60, 61]⟩, .bool false, .string ⟨#[]⟩, .int .i64 0, .int .i64 0, .bool false, .slice none 0 0] 43)
  have hB2 := hb2.alloc hb2.size (.cells #[.int .i64 5, .string ⟨#[60, 60, 61]⟩, .bool false, .string ⟨#[]⟩, .int .i64 0, .int .i64 0, .bool false, .slice none 0 0] 43)
  go_wp2_with fail
  refine (HO2.out _).mono ?_
  rintro e w3 ⟨hp3, hb3⟩
  obtain rfl := one2 hp3
  clear hp3
  unfold zeroTok
  have hT3 := (hb3.block _ (lt_of_block hT2)).trans hT2
  have hB3 := (hB2.trans (hb3.mono hB2.size)).alloc (Nat.le_trans hB2.size hb3.size) (.cells #[.int .i64 0, .string ⟨#[]⟩, .bool false, .string ⟨#[]⟩, .int .i64 0, .int .i64 0, .bool false, .slice none 0 0] 43)
  have hT4 := (Lib.alloc_old w3 (.cells #[.int .i64 0, .string ⟨#[]⟩, .bool false, .string ⟨#[]⟩, .int .i64 0, .int .i64 0, .bool false, .slice none 0 0] 43) _ (lt_of_block hT3)).trans hT3
  go_wp2_with fail
  refine (HL2.out _).mono ?_
  rintro e w5 ⟨vo5, vd5, lcs5, rfl, hO5, hLs5, hD5, hb5⟩
  have hT5 := (hb5.block _ (lt_of_block hT4)).trans hT4
  have hB5 := hB3.trans (hb5.mono hB3.size)
  obtain ⟨oa5, ocap5, rfl, _, _, _, _⟩ := hO5.rown (n := 1) (by rw [hLs5.len]; rfl)
  obtain ⟨da5, dcap5, rfl, _, _, hdrow, _⟩ := hD5.rown (n := 1) (by simp)
  obtain ⟨db, dd, rfl, hdat⟩ := hdrow (by simp)
  have hd0 := (dg_cells (l := [⟨1, 0, 2⟩]) hdat (k := 0) rfl).1
  simp only [Nat.zero_mul, Nat.add_zero] at hd0
  obtain ⟨x0, x1, x2, x3, x4⟩ := HF.out w5 hB5
  obtain ⟨t0, t1, t2, t3, t4, t5, t6, t7⟩ := cells8x hT5
  have hBB := hb1.trans (hB5.mono hb1.size)
  clear hdat hdrow hLs5 hO5 hD5 hT2 hT3 hT4 hT5 hB2 hB3 hB5 hb2 hb3 hb5
  go_wp2
  go_ret
  exact ⟨rfl, hBB⟩
end Go.Proofs.Ythbicbfdldpemaa

/- LexGaps: the walk. -/
namespace Go.Proofs.Ythbicbfdldpemaa
open Go.RowKit
set_option linter.unusedVariables false

def rndX (a n : Int) : Int := (a.tmod n + n).tmod n
theorem rndX_range (a n : Int) (h0 : 0 < n) : 0 ≤ rndX a n ∧ rndX a n < n := by
  have h2 : -n < a.tmod n := Int.lt_tmod_of_pos a h0
  unfold rndX
  rw [Int.tmod_eq_emod_of_nonneg (by omega)]
  exact ⟨Int.emod_nonneg _ (by omega), Int.emod_lt_of_pos _ h0⟩

set_option maxRecDepth 100000 in
theorem roundX_any (a n : Int) (h0 : 0 < n) (h1 : n ≤ 1000) (ha : -9223372036854775808 ≤ a ∧ a ≤ 9223372036854775807) (w : World) :
    Calls Try.prog 21 #[.int .i64 a, .int .i64 n] w fun e w' => e = .returned (.int .i64 (rndX a n)) ∧ w' = w := by
  have hr := rndX_range a n h0
  have h2 : -n < a.tmod n := Int.lt_tmod_of_pos a h0
  have h3 : a.tmod n < n := Int.tmod_lt_of_pos a h0
  have HQ : Hid (rndX a n = (a.tmod n + n) % n) := Lib.hid (Int.tmod_eq_emod_of_nonneg (by omega))
  go_enter Try.func21, Try.ntmps21
  go_wp2
  go_ret
  exact ⟨by rw [HQ.out]; rfl, rfl⟩

theorem data_appY (a b : ByteArray) : (a ++ b).data.toList = a.data.toList ++ b.data.toList := by rw [ByteArray.data_append]; simp

def kindsB : List ByteArray := [⟨#[32]⟩, ⟨#[9]⟩, ⟨#[47, 42, 42, 47]⟩, ⟨#[47, 42, 32, 97, 32, 10, 32, 98, 32, 42, 47]⟩, ⟨#[32, 47, 42, 32, 42, 32, 47, 32, 42, 47, 32]⟩, ⟨#[11, 12]⟩]
theorem kindsB_ok : ∀ b ∈ kindsB, b.data.toList ∈ kindsG ∧ b.size ≤ 11 := by decide

theorem str_cell {w : World} {b o k : Nat} {ws : List ByteArray} {s : ByteArray} (hat : RowAt w 1 b o (ws.map fun p => [.string p])) (hk : ws[k]? = some s) : w.cell? ⟨b, o + k, none⟩ = some (.string s) := by
  have := hat.cell (i := k) (cs := [.string s]) (by simp [hk]) (j := 0) (u := .string s) rfl
  simpa using this
theorem int_cell {w : World} {b o k : Nat} {zs : List Int} {z : Int} (hat : RowAt w 1 b o (zs.map fun z => [.int .i64 z])) (hk : zs[k]? = some z) : w.cell? ⟨b, o + k, none⟩ = some (.int .i64 z) := by
  have := hat.cell (i := k) (cs := [.int .i64 z]) (by simp [hk]) (j := 0) (u := .int .i64 z) rfl
  simpa using this

/-- what is told so far -/
structure GapsAt (ws : List ByteArray) (i : Nat) (sb : ByteArray) (gs : List (List UInt8 × List UInt8)) : Prop where
  text : sb.data.toList = spellG gs
  words : gs.map (·.2) = (ws.take i).map (·.data.toList)
  good : ∀ p ∈ gs, p.1 ∈ kindsG ∧ Wd p.2
  size : sb.size ≤ 31 * i

theorem GapsAt.next {ws : List ByteArray} {i : Nat} {sb g wd : ByteArray} {gs : List (List UInt8 × List UInt8)} (h : GapsAt ws i sb gs) (hg : g ∈ kindsB) (hw : ws[i]? = some wd) (hwd : Wd wd.data.toList) (hs : wd.size ≤ 20) : GapsAt ws (i + 1) (sb ++ g ++ wd) (gs ++ [(g.data.toList, wd.data.toList)]) := by
  have hk := kindsB_ok g hg
  refine ⟨?_, ?_, ?_, ?_⟩
  · rw [data_appY, data_appY, h.text, spellG_app]
    simp [spellG]
  · rw [List.map_append, h.words, List.take_add_one, hw]
    simp
  · intro p hp
    rcases List.mem_append.1 hp with hp | hp
    · exact h.good p hp
    · simp only [List.mem_singleton] at hp; subst hp; exact ⟨hk.1, hwd⟩
  · have := h.size
    rw [ByteArray.size_append, ByteArray.size_append]
    omega

set_option maxHeartbeats 40000000 in
set_option maxRecDepth 100000 in
theorem lexGaps_walk (ws : List ByteArray) (hws : ∀ s ∈ ws, s.size ≤ maxLen) (a1 : Option Addr) (c1 : Nat) (hc1 : ws.length ≤ c1) (zs : List Int) (a2 : Option Addr) (c2 : Nat) (hc2 : zs.length ≤ c2) (hz : ∀ z ∈ zs, -9223372036854775808 ≤ z ∧ z ≤ 9223372036854775807) (w : World) (hrw : Row w 1 a1 (ws.map fun p => [.string p])) (hrz : Row w 1 a2 (zs.map fun z => [.int .i64 z])) :
    Calls Try.prog 10 #[.slice a1 ws.length c1, .slice a2 zs.length c2] w fun e w' => e = .returned (.bool true) ∧ Below w.heap.size w w' := by
  obtain ⟨n, hn⟩ : ∃ n, n = ws.length := ⟨_, rfl⟩
  obtain ⟨g, hg⟩ : ∃ g, g = zs.length := ⟨_, rfl⟩
  have HN : Hid (ws.length = n) := Lib.hid hn.symm
  have HG : Hid (zs.length = g) := Lib.hid hg.symm
  rw [← hn] at hc1 ⊢
  rw [← hg] at hc2 ⊢
  clear hn hg
  by_cases h1 : 12 < n
  · have e1 : (12 : Int) < (n : Int) := by omega
    go_enter Try.func10, Try.ntmps10
    go_wp2_with (go_at_call 22; refine (lexAwake_any _).mono ?_; rintro e w' ⟨rfl, hb⟩)
    go_ret
    exact ⟨rfl, hb⟩
  · have e1 : ¬ (12 : Int) < (n : Int) := by omega
    by_cases h2 : 20 < g
    · have e2 : (20 : Int) < (g : Int) := by omega
      go_enter Try.func10, Try.ntmps10
      go_wp2_with (go_at_call 22; refine (lexAwake_any _).mono ?_; rintro e w' ⟨rfl, hb⟩)
      go_ret
      exact ⟨rfl, hb⟩
    · have e2 : ¬ (20 : Int) < (g : Int) := by omega
      replace hz := Lib.hid hz
      replace hws := Lib.hid hws
      go_enter Try.func10, Try.ntmps10
      have hK : ∀ (r : Nat) (b : ByteArray), kindsB[r]? = some b → (w.alloc (.cells #[.string ⟨#[32]⟩, .string ⟨#[9]⟩, .string ⟨#[47, 42, 42, 47]⟩, .string ⟨#[47, 42, 32, 97, 32, 10, 32, 98, 32, 42, 47]⟩, .string ⟨#[32, 47, 42, 32, 42, 32, 47, 32, 42, 47, 32]⟩, .string ⟨#[11, 12]⟩] 9)).cell? ⟨w.heap.size, r, none⟩ = some (.string b) := by
        intro r b hr
        refine cell_new w [.string ⟨#[32]⟩, .string ⟨#[9]⟩, .string ⟨#[47, 42, 42, 47]⟩, .string ⟨#[47, 42, 32, 97, 32, 10, 32, 98, 32, 42, 47]⟩, .string ⟨#[32, 47, 42, 32, 42, 32, 47, 32, 42, 47, 32]⟩, .string ⟨#[11, 12]⟩] 9 ?_
        have := congrArg (Option.map Value.string) hr
        rw [← List.getElem?_map] at this
        exact this
      have hb1 := (Below.refl _ w).alloc (Nat.le_refl _) (.cells #[.string ⟨#[32]⟩, .string ⟨#[9]⟩, .string ⟨#[47, 42, 42, 47]⟩, .string ⟨#[47, 42, 32, 97, 32, 10, 32, 98, 32, 42, 47]⟩, .string ⟨#[32, 47, 42, 32, 42, 32, 47, 32, 42, 47, 32]⟩, .string ⟨#[11, 12]⟩] 9)
      go_wp2_with fail
      obtain ⟨w1, hw1⟩ : ∃ w1, w1 = w.alloc (.cells #[.string ⟨#[32]⟩, .string ⟨#[9]⟩, .string ⟨#[47, 42, 42, 47]⟩, .string ⟨#[47, 42, 32, 97, 32, 10, 32, 98, 32, 42, 47]⟩, .string ⟨#[32, 47, 42, 32, 42, 32, 47, 32, 42, 47, 32]⟩, .string ⟨#[11, 12]⟩] 9) := ⟨_, rfl⟩
      rw [← hw1] at hK hb1 ⊢
      replace hK := Lib.hid hK
      clear hw1
      have hrw1 := hrw.below hb1
      have hrz1 := hrz.below hb1
      clear hrw hrz
      go_loopg [6, 7] n (fun u v6 v7 wr => ∃ (i : Nat) (sb : ByteArray) (gs : List (List UInt8 × List UInt8)), u = n - i ∧ i ≤ n ∧ v6 = .string sb ∧ v7 = .int .i64 i ∧ wr = w1 ∧ Hid (GapsAt ws i sb gs))
      case atStart => exact ⟨0, _, [], rfl, Nat.zero_le _, rfl, rfl, rfl, Lib.hid ⟨rfl, rfl, by simp, by decide⟩⟩
      case round =>
        obtain ⟨i, sb, gs, rfl, hi, rfl, rfl, hwr, hgs⟩ := hrel
        replace hwr := hwr.symm
        subst hwr
        have hsz := hgs.out.size
        by_cases hin : i < n
        · have f1 : (i : Int) < n := by omega
          obtain ⟨wd, hp⟩ : ∃ p, ws[i]? = some p := ⟨ws[i]'(by rw [HN.out]; exact hin), by simp⟩
          obtain ⟨rb, o, rfl, hat⟩ := hrw1 (by intro h; simp at h; subst h; simp at hp)
          have x0 := str_cell hat hp
          have hwl : wd.size ≤ 9223372036854775807 := by have := hws.out wd (List.mem_of_getElem? hp); unfold maxLen at this; omega
          replace hp := Lib.hid hp
          clear hat
          go_wp2_with fail
          go_loopg [8] wd.size (fun u v8 wr => ∃ k : Nat, u = wd.size - k ∧ k ≤ wd.size ∧ v8 = .int .i64 k ∧ wr = w1 ∧ Hid (∀ j, j < k → 97 ≤ chAt wd.data.toList j ∧ chAt wd.data.toList j ≤ 122))
          case atStart => exact ⟨0, rfl, Nat.zero_le _, rfl, rfl, Lib.hid (by intro j h; omega)⟩
          case round =>
            obtain ⟨k, rfl, hk, rfl, hwr, hch⟩ := hrel
            replace hwr := hwr.symm
            subst hwr
            by_cases hkw : k < wd.size
            · have f2 : (k : Int) < (wd.size : Int) := by omega
              have hck : chAt wd.data.toList k = wd[k]'hkw := get_byte hkw
              by_cases hlo : (wd[k]'hkw).toNat < 97
              · have d1 : ((wd[k]'hkw).toNat : Int) < 97 := by omega
                go_wp2_with (go_at_call 22; refine (lexAwake_any _).mono ?_; rintro e w' ⟨rfl, hb⟩)
                go_ret
                exact ⟨rfl, hb1.trans (hb.mono hb1.size)⟩
              · have d1 : ¬ ((wd[k]'hkw).toNat : Int) < 97 := by omega
                by_cases hhi : 122 < (wd[k]'hkw).toNat
                · have d2 : (122 : Int) < ((wd[k]'hkw).toNat : Int) := by omega
                  go_wp2_with (go_at_call 22; refine (lexAwake_any _).mono ?_; rintro e w' ⟨rfl, hb⟩)
                  go_ret
                  exact ⟨rfl, hb1.trans (hb.mono hb1.size)⟩
                · have d2 : ¬ (122 : Int) < ((wd[k]'hkw).toNat : Int) := by omega
                  have hnew : Hid (97 ≤ chAt wd.data.toList k ∧ chAt wd.data.toList k ≤ 122) := Lib.hid (by
                    rw [hck, UInt8.le_iff_toNat_le, UInt8.le_iff_toNat_le]
                    exact ⟨by simpa using hlo, by simpa using hhi⟩)
                  have hnext : Hid (∀ j, j < k + 1 → 97 ≤ chAt wd.data.toList j ∧ chAt wd.data.toList j ≤ 122) := Lib.hid (by
                    intro j hj
                    by_cases h : j = k
                    · rw [h]; exact hnew.out
                    · exact hch.out j (by omega))
                  clear hck hnew
                  go_wp2_with fail
                  go_roundg (wd.size - (k + 1))
                  case measure => omega
                  case rel =>
                    refine ⟨k + 1, rfl, ?_, by go_num, rfl, hnext⟩
                    exact hkw
            · have f2 : ¬ (k : Int) < (wd.size : Int) := by omega
              have hdl : wd.data.toList.length = wd.size := by rw [← Lib.size_eq]
              by_cases hw0 : wd.size = 0
              · have h0 : wd.toList.isEmpty = true := by
                  rw [Lib.toList_data, List.eq_nil_of_length_eq_zero (show wd.data.toList.length = 0 by rw [hdl]; exact hw0)]
                  rfl
                clear hdl
                go_wp2_with (go_at_call 22; refine (lexAwake_any _).mono ?_; rintro e w' ⟨rfl, hb⟩)
                go_ret
                exact ⟨rfl, hb1.trans (hb.mono hb1.size)⟩
              · have hwd : Hid (Wd wd.data.toList) := Lib.hid (show Wd wd.data.toList from ⟨by intro h; rw [h] at hdl; exact hw0 hdl.symm, by
                  intro c hc
                  obtain ⟨j, hj, rfl⟩ := List.mem_iff_getElem.1 hc
                  have := hch.out j (by omega)
                  rw [chAt_lt (List.getElem?_eq_getElem hj)] at this
                  exact this⟩)
                have h0 : wd.toList.isEmpty = false := by
                  rw [Lib.toList_data]
                  cases h : wd.data.toList with
                  | nil => rw [h] at hdl; exact absurd hdl.symm hw0
                  | cons => rfl
                clear hdl
                by_cases h20 : 20 < wd.size
                · have f3 : (20 : Int) < (wd.size : Int) := by omega
                  go_wp2_with (go_at_call 22; refine (lexAwake_any _).mono ?_; rintro e w' ⟨rfl, hb⟩)
                  go_ret
                  exact ⟨rfl, hb1.trans (hb.mono hb1.size)⟩
                · have f3 : ¬ (20 : Int) < (wd.size : Int) := by omega
                  have q1 : IntKind.i64.wrap ((i : Int) + 1) = (i : Int) + 1 := IntWalk.i64_in _ (by omega)
                  by_cases hig : i < g
                  · have f4 : (i : Int) < g := by omega
                    obtain ⟨z, hpz⟩ : ∃ p, zs[i]? = some p := ⟨zs[i]'(by rw [HG.out]; exact hig), by simp⟩
                    obtain ⟨rb2, o2, rfl, hat2⟩ := hrz1 (by intro h; simp at h; subst h; simp at hpz)
                    have x1 := int_cell hat2 hpz
                    have hr0 := rndX_range z 6 (by decide)
                    obtain ⟨r, hr⟩ : ∃ r : Nat, rndX z 6 = (r : Int) := ⟨(rndX z 6).toNat, by omega⟩
                    have hRd := roundX_any z 6 (by decide) (by decide) (hz.out z (List.mem_of_getElem? hpz)) w1
                    rw [hr] at hRd hr0
                    have hr6 : r < 6 := by omega
                    have f5 : (r : Int) < 6 := by omega
                    obtain ⟨gB, hgB⟩ : ∃ b, kindsB[r]? = some b := ⟨_, List.getElem?_eq_getElem (show r < kindsB.length from hr6)⟩
                    have x2 := hK.out r gB hgB
                    have hgm := List.mem_of_getElem? hgB
                    have hgz := (kindsB_ok gB hgm).2
                    have hz1 : sb.size + gB.size ≤ 9223372036854775807 := by omega
                    have hz2 : sb.size + gB.size + wd.size ≤ 9223372036854775807 := by omega
                    have hz3 : (sb ++ gB).size + wd.size ≤ 9223372036854775807 := by rw [ByteArray.size_append]; exact hz2
                    replace hRd := Lib.hid hRd
                    replace hgm := Lib.hid hgm
                    clear hat2 hpz hr hr0 hgB
                    go_wp2_with fail
                    refine hRd.out.mono ?_
                    rintro e w2 ⟨rfl, hw2⟩
                    replace hw2 := hw2.symm
                    subst hw2
                    go_wp2_with fail
                    go_roundg (n - (i + 1))
                    case measure => omega
                    case rel => exact ⟨i + 1, _, _, rfl, by omega, rfl, by go_num, rfl, Lib.hid (hgs.out.next hgm.out hp.out hwd.out (by omega))⟩
                  · have f4 : ¬ (i : Int) < g := by omega
                    have hz1 : sb.size + 1 ≤ 9223372036854775807 := by omega
                    have hz2 : sb.size + 1 + wd.size ≤ 9223372036854775807 := by omega
                    have hz3 : (sb ++ (⟨#[32]⟩ : ByteArray)).size + wd.size ≤ 9223372036854775807 := by rw [ByteArray.size_append]; exact hz2
                    go_wp2_with fail
                    go_roundg (n - (i + 1))
                    case measure => omega
                    case rel => exact ⟨i + 1, _, _, rfl, by omega, rfl, by go_num, rfl, Lib.hid (hgs.out.next (g := ⟨#[32]⟩) (List.mem_of_getElem? (show kindsB[0]? = some ⟨#[32]⟩ from rfl)) hp.out hwd.out (by omega))⟩
        · have f1 : ¬ (i : Int) < n := by omega
          obtain rfl : i = n := by omega
          obtain ⟨tk', q2, q3⟩ := lex_gaps hgs.out.good
          have hwds := hgs.out.words
          rw [List.take_of_length_le (by rw [HN.out]; exact Nat.le_refl _)] at hwds
          have hgl : gs.length = i := by have := congrArg List.length hwds; simpa [HN.out] using this
          have htl : (⟨#[32, 47, 47, 32, 99, 32, 47, 42, 32, 100, 10]⟩ : ByteArray).data.toList = tailG := rfl
          have hz1 : sb.size + 11 ≤ 9223372036854775807 := by omega
          have HL2 := lines_any ⟨#[102]⟩ (sb ++ (⟨#[32, 47, 47, 32, 99, 32, 47, 42, 32, 100, 10]⟩ : ByteArray)) (by rw [ByteArray.size_append]; show sb.size + 11 ≤ 1000000; omega) w1
          unfold LinesPost at HL2
          rw [data_appY, hgs.out.text, htl, q2] at HL2
          have hlen' : tk'.length = i := by have := congrArg List.length q3; simpa [hgl] using this
          have hword : Hid (∀ k s, ws[k]? = some s → k < i → ∃ t, tk'[k]? = some t ∧ t.kind = 1 ∧ t.text = s.data.toList ∧ t.space = true) := Lib.hid (by
            intro k s hks hk
            obtain ⟨t, ht⟩ : ∃ t, tk'[k]? = some t := ⟨tk'[k]'(by rw [hlen']; exact hk), by simp⟩
            have g1 := congrArg (fun l => l[k]?) q3
            have g2 := congrArg (fun l => l[k]?) hwds
            simp only [List.getElem?_map, ht, hks, Option.map_some] at g1 g2
            cases hgk : gs[k]? with
            | none => rw [hgk] at g1; simp at g1
            | some p =>
              rw [hgk] at g1 g2
              simp only [Option.map_some, Option.some.injEq, Prod.mk.injEq] at g1 g2
              exact ⟨t, ht, g1.1, g1.2.1.trans g2, g1.2.2⟩)
          replace HL2 := Lib.hid HL2
          clear q2 q3 hwds hgl htl hgs hK
          go_wp2_with fail
          refine HL2.out.mono ?_
          rintro e w3 ⟨vo3, vd3, lcs3, rfl, hO3, hL3, hD3, hb3⟩
          cases hL3 with
          | cons hl3 hr3 =>
          cases hr3
          obtain ⟨ao, tcap, rfl, htc3, hrow3⟩ := hl3.row
          obtain ⟨oa3, ocap3, rfl, hoc3, _, horow3, _⟩ := hO3.rown (n := 1) (by simp)
          obtain ⟨da3, dcap3, rfl, _, _, _, _⟩ := hD3.rown (n := 0) (by simp)
          obtain ⟨ob3, oo3, rfl, hat3⟩ := horow3 (by simp)
          have z0 := (ln_cells hat3 (k := 0) rfl).1
          simp only [Nat.zero_mul, Nat.add_zero] at z0
          simp only [hlen'] at z0 htc3
          have hgo : Hid (∀ wx, Below w3.heap.size w3 wx → Row wx 8 ao (tk'.map (tkC ⟨#[102]⟩)) ∧ Row wx 1 a1 (ws.map fun p => [.string p]) ∧ wx.cell? ⟨ob3, oo3, none⟩ = some (.slice ao i tcap)) := Lib.hid (fun wx hx => ⟨hrow3.below hx, (hrw1.below hb3).below hx, kept_cell hx z0⟩)
          have hbw3 := hb1.trans (hb3.mono hb1.size)
          clear hat3 horow3 hD3 hO3 hrow3 hl3 hb3 hrw1 hrz1
          go_wp2_with fail
          go_loopg [12] i (fun u v12 wx => ∃ k : Nat, u = i - k ∧ k ≤ i ∧ v12 = .int .i64 k ∧ Below w3.heap.size w3 wx)
          case atStart => exact ⟨0, rfl, Nat.zero_le _, rfl, Below.refl _ _⟩
          case round =>
            obtain ⟨k, rfl, hk, rfl, hb5⟩ := hrel
            obtain ⟨r1, r2, x0⟩ := hgo.out wr hb5
            have hbw5 := hbw3.trans (hb5.mono hbw3.size)
            clear z0
            by_cases hkm : k < i
            · have f2 : (k : Int) < i := by omega
              obtain ⟨wd, hp⟩ : ∃ p, ws[k]? = some p := ⟨ws[k]'(by rw [HN.out]; exact hkm), by simp⟩
              obtain ⟨tk, hq, hkd, htx, hsp⟩ := hword.out k wd hp hkm
              obtain ⟨rba, oa1, rfl, hata⟩ := r1 (by intro h; simp at h; rw [h] at hq; simp at hq)
              obtain ⟨rbb, ob1, rfl, hatb⟩ := r2 (by intro h; simp at h; rw [h] at hp; simp at hp)
              obtain ⟨a0', a1', a2', a3', a4', a5', a6', a7'⟩ := tk_cells hata hq
              have y0 := str_cell hatb hp
              rw [hkd] at a0'
              replace a0' : wr.cell? ⟨rba, oa1 + k * 8, none⟩ = some (.int .i64 1) := a0'
              rw [htx, show (⟨wd.data.toList.toArray⟩ : ByteArray) = wd from rfl] at a1'
              rw [hsp] at a2'
              have hnb := (Below.refl wr.heap.size wr).alloc (Nat.le_refl _) (.cells #[.int .i64 1, .string wd, .bool true, .string ⟨#[102]⟩, .int .i64 tk.f, .int .i64 tk.t, .bool false, .slice none 0 0] 43)
              have y1 := kept_cell hnb y0
              clear hata hatb hp hq hkd htx hsp r1 r2
              go_wp2_with fail
              go_quiet (fail)
              have hb6 := hb5.trans ((hnb.trans ((drewN_below (wr.alloc (.cells #[.int .i64 1, .string wd, .bool true, .string ⟨#[102]⟩, .int .i64 tk.f, .int .i64 tk.t, .bool false, .slice none 0 0] 43)) nq).mono hnb.size)).mono hb5.size)
              clear y1 hnb
              go_wp2_with fail
              go_roundg (i - (k + 1))
              case measure => omega
              case rel => exact ⟨k + 1, rfl, by omega, by go_num, hb6⟩
            · have f2 : ¬ (k : Int) < i := by omega
              go_wp2_with fail
              refine (lexAwake_any _).mono ?_
              rintro e w9 ⟨rfl, hb9⟩
              go_wp2
              go_ret
              exact ⟨rfl, hbw5.trans (hb9.mono hbw5.size)⟩
end Go.Proofs.Ythbicbfdldpemaa

/- LexLongest: the plain law: signs in a row. -/
namespace Go.Proofs.Ythbicbfdldpemaa
set_option linter.unusedVariables false

def signsL : List UInt8 := [91, 93, 40, 41, 123, 125, 46, 38, 42, 43, 45, 126, 33, 47, 37, 60, 62, 61, 94, 124, 63, 58, 59, 44, 35]

theorem sign_facts : ∀ c ∈ signsL, c ≠ 34 ∧ c ≠ 39 ∧ c ≠ 117 ∧ c ≠ 76 ∧ c ≠ 85 ∧ letterB c = false ∧ digitB c = false ∧ c ≠ 10 ∧ whiteB c = false ∧ c ≠ 92 ∧ [c] ∈ punctsL := by decide

structure SgOk (S : List UInt8) : Prop where
  sg : ∀ c ∈ S, c ∈ signsL
  nc : NoCom S
  qq : ∀ i, chAt S i = 63 → chAt S (i + 1) ≠ 63

theorem plain_noqq : ∀ (l : List UInt8) (p : Nat), (∀ i, chAt l i = 63 → chAt l (i + 1) ≠ 63) → plainL p l = idL p l
  | [], _, _ => rfl
  | [a], _, _ => rfl
  | [a, b], _, _ => rfl
  | a :: b :: c :: r, p, h => by
    have h0 := h 0
    simp only [plainL]
    rw [if_neg (fun hh => h0 hh.1 hh.2.1), plain_noqq (b :: c :: r) (p + 1) (fun i hi => h (i + 1) hi)]
    rfl

theorem sg_chars {S : List UInt8} (h : SgOk S) (hne : S ≠ []) : charsL S = idL 0 S ++ [⟨10, S.length, S.length⟩] := by
  have hst : standL S = idL 0 S := by
    unfold standL
    rw [plain_noqq S 0 h.qq, splicedL_no92]
    intro r hr
    have := (idL_mem S 0 r hr).1
    exact (sign_facts _ (h.sg _ this)).2.2.2.2.2.2.2.2.2.1
  unfold charsL
  rw [if_pos, hst]
  refine ⟨hne, .inr ?_⟩
  rw [hst, ← List.getLast?_map, idL_c]
  intro e
  have := h.sg 10 (List.mem_of_getLast? e)
  exact absurd this (by decide)

theorem sg_cs {S : List UInt8} (h : SgOk S) (hne : S ≠ []) : cs (charsL S) = S ++ [10] := by
  rw [sg_chars h hne]
  unfold cs
  rw [List.map_append, idL_c]
  rfl

/-- signs begin with a punctuator -/
theorem sign_next {X : List UInt8} {c : UInt8} {r : List UInt8} (hX : X = c :: r) (hc : c ∈ signsL) (hd : digitB (chAt X 1) = false) : nextL X 0 = (5, punctL X 0, false) ∧ 0 < punctL X 0 ∧ lettersL X 0 = -1 := by
  have hf := sign_facts c hc
  have h0 : chAt X 0 = c := by rw [hX]; rfl
  have hl : lettersL X 0 = -1 := letters_neg (by rw [h0]; exact ⟨hf.1, hf.2.1, hf.2.2.1, hf.2.2.2.1, hf.2.2.2.2.1⟩)
  have hn : numL X 0 = 0 := by
    unfold numL
    rw [if_neg]
    rw [h0, hf.2.2.2.2.2.2.1, hd]
    simp
  have hp : 0 < punctL X 0 := by
    unfold punctL
    rw [List.drop_zero]
    cases hx : punctsL.find? fun p => p.isPrefixOf X with
    | none =>
      have := List.find?_eq_none.1 hx [c] hf.2.2.2.2.2.2.2.2.2.2
      exact absurd (List.isPrefixOf_iff_prefix.2 (by rw [hX]; exact ⟨r, rfl⟩)) this
    | some p =>
      have := (puncts_no32 p (List.mem_of_find?_eq_some hx)).2
      simpa using List.length_pos_iff.2 this
  refine ⟨?_, hp, hl⟩
  unfold nextL
  rw [hl, if_neg (by omega), if_neg (by omega), if_neg (by omega), if_neg (by rw [h0, hf.2.2.2.2.2.1]; decide), hn, if_neg (by omega), if_pos hp, Nat.zero_add]

/-- a token of signs -/
structure LTok (S : List UInt8) (t : Tk) : Prop where
  kind : t.kind = 5
  space : t.space = false
  pos : 0 < t.text.length
  fits : t.f + t.text.length ≤ S.length
  text : t.text = (S.drop t.f).take t.text.length
  first : (punctsL.find? fun p => p.isPrefixOf (S.drop t.f)) = some t.text

theorem puncts_no10 : ∀ p ∈ punctsL, (10 : UInt8) ∉ p := by decide

theorem prefix_nl {x t : List UInt8} (h : x <+: t ++ [10]) (hx : (10 : UInt8) ∉ x) : x <+: t := by
  obtain ⟨s, hs⟩ := h
  rcases List.append_eq_append_iff.1 hs with ⟨a, h1, h2⟩ | ⟨a, h1, h2⟩
  · exact ⟨a, h1.symm⟩
  · cases a with
    | nil => simp at h1; exact ⟨[], by simp [h1]⟩
    | cons b a =>
      exfalso
      apply hx
      simp only [List.cons_append, List.cons.injEq] at h2
      rw [h1, ← h2.1]
      simp

theorem nodigit {S : List UInt8} (h : SgOk S) (i : Nat) : digitB (chAt (S ++ [10]) i) = false := by
  rcases Nat.lt_or_ge i S.length with h1 | h1
  · rw [chAt_app_lt h1, chAt_lt (List.getElem?_eq_getElem h1)]
    exact (sign_facts _ (h.sg _ (List.getElem_mem h1))).2.2.2.2.2.2.1
  · rw [chAt_app_ge h1]
    cases hh : i - S.length with
    | zero => rfl
    | succ k => rw [show chAt [10] (k + 1) = 0 from chAt_ge (by simp)]; rfl

theorem nocom10 {S : List UInt8} (h : NoCom S) : NoCom (S ++ [10]) := by
  intro i h0
  rcases Nat.lt_or_ge i S.length with h1 | h1
  · rw [chAt_app_lt h1] at h0
    have := h i h0
    rcases Nat.lt_or_ge (i + 1) S.length with h2 | h2
    · rw [chAt_app_lt h2]; exact this
    · rw [chAt_app_ge h2, show i + 1 - S.length = 0 by omega]; exact ⟨by decide, by decide⟩
  · rw [chAt_app_ge h1] at h0
    exfalso
    cases hh : i - S.length with
    | zero => rw [hh] at h0; exact absurd h0 (by decide)
    | succ k => rw [hh, show chAt [10] (k + 1) = 0 from chAt_ge (by simp)] at h0; exact absurd h0 (by decide)

theorem sg_run {S : List UInt8} (h : SgOk S) (hne : S ≠ []) (n : Nat) : ∀ (d : Nat) (s : LS), s.i + d = S.length → s.out = [] → s.diags = [] → s.from_ = 0 → s.space = false →
    ∃ toks' : List Tk, linesFrom (charsL S) n s = ([⟨s.toks ++ toks', 0, n, false⟩], []) ∧ (∀ t ∈ toks', LTok S t) ∧ (toks'.map (·.text)).flatten = S.drop s.i := by
  intro d
  induction d using Nat.strongRecOn with
  | _ d ih =>
    intro s hi ho hg hf hsp
    have hcs := sg_cs h hne
    have hR : (charsL S).length = S.length + 1 := by rw [← cs_len, hcs]; simp
    by_cases hd : d = 0
    · have hie : s.i = S.length := by omega
      have h10 : chAt (cs (charsL S)) s.i = 10 := by rw [hcs, hie, chAt_app_ge (Nat.le_refl _), Nat.sub_self]; rfl
      refine ⟨[], ?_, by simp, by rw [List.drop_eq_nil_of_le (by omega)]; rfl⟩
      rw [linesFrom_inl (s' := ⟨s.i + 1, [], rT (charsL S) s.i, false, s.out ++ [⟨s.toks, s.from_, rT (charsL S) s.i, false⟩], s.diags⟩) (by omega) (by unfold lineStep; rw [if_pos h10]), linesFrom_end (by simp only; omega), ho, hg, hf, List.append_nil]
      rfl
    · have hlt : s.i < S.length := by omega
      have hdr : (cs (charsL S)).drop s.i = S.drop s.i ++ [10] := by rw [hcs, List.drop_append_of_le_length (by omega)]
      have hdS : S.drop s.i = S[s.i] :: S.drop (s.i + 1) := List.drop_eq_getElem_cons hlt
      have hc := h.sg _ (List.getElem_mem hlt)
      have hfc := sign_facts _ hc
      have hc0 : chAt (cs (charsL S)) s.i = S[s.i] := by rw [hcs, chAt_app_lt hlt, chAt_lt (List.getElem?_eq_getElem hlt)]
      have hX : (cs (charsL S)).drop s.i = S[s.i] :: (S.drop (s.i + 1) ++ [10]) := by rw [hdr, hdS]; rfl
      have hsn := sign_next hX hc (by rw [chAt_drop, hcs]; exact nodigit h _)
      obtain ⟨p, hfp⟩ : ∃ p, (punctsL.find? fun p => p.isPrefixOf (S.drop s.i)) = some p := by
        cases hx : punctsL.find? fun p => p.isPrefixOf (S.drop s.i) with
        | some p => exact ⟨p, rfl⟩
        | none =>
          have := List.find?_eq_none.1 hx [S[s.i]] hfc.2.2.2.2.2.2.2.2.2.2
          exact absurd (List.isPrefixOf_iff_prefix.2 (by rw [hdS]; exact ⟨_, rfl⟩)) this
      have hpX : p <+: S.drop s.i := by
        have := List.find?_some hfp
        exact List.isPrefixOf_iff_prefix.1 this
      have hpl : 0 < p.length := List.length_pos_iff.2 (puncts_no32 p (List.mem_of_find?_eq_some hfp)).2
      have hpp : punctL ((cs (charsL S)).drop s.i) 0 = p.length := punct_same hfp (by rw [hdr]; exact hpX.trans (List.prefix_append _ _)) (fun x hx hxY => by rw [hdr] at hxY; exact prefix_nl hxY (puncts_no10 x hx))
      have hple : s.i + p.length ≤ S.length := by
        have := hpX.length_le
        rw [List.length_drop] at this
        omega
      have hnx : nextL (cs (charsL S)) s.i = (5, s.i + p.length, false) := by rw [next_shift, hsn.1, hpp]
      have hcm : commentL (cs (charsL S)) s.i = (s.i, false) := com_no (by rw [hcs]; exact nocom10 h.nc s.i)
      have hst : linesFrom (charsL S) n s = linesFrom (charsL S) n ⟨s.i + p.length, s.toks ++ [tokAt (charsL S) s], s.from_, false, s.out, s.diags⟩ := by
        refine linesFrom_inl (by omega) ?_
        unfold lineStep
        rw [if_neg (by rw [hc0]; exact hfc.2.2.2.2.2.2.2.1), if_neg (by rw [hc0, hfc.2.2.2.2.2.2.2.2.1]; decide), hcm, if_neg (by omega), hnx]
        rfl
      have hpt : p = (S.drop s.i).take p.length := List.prefix_iff_eq_take.1 hpX
      have hrf : rF (charsL S) s.i = s.i := by
        have := idL_at S 0 s.i S[s.i] (List.getElem?_eq_getElem hlt)
        unfold rF
        rw [sg_chars h hne, List.getElem?_append_left (List.getElem?_eq_some_iff.1 this).1, this]
        simp
      have htk : tokAt (charsL S) s = ⟨5, p, false, s.i, rT (charsL S) (s.i + p.length - 1)⟩ := by
        unfold tokAt
        rw [hnx, hsp, hrf]
        simp only
        rw [hdr, show s.i + p.length - s.i = p.length by omega, List.take_append_of_le_length (by rw [List.length_drop]; omega), ← hpt]
      obtain ⟨tk', h1, h2, h3⟩ := ih (d - p.length) (by omega) ⟨s.i + p.length, s.toks ++ [tokAt (charsL S) s], s.from_, false, s.out, s.diags⟩ (by simp only; omega) ho hg hf rfl
      refine ⟨tokAt (charsL S) s :: tk', ?_, ?_, ?_⟩
      · rw [hst, h1]; simp
      · intro t ht
        rcases List.mem_cons.1 ht with rfl | ht
        · rw [htk]
          exact ⟨rfl, rfl, hpl, hple, hpt, hfp⟩
        · exact h2 t ht
      · rw [List.map_cons, List.flatten_cons, h3, htk]
        simp only
        conv => rhs; rw [← List.take_append_drop p.length (S.drop s.i), ← hpt, List.drop_drop]

theorem lex_signs {S : List UInt8} (h : SgOk S) (hne : S ≠ []) : ∃ toks' : List Tk, linesL S = ([⟨toks', 0, S.length, false⟩], []) ∧ (∀ t ∈ toks', LTok S t) ∧ (toks'.map (·.text)).flatten = S := by
  obtain ⟨tk', h1, h2, h3⟩ := sg_run h hne S.length S.length ⟨0, [], 0, false, [], []⟩ (by simp) rfl rfl rfl rfl
  exact ⟨tk', by simpa [linesL, linesFrom] using h1, h2, by simpa using h3⟩

/-- One of a piece that begins where a token begins -/
theorem piece_one {S : List UInt8} (h : SgOk S) {t : Tk} (ht : LTok S t) {k : Nat} (hk : t.text.length ≤ k) (hfk : t.f + k ≤ S.length) {e : Ending} (hp : OnePost ((S.drop t.f).take k) e) :
    e = .returned (.tuple #[.agg (if t.text.length < k then zeroTok.toArray else #[.int .i64 5, .string ⟨t.text.toArray⟩, .bool false, .string ⟨#[]⟩, .int .i64 0, .int .i64 0, .bool false, .slice none 0 0]), .bool (decide (¬ t.text.length < k))]) := by
  have hpos := ht.pos
  have hlt : t.f < S.length := by have := ht.fits; omega
  have hl : ((S.drop t.f).take k).length = k := by rw [List.length_take, List.length_drop]; omega
  have hc := h.sg _ (List.getElem_mem hlt)
  have hfc := sign_facts _ hc
  obtain ⟨k', rfl⟩ : ∃ k', k = k' + 1 := ⟨k - 1, by omega⟩
  have hX : (S.drop t.f).take (k' + 1) = S[t.f] :: (S.drop (t.f + 1)).take k' := by rw [List.drop_eq_getElem_cons hlt, List.take_succ_cons]
  have hc0 : chAt ((S.drop t.f).take (k' + 1)) 0 = S[t.f] := by rw [hX]; rfl
  have hc1 : digitB (chAt ((S.drop t.f).take (k' + 1)) 1) = false ∧ (chAt ((S.drop t.f).take (k' + 1)) 0 = 47 → chAt ((S.drop t.f).take (k' + 1)) 1 ≠ 47 ∧ chAt ((S.drop t.f).take (k' + 1)) 1 ≠ 42) := by
    rcases Nat.lt_or_ge 1 (k' + 1) with h1 | h1
    · rw [chAt_take h1, chAt_take (by omega), chAt_drop, chAt_drop]
      refine ⟨?_, fun h0 => h.nc t.f h0⟩
      have := nodigit h (t.f + 1)
      rw [chAt_app_lt (by omega)] at this
      exact this
    · rw [chAt_ge (i := 1) (by omega)]
      exact ⟨rfl, fun _ => ⟨by decide, by decide⟩⟩
  have hsn := sign_next hX hc hc1.1
  have hfull : t.text <+: (S.drop t.f).take (k' + 1) := by
    rw [ht.text]
    have : (S.drop t.f).take t.text.length = ((S.drop t.f).take (k' + 1)).take t.text.length := by rw [List.take_take, Nat.min_eq_left hk]
    rw [this]
    exact List.take_prefix _ _
  have hpp : punctL ((S.drop t.f).take (k' + 1)) 0 = t.text.length := punct_same ht.first hfull (fun x hx hxY => hxY.trans (List.take_prefix _ _))
  have htb : tellB ((S.drop t.f).take (k' + 1)) 0 (-1) = false := by
    unfold tellB
    rw [decide_eq_false_iff_not, hsn.2.2]
    intro hh
    exact hh.1 (by decide)
  have hcm := com_no (A := (S.drop t.f).take (k' + 1)) (i := 0) hc1.2
  have := one_tok hp (by omega) (by rw [hc0]; exact hfc.2.2.2.2.2.2.2.1) (by rw [hc0]; exact hfc.2.2.2.2.2.2.2.2.1) (by rw [hcm]; omega)
  rw [hsn.1, hpp, htb, hl] at this
  simp only [Bool.false_eq_true, or_false] at this
  rw [List.take_take, Nat.min_eq_left hk, ← ht.text] at this
  exact this
end Go.Proofs.Ythbicbfdldpemaa
