/- LexGaps: the walk. -/
import Derived.Test.YthbicbfdldpemaaLw22
import Derived.Test.YthbicbfdldpemaaLexGapsSpec
import Derived.BigQuiet
namespace Go.Proofs.Ythbicbfdldpemaa
open Go.RowKit
set_option linter.unusedVariables false

def rndX (a n : Int) : Int := (a.tmod n + n).tmod n
theorem rndX_range (a n : Int) (h0 : 0 < n) : 0 ≤ rndX a n ∧ rndX a n < n := by
  have h2 : -n < a.tmod n := Int.lt_tmod_of_pos a h0
  unfold rndX
  rw [Int.tmod_eq_emod_of_nonneg (by omega)]
  exact ⟨Int.emod_nonneg _ (by omega), Int.emod_lt_of_pos _ h0⟩

set_option maxRecDepth 100000 in
theorem roundX_any (a n : Int) (h0 : 0 < n) (h1 : n ≤ 1000) (ha : -9223372036854775808 ≤ a ∧ a ≤ 9223372036854775807) (w : World) :
    Calls Try.prog 21 #[.int .i64 a, .int .i64 n] w fun e w' => e = .returned (.int .i64 (rndX a n)) ∧ w' = w := by
  have hr := rndX_range a n h0
  have h2 : -n < a.tmod n := Int.lt_tmod_of_pos a h0
  have h3 : a.tmod n < n := Int.tmod_lt_of_pos a h0
  have HQ : Hid (rndX a n = (a.tmod n + n) % n) := Lib.hid (Int.tmod_eq_emod_of_nonneg (by omega))
  go_enter Try.func21, Try.ntmps21
  go_wp2
  go_ret
  exact ⟨by rw [HQ.out]; rfl, rfl⟩

theorem data_appY (a b : ByteArray) : (a ++ b).data.toList = a.data.toList ++ b.data.toList := by rw [ByteArray.data_append]; simp

def kindsB : List ByteArray := [⟨#[32]⟩, ⟨#[9]⟩, ⟨#[47, 42, 42, 47]⟩, ⟨#[47, 42, 32, 97, 32, 10, 32, 98, 32, 42, 47]⟩, ⟨#[32, 47, 42, 32, 42, 32, 47, 32, 42, 47, 32]⟩, ⟨#[11, 12]⟩]
theorem kindsB_ok : ∀ b ∈ kindsB, b.data.toList ∈ kindsG ∧ b.size ≤ 11 := by decide

theorem str_cell {w : World} {b o k : Nat} {ws : List ByteArray} {s : ByteArray} (hat : RowAt w 1 b o (ws.map fun p => [.string p])) (hk : ws[k]? = some s) : w.cell? ⟨b, o + k, none⟩ = some (.string s) := by
  have := hat.cell (i := k) (cs := [.string s]) (by simp [hk]) (j := 0) (u := .string s) rfl
  simpa using this
theorem int_cell {w : World} {b o k : Nat} {zs : List Int} {z : Int} (hat : RowAt w 1 b o (zs.map fun z => [.int .i64 z])) (hk : zs[k]? = some z) : w.cell? ⟨b, o + k, none⟩ = some (.int .i64 z) := by
  have := hat.cell (i := k) (cs := [.int .i64 z]) (by simp [hk]) (j := 0) (u := .int .i64 z) rfl
  simpa using this

/-- what is told so far -/
structure GapsAt (ws : List ByteArray) (i : Nat) (sb : ByteArray) (gs : List (List UInt8 × List UInt8)) : Prop where
  text : sb.data.toList = spellG gs
  words : gs.map (·.2) = (ws.take i).map (·.data.toList)
  good : ∀ p ∈ gs, p.1 ∈ kindsG ∧ Wd p.2
  size : sb.size ≤ 31 * i

theorem GapsAt.next {ws : List ByteArray} {i : Nat} {sb g wd : ByteArray} {gs : List (List UInt8 × List UInt8)} (h : GapsAt ws i sb gs) (hg : g ∈ kindsB) (hw : ws[i]? = some wd) (hwd : Wd wd.data.toList) (hs : wd.size ≤ 20) : GapsAt ws (i + 1) (sb ++ g ++ wd) (gs ++ [(g.data.toList, wd.data.toList)]) := by
  have hk := kindsB_ok g hg
  refine ⟨?_, ?_, ?_, ?_⟩
  · rw [data_appY, data_appY, h.text, spellG_app]
    simp [spellG]
  · rw [List.map_append, h.words, List.take_add_one, hw]
    simp
  · intro p hp
    rcases List.mem_append.1 hp with hp | hp
    · exact h.good p hp
    · simp only [List.mem_singleton] at hp; subst hp; exact ⟨hk.1, hwd⟩
  · have := h.size
    rw [ByteArray.size_append, ByteArray.size_append]
    omega

set_option maxHeartbeats 40000000 in
set_option maxRecDepth 100000 in
theorem lexGaps_walk (ws : List ByteArray) (hws : ∀ s ∈ ws, s.size ≤ maxLen) (a1 : Option Addr) (c1 : Nat) (hc1 : ws.length ≤ c1) (zs : List Int) (a2 : Option Addr) (c2 : Nat) (hc2 : zs.length ≤ c2) (hz : ∀ z ∈ zs, -9223372036854775808 ≤ z ∧ z ≤ 9223372036854775807) (w : World) (hrw : Row w 1 a1 (ws.map fun p => [.string p])) (hrz : Row w 1 a2 (zs.map fun z => [.int .i64 z])) :
    Calls Try.prog 10 #[.slice a1 ws.length c1, .slice a2 zs.length c2] w fun e w' => e = .returned (.bool true) ∧ Below w.heap.size w w' := by
  obtain ⟨n, hn⟩ : ∃ n, n = ws.length := ⟨_, rfl⟩
  obtain ⟨g, hg⟩ : ∃ g, g = zs.length := ⟨_, rfl⟩
  have HN : Hid (ws.length = n) := Lib.hid hn.symm
  have HG : Hid (zs.length = g) := Lib.hid hg.symm
  rw [← hn] at hc1 ⊢
  rw [← hg] at hc2 ⊢
  clear hn hg
  by_cases h1 : 12 < n
  · have e1 : (12 : Int) < (n : Int) := by omega
    go_enter Try.func10, Try.ntmps10
    go_wp2_with (go_at_call 22; refine (lexAwake_any _).mono ?_; rintro e w' ⟨rfl, hb⟩)
    go_ret
    exact ⟨rfl, hb⟩
  · have e1 : ¬ (12 : Int) < (n : Int) := by omega
    by_cases h2 : 20 < g
    · have e2 : (20 : Int) < (g : Int) := by omega
      go_enter Try.func10, Try.ntmps10
      go_wp2_with (go_at_call 22; refine (lexAwake_any _).mono ?_; rintro e w' ⟨rfl, hb⟩)
      go_ret
      exact ⟨rfl, hb⟩
    · have e2 : ¬ (20 : Int) < (g : Int) := by omega
      replace hz := Lib.hid hz
      replace hws := Lib.hid hws
      go_enter Try.func10, Try.ntmps10
      have hK : ∀ (r : Nat) (b : ByteArray), kindsB[r]? = some b → (w.alloc (.cells #[.string ⟨#[32]⟩, .string ⟨#[9]⟩, .string ⟨#[47, 42, 42, 47]⟩, .string ⟨#[47, 42, 32, 97, 32, 10, 32, 98, 32, 42, 47]⟩, .string ⟨#[32, 47, 42, 32, 42, 32, 47, 32, 42, 47, 32]⟩, .string ⟨#[11, 12]⟩] 9)).cell? ⟨w.heap.size, r, none⟩ = some (.string b) := by
        intro r b hr
        refine cell_new w [.string ⟨#[32]⟩, .string ⟨#[9]⟩, .string ⟨#[47, 42, 42, 47]⟩, .string ⟨#[47, 42, 32, 97, 32, 10, 32, 98, 32, 42, 47]⟩, .string ⟨#[32, 47, 42, 32, 42, 32, 47, 32, 42, 47, 32]⟩, .string ⟨#[11, 12]⟩] 9 ?_
        have := congrArg (Option.map Value.string) hr
        rw [← List.getElem?_map] at this
        exact this
      have hb1 := (Below.refl _ w).alloc (Nat.le_refl _) (.cells #[.string ⟨#[32]⟩, .string ⟨#[9]⟩, .string ⟨#[47, 42, 42, 47]⟩, .string ⟨#[47, 42, 32, 97, 32, 10, 32, 98, 32, 42, 47]⟩, .string ⟨#[32, 47, 42, 32, 42, 32, 47, 32, 42, 47, 32]⟩, .string ⟨#[11, 12]⟩] 9)
      go_wp2_with fail
      obtain ⟨w1, hw1⟩ : ∃ w1, w1 = w.alloc (.cells #[.string ⟨#[32]⟩, .string ⟨#[9]⟩, .string ⟨#[47, 42, 42, 47]⟩, .string ⟨#[47, 42, 32, 97, 32, 10, 32, 98, 32, 42, 47]⟩, .string ⟨#[32, 47, 42, 32, 42, 32, 47, 32, 42, 47, 32]⟩, .string ⟨#[11, 12]⟩] 9) := ⟨_, rfl⟩
      rw [← hw1] at hK hb1 ⊢
      replace hK := Lib.hid hK
      clear hw1
      have hrw1 := hrw.below hb1
      have hrz1 := hrz.below hb1
      clear hrw hrz
      go_loopg [6, 7] n (fun u v6 v7 wr => ∃ (i : Nat) (sb : ByteArray) (gs : List (List UInt8 × List UInt8)), u = n - i ∧ i ≤ n ∧ v6 = .string sb ∧ v7 = .int .i64 i ∧ wr = w1 ∧ Hid (GapsAt ws i sb gs))
      case atStart => exact ⟨0, _, [], rfl, Nat.zero_le _, rfl, rfl, rfl, Lib.hid ⟨rfl, rfl, by simp, by decide⟩⟩
      case round =>
        obtain ⟨i, sb, gs, rfl, hi, rfl, rfl, hwr, hgs⟩ := hrel
        replace hwr := hwr.symm
        subst hwr
        have hsz := hgs.out.size
        by_cases hin : i < n
        · have f1 : (i : Int) < n := by omega
          obtain ⟨wd, hp⟩ : ∃ p, ws[i]? = some p := ⟨ws[i]'(by rw [HN.out]; exact hin), by simp⟩
          obtain ⟨rb, o, rfl, hat⟩ := hrw1 (by intro h; simp at h; subst h; simp at hp)
          have x0 := str_cell hat hp
          have hwl : wd.size ≤ 9223372036854775807 := by have := hws.out wd (List.mem_of_getElem? hp); unfold maxLen at this; omega
          replace hp := Lib.hid hp
          clear hat
          go_wp2_with fail
          go_loopg [8] wd.size (fun u v8 wr => ∃ k : Nat, u = wd.size - k ∧ k ≤ wd.size ∧ v8 = .int .i64 k ∧ wr = w1 ∧ Hid (∀ j, j < k → 97 ≤ chAt wd.data.toList j ∧ chAt wd.data.toList j ≤ 122))
          case atStart => exact ⟨0, rfl, Nat.zero_le _, rfl, rfl, Lib.hid (by intro j h; omega)⟩
          case round =>
            obtain ⟨k, rfl, hk, rfl, hwr, hch⟩ := hrel
            replace hwr := hwr.symm
            subst hwr
            by_cases hkw : k < wd.size
            · have f2 : (k : Int) < (wd.size : Int) := by omega
              have hck : chAt wd.data.toList k = wd[k]'hkw := get_byte hkw
              by_cases hlo : (wd[k]'hkw).toNat < 97
              · have d1 : ((wd[k]'hkw).toNat : Int) < 97 := by omega
                go_wp2_with (go_at_call 22; refine (lexAwake_any _).mono ?_; rintro e w' ⟨rfl, hb⟩)
                go_ret
                exact ⟨rfl, hb1.trans (hb.mono hb1.size)⟩
              · have d1 : ¬ ((wd[k]'hkw).toNat : Int) < 97 := by omega
                by_cases hhi : 122 < (wd[k]'hkw).toNat
                · have d2 : (122 : Int) < ((wd[k]'hkw).toNat : Int) := by omega
                  go_wp2_with (go_at_call 22; refine (lexAwake_any _).mono ?_; rintro e w' ⟨rfl, hb⟩)
                  go_ret
                  exact ⟨rfl, hb1.trans (hb.mono hb1.size)⟩
                · have d2 : ¬ (122 : Int) < ((wd[k]'hkw).toNat : Int) := by omega
                  have hnew : Hid (97 ≤ chAt wd.data.toList k ∧ chAt wd.data.toList k ≤ 122) := Lib.hid (by
                    rw [hck, UInt8.le_iff_toNat_le, UInt8.le_iff_toNat_le]
                    exact ⟨by simpa using hlo, by simpa using hhi⟩)
                  have hnext : Hid (∀ j, j < k + 1 → 97 ≤ chAt wd.data.toList j ∧ chAt wd.data.toList j ≤ 122) := Lib.hid (by
                    intro j hj
                    by_cases h : j = k
                    · rw [h]; exact hnew.out
                    · exact hch.out j (by omega))
                  clear hck hnew
                  go_wp2_with fail
                  go_roundg (wd.size - (k + 1))
                  case measure => omega
                  case rel =>
                    refine ⟨k + 1, rfl, ?_, by go_num, rfl, hnext⟩
                    exact hkw
            · have f2 : ¬ (k : Int) < (wd.size : Int) := by omega
              have hdl : wd.data.toList.length = wd.size := by rw [← Lib.size_eq]
              by_cases hw0 : wd.size = 0
              · have h0 : wd.toList.isEmpty = true := by
                  rw [Lib.toList_data, List.eq_nil_of_length_eq_zero (show wd.data.toList.length = 0 by rw [hdl]; exact hw0)]
                  rfl
                clear hdl
                go_wp2_with (go_at_call 22; refine (lexAwake_any _).mono ?_; rintro e w' ⟨rfl, hb⟩)
                go_ret
                exact ⟨rfl, hb1.trans (hb.mono hb1.size)⟩
              · have hwd : Hid (Wd wd.data.toList) := Lib.hid (show Wd wd.data.toList from ⟨by intro h; rw [h] at hdl; exact hw0 hdl.symm, by
                  intro c hc
                  obtain ⟨j, hj, rfl⟩ := List.mem_iff_getElem.1 hc
                  have := hch.out j (by omega)
                  rw [chAt_lt (List.getElem?_eq_getElem hj)] at this
                  exact this⟩)
                have h0 : wd.toList.isEmpty = false := by
                  rw [Lib.toList_data]
                  cases h : wd.data.toList with
                  | nil => rw [h] at hdl; exact absurd hdl.symm hw0
                  | cons => rfl
                clear hdl
                by_cases h20 : 20 < wd.size
                · have f3 : (20 : Int) < (wd.size : Int) := by omega
                  go_wp2_with (go_at_call 22; refine (lexAwake_any _).mono ?_; rintro e w' ⟨rfl, hb⟩)
                  go_ret
                  exact ⟨rfl, hb1.trans (hb.mono hb1.size)⟩
                · have f3 : ¬ (20 : Int) < (wd.size : Int) := by omega
                  have q1 : IntKind.i64.wrap ((i : Int) + 1) = (i : Int) + 1 := IntWalk.i64_in _ (by omega)
                  by_cases hig : i < g
                  · have f4 : (i : Int) < g := by omega
                    obtain ⟨z, hpz⟩ : ∃ p, zs[i]? = some p := ⟨zs[i]'(by rw [HG.out]; exact hig), by simp⟩
                    obtain ⟨rb2, o2, rfl, hat2⟩ := hrz1 (by intro h; simp at h; subst h; simp at hpz)
                    have x1 := int_cell hat2 hpz
                    have hr0 := rndX_range z 6 (by decide)
                    obtain ⟨r, hr⟩ : ∃ r : Nat, rndX z 6 = (r : Int) := ⟨(rndX z 6).toNat, by omega⟩
                    have hRd := roundX_any z 6 (by decide) (by decide) (hz.out z (List.mem_of_getElem? hpz)) w1
                    rw [hr] at hRd hr0
                    have hr6 : r < 6 := by omega
                    have f5 : (r : Int) < 6 := by omega
                    obtain ⟨gB, hgB⟩ : ∃ b, kindsB[r]? = some b := ⟨_, List.getElem?_eq_getElem (show r < kindsB.length from hr6)⟩
                    have x2 := hK.out r gB hgB
                    have hgm := List.mem_of_getElem? hgB
                    have hgz := (kindsB_ok gB hgm).2
                    have hz1 : sb.size + gB.size ≤ 9223372036854775807 := by omega
                    have hz2 : sb.size + gB.size + wd.size ≤ 9223372036854775807 := by omega
                    have hz3 : (sb ++ gB).size + wd.size ≤ 9223372036854775807 := by rw [ByteArray.size_append]; exact hz2
                    replace hRd := Lib.hid hRd
                    replace hgm := Lib.hid hgm
                    clear hat2 hpz hr hr0 hgB
                    go_wp2_with fail
                    refine hRd.out.mono ?_
                    rintro e w2 ⟨rfl, hw2⟩
                    replace hw2 := hw2.symm
                    subst hw2
                    go_wp2_with fail
                    go_roundg (n - (i + 1))
                    case measure => omega
                    case rel => exact ⟨i + 1, _, _, rfl, by omega, rfl, by go_num, rfl, Lib.hid (hgs.out.next hgm.out hp.out hwd.out (by omega))⟩
                  · have f4 : ¬ (i : Int) < g := by omega
                    have hz1 : sb.size + 1 ≤ 9223372036854775807 := by omega
                    have hz2 : sb.size + 1 + wd.size ≤ 9223372036854775807 := by omega
                    have hz3 : (sb ++ (⟨#[32]⟩ : ByteArray)).size + wd.size ≤ 9223372036854775807 := by rw [ByteArray.size_append]; exact hz2
                    go_wp2_with fail
                    go_roundg (n - (i + 1))
                    case measure => omega
                    case rel => exact ⟨i + 1, _, _, rfl, by omega, rfl, by go_num, rfl, Lib.hid (hgs.out.next (g := ⟨#[32]⟩) (List.mem_of_getElem? (show kindsB[0]? = some ⟨#[32]⟩ from rfl)) hp.out hwd.out (by omega))⟩
        · have f1 : ¬ (i : Int) < n := by omega
          obtain rfl : i = n := by omega
          obtain ⟨tk', q2, q3⟩ := lex_gaps hgs.out.good
          have hwds := hgs.out.words
          rw [List.take_of_length_le (by rw [HN.out]; exact Nat.le_refl _)] at hwds
          have hgl : gs.length = i := by have := congrArg List.length hwds; simpa [HN.out] using this
          have htl : (⟨#[32, 47, 47, 32, 99, 32, 47, 42, 32, 100, 10]⟩ : ByteArray).data.toList = tailG := rfl
          have hz1 : sb.size + 11 ≤ 9223372036854775807 := by omega
          have HL2 := lines_any ⟨#[102]⟩ (sb ++ (⟨#[32, 47, 47, 32, 99, 32, 47, 42, 32, 100, 10]⟩ : ByteArray)) (by rw [ByteArray.size_append]; show sb.size + 11 ≤ 1000000; omega) w1
          unfold LinesPost at HL2
          rw [data_appY, hgs.out.text, htl, q2] at HL2
          have hlen' : tk'.length = i := by have := congrArg List.length q3; simpa [hgl] using this
          have hword : Hid (∀ k s, ws[k]? = some s → k < i → ∃ t, tk'[k]? = some t ∧ t.kind = 1 ∧ t.text = s.data.toList ∧ t.space = true) := Lib.hid (by
            intro k s hks hk
            obtain ⟨t, ht⟩ : ∃ t, tk'[k]? = some t := ⟨tk'[k]'(by rw [hlen']; exact hk), by simp⟩
            have g1 := congrArg (fun l => l[k]?) q3
            have g2 := congrArg (fun l => l[k]?) hwds
            simp only [List.getElem?_map, ht, hks, Option.map_some] at g1 g2
            cases hgk : gs[k]? with
            | none => rw [hgk] at g1; simp at g1
            | some p =>
              rw [hgk] at g1 g2
              simp only [Option.map_some, Option.some.injEq, Prod.mk.injEq] at g1 g2
              exact ⟨t, ht, g1.1, g1.2.1.trans g2, g1.2.2⟩)
          replace HL2 := Lib.hid HL2
          clear q2 q3 hwds hgl htl hgs hK
          go_wp2_with fail
          refine HL2.out.mono ?_
          rintro e w3 ⟨vo3, vd3, lcs3, rfl, hO3, hL3, hD3, hb3⟩
          cases hL3 with
          | cons hl3 hr3 =>
          cases hr3
          obtain ⟨ao, tcap, rfl, htc3, hrow3⟩ := hl3.row
          obtain ⟨oa3, ocap3, rfl, hoc3, _, horow3, _⟩ := hO3.rown (n := 1) (by simp)
          obtain ⟨da3, dcap3, rfl, _, _, _, _⟩ := hD3.rown (n := 0) (by simp)
          obtain ⟨ob3, oo3, rfl, hat3⟩ := horow3 (by simp)
          have z0 := (ln_cells hat3 (k := 0) rfl).1
          simp only [Nat.zero_mul, Nat.add_zero] at z0
          simp only [hlen'] at z0 htc3
          have hgo : Hid (∀ wx, Below w3.heap.size w3 wx → Row wx 8 ao (tk'.map (tkC ⟨#[102]⟩)) ∧ Row wx 1 a1 (ws.map fun p => [.string p]) ∧ wx.cell? ⟨ob3, oo3, none⟩ = some (.slice ao i tcap)) := Lib.hid (fun wx hx => ⟨hrow3.below hx, (hrw1.below hb3).below hx, kept_cell hx z0⟩)
          have hbw3 := hb1.trans (hb3.mono hb1.size)
          clear hat3 horow3 hD3 hO3 hrow3 hl3 hb3 hrw1 hrz1
          go_wp2_with fail
          go_loopg [12] i (fun u v12 wx => ∃ k : Nat, u = i - k ∧ k ≤ i ∧ v12 = .int .i64 k ∧ Below w3.heap.size w3 wx)
          case atStart => exact ⟨0, rfl, Nat.zero_le _, rfl, Below.refl _ _⟩
          case round =>
            obtain ⟨k, rfl, hk, rfl, hb5⟩ := hrel
            obtain ⟨r1, r2, x0⟩ := hgo.out wr hb5
            have hbw5 := hbw3.trans (hb5.mono hbw3.size)
            clear z0
            by_cases hkm : k < i
            · have f2 : (k : Int) < i := by omega
              obtain ⟨wd, hp⟩ : ∃ p, ws[k]? = some p := ⟨ws[k]'(by rw [HN.out]; exact hkm), by simp⟩
              obtain ⟨tk, hq, hkd, htx, hsp⟩ := hword.out k wd hp hkm
              obtain ⟨rba, oa1, rfl, hata⟩ := r1 (by intro h; simp at h; rw [h] at hq; simp at hq)
              obtain ⟨rbb, ob1, rfl, hatb⟩ := r2 (by intro h; simp at h; rw [h] at hp; simp at hp)
              obtain ⟨a0', a1', a2', a3', a4', a5', a6', a7'⟩ := tk_cells hata hq
              have y0 := str_cell hatb hp
              rw [hkd] at a0'
              replace a0' : wr.cell? ⟨rba, oa1 + k * 8, none⟩ = some (.int .i64 1) := a0'
              rw [htx, show (⟨wd.data.toList.toArray⟩ : ByteArray) = wd from rfl] at a1'
              rw [hsp] at a2'
              have hnb := (Below.refl wr.heap.size wr).alloc (Nat.le_refl _) (.cells #[.int .i64 1, .string wd, .bool true, .string ⟨#[102]⟩, .int .i64 tk.f, .int .i64 tk.t, .bool false, .slice none 0 0] 43)
              have y1 := kept_cell hnb y0
              clear hata hatb hp hq hkd htx hsp r1 r2
              go_wp2_with fail
              go_quiet (fail)
              have hb6 := hb5.trans ((hnb.trans ((drewN_below (wr.alloc (.cells #[.int .i64 1, .string wd, .bool true, .string ⟨#[102]⟩, .int .i64 tk.f, .int .i64 tk.t, .bool false, .slice none 0 0] 43)) nq).mono hnb.size)).mono hb5.size)
              clear y1 hnb
              go_wp2_with fail
              go_roundg (i - (k + 1))
              case measure => omega
              case rel => exact ⟨k + 1, rfl, by omega, by go_num, hb6⟩
            · have f2 : ¬ (k : Int) < i := by omega
              go_wp2_with fail
              refine (lexAwake_any _).mono ?_
              rintro e w9 ⟨rfl, hb9⟩
              go_wp2
              go_ret
              exact ⟨rfl, hbw5.trans (hb9.mono hbw5.size)⟩
end Go.Proofs.Ythbicbfdldpemaa
