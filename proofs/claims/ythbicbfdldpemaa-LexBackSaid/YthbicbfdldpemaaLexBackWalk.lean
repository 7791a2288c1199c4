/- LexBack: the walk. -/
import Derived.Test.YthbicbfdldpemaaLw22
import Derived.Test.YthbicbfdldpemaaLexBackSpec
namespace Go.Proofs.Ythbicbfdldpemaa
open Go.RowKit
set_option linter.unusedVariables false

theorem data_appX (a b : ByteArray) : (a ++ b).data.toList = a.data.toList ++ b.data.toList := by rw [ByteArray.data_append]; simp

/-- what LexBack asks of a place -/
def PlaceOk (tx : List UInt8) (i : Nat) : Prop := chAt tx i ≠ 92 ∧ chAt tx i ≠ 63 ∧ (0 < i → chAt tx (i - 1) = 47 → chAt tx i ≠ 47 ∧ chAt tx i ≠ 42)

theorem places_ok {tx : List UInt8} (h : ∀ i, i < tx.length → PlaceOk tx i) : (∀ c ∈ tx, c ≠ 92 ∧ c ≠ 63) ∧ NoCom tx := by
  refine ⟨fun c hc => ?_, fun i h0 => ?_⟩
  · obtain ⟨i, hi, rfl⟩ := List.mem_iff_getElem.1 hc
    have := h i hi
    unfold PlaceOk at this
    rw [chAt_lt (List.getElem?_eq_getElem hi)] at this
    exact ⟨this.1, this.2.1⟩
  · rcases Nat.lt_or_ge (i + 1) tx.length with h1 | h1
    · exact (h (i + 1) h1).2.2 (Nat.succ_pos _) (by simpa using h0)
    · rw [chAt_ge h1]; exact ⟨by decide, by decide⟩

theorem u8b {c : UInt8} {n : Nat} (hn : n < 256) : ((c.toNat : Int) == (n : Int)) = decide (c = n.toUInt8) := by
  by_cases h : c = n.toUInt8
  · subst h
    have : n % 256 = n := Nat.mod_eq_of_lt hn
    simp [this]
  · rw [decide_eq_false h]
    have : ¬ (c.toNat : Int) = (n : Int) := fun e => h (u8_of hn e)
    simpa using this

set_option maxHeartbeats 40000000 in
set_option maxRecDepth 100000 in
theorem lexBack_walk (a0 : ByteArray) (w0 : a0.size ≤ maxLen) (w : World) :
    Calls Try.prog 7 #[.string a0] w fun e w' => e = .returned (.bool true) ∧ Below w.heap.size w w' := by
  clear w0
  by_cases h1 : 2000 < a0.size
  · have e1 : (2000 : Int) < (a0.size : Int) := by omega
    go_enter Try.func7, Try.ntmps7
    go_wp2_with (go_at_call 22; refine (lexAwake_any _).mono ?_; rintro e w' ⟨rfl, hb⟩)
    go_ret
    exact ⟨rfl, hb⟩
  · have e1 : ¬ (2000 : Int) < (a0.size : Int) := by omega
    have hs : a0.size ≤ 2000 := by omega
    obtain ⟨tx, htx⟩ : ∃ tx, tx = a0.data.toList := ⟨_, rfl⟩
    have HG : Hid (∀ k (h : k < a0.size), chAt tx k = a0[k]'h) := Lib.hid (fun k h => by rw [htx]; exact get_byte h)
    have HTL : Hid (tx.length = a0.size) := Lib.hid (by rw [htx, ← Lib.size_eq])
    go_enter Try.func7, Try.ntmps7
    replace htx := Lib.hid htx
    go_wp2_with fail
    go_loopg [3] a0.size (fun u v3 wr => ∃ i : Nat, u = a0.size - i ∧ i ≤ a0.size ∧ v3 = .int .i64 i ∧ wr = w ∧ Hid (∀ j, j < i → PlaceOk tx j))
    case atStart => exact ⟨0, rfl, Nat.zero_le _, rfl, rfl, Lib.hid (fun j h => by omega)⟩
    case round =>
      obtain ⟨i, rfl, hi, rfl, hwr, hok⟩ := hrel
      replace hwr := hwr.symm
      subst hwr
      by_cases hin : i < a0.size
      · have e2 : (i : Int) < (a0.size : Int) := by omega
        have hci := HG.out i hin
        have b92 := u8b (c := a0[i]'hin) (n := 92) (by decide)
        have b63 := u8b (c := a0[i]'hin) (n := 63) (by decide)
        have b42 := u8b (c := a0[i]'hin) (n := 42) (by decide)
        have b47 := u8b (c := a0[i]'hin) (n := 47) (by decide)
        cases hx92 : (((a0[i]'hin).toNat : Int) == 92) with
        | true =>
          go_wp2_with (go_at_call 22; refine (lexAwake_any _).mono ?_; rintro e w' ⟨rfl, hb⟩)
          go_ret
          exact ⟨rfl, hb⟩
        | false =>
          cases hx63 : (((a0[i]'hin).toNat : Int) == 63) with
          | true =>
            go_wp2_with (go_at_call 22; refine (lexAwake_any _).mono ?_; rintro e w' ⟨rfl, hb⟩)
            go_ret
            exact ⟨rfl, hb⟩
          | false =>
            have n92 : a0[i]'hin ≠ 92 := of_decide_eq_false (b92.symm.trans hx92)
            have n63 : a0[i]'hin ≠ 63 := of_decide_eq_false (b63.symm.trans hx63)
            have hnext : Hid ((0 < i → chAt tx (i - 1) = 47 → a0[i]'hin ≠ 47 ∧ a0[i]'hin ≠ 42) → Hid (∀ j, j < i + 1 → PlaceOk tx j)) := Lib.hid (fun hp => Lib.hid (fun j hj => by
              by_cases h : j = i
              · subst h
                unfold PlaceOk
                rw [hci]
                exact ⟨n92, n63, hp⟩
              · exact hok.out j (by omega)))
            clear n92 n63 b92 b63
            by_cases h0 : 0 < i
            · obtain ⟨j, hj⟩ : ∃ j, j = i - 1 := ⟨_, rfl⟩
              have hjn : j < a0.size := by omega
              have e3 : (0 : Int) < (i : Int) := by omega
              have hcj := HG.out j hjn
              have p47 := u8b (c := a0[j]'hjn) (n := 47) (by decide)
              have q1 : IntKind.i64.wrap ((i : Int) - 1) = (j : Int) := by rw [IntWalk.i64_in _ (by omega)]; omega
              have hji : i - 1 = j := hj.symm
              rw [hji] at hnext
              clear hj hji
              cases hxp : (((a0[j]'hjn).toNat : Int) == 47) with
              | true =>
                cases hx42 : (((a0[i]'hin).toNat : Int) == 42) with
                | true =>
                  go_wp2_with (go_at_call 22; refine (lexAwake_any _).mono ?_; rintro e w' ⟨rfl, hb⟩)
                  go_ret
                  exact ⟨rfl, hb⟩
                | false =>
                  cases hx47 : (((a0[i]'hin).toNat : Int) == 47) with
                  | true =>
                    go_wp2_with (go_at_call 22; refine (lexAwake_any _).mono ?_; rintro e w' ⟨rfl, hb⟩)
                    go_ret
                    exact ⟨rfl, hb⟩
                  | false =>
                    have n42 : a0[i]'hin ≠ 42 := of_decide_eq_false (b42.symm.trans hx42)
                    have n47 : a0[i]'hin ≠ 47 := of_decide_eq_false (b47.symm.trans hx47)
                    replace n42 := Lib.hid n42
                    replace n47 := Lib.hid n47
                    clear b42 b47 p47
                    go_wp2_with fail
                    go_roundg (a0.size - (i + 1))
                    case measure => omega
                    case rel => exact ⟨i + 1, rfl, by omega, by go_num, rfl, hnext.out (fun _ _ => ⟨n47.out, n42.out⟩)⟩
              | false =>
                have np : a0[j]'hjn ≠ 47 := of_decide_eq_false (p47.symm.trans hxp)
                have hnp : Hid (chAt tx j ≠ 47) := Lib.hid (by rw [hcj]; exact np)
                clear b42 b47 p47 np
                go_wp2_with fail
                go_roundg (a0.size - (i + 1))
                case measure => omega
                case rel => exact ⟨i + 1, rfl, by omega, by go_num, rfl, hnext.out (fun _ h => absurd h hnp.out)⟩
            · have e3 : ¬ (0 : Int) < (i : Int) := by omega
              clear b42 b47
              go_wp2_with fail
              go_roundg (a0.size - (i + 1))
              case measure => omega
              case rel => exact ⟨i + 1, rfl, by omega, by go_num, rfl, hnext.out (fun h => absurd h h0)⟩
      · have e2 : ¬ (i : Int) < (a0.size : Int) := by omega
        have hpl := places_ok (tx := tx) (fun j hj => hok.out j (by rw [HTL.out] at hj; omega))
        have hgood := lines_good hpl.1 hpl.2
        have hspl : ∀ l ∈ (linesL tx).1, (spellL l.toks).length ≤ 4002 := fun l hl => by have := spell_len hl; rw [HTL.out] at this; omega
        obtain ⟨hlt, hll, _⟩ := linesL_lens tx
        rw [HTL.out] at hlt hll
        have HLi := lines_any ⟨#[102]⟩ a0 (by omega) w
        unfold LinesPost at HLi
        rw [← htx.out] at HLi
        obtain ⟨ls, hls⟩ : ∃ ls, ls = (linesL tx).1 := ⟨_, rfl⟩
        rw [← hls] at hlt hll hspl hgood HLi
        obtain ⟨L, hL⟩ : ∃ L, L = ls.length := ⟨_, rfl⟩
        have HL : Hid (ls.length = L) := Lib.hid hL.symm
        rw [← hL] at hll
        replace hgood := Lib.hid hgood
        replace hspl := Lib.hid hspl
        replace HLi := Lib.hid HLi
        replace hlt := Lib.hid hlt
        clear hL hls hpl hok
        go_wp2_with fail
        refine HLi.out.mono ?_
        rintro e w1 ⟨vo, vd, lcs, rfl, hO1, hL1, hD1, hb1⟩
        obtain ⟨oa, oc, rfl, hoc, _, hor, _⟩ := hO1.rown (n := L) (by rw [hL1.len, HL.out])
        clear hO1 hD1 HLi
        go_wp2_with fail
        go_loopg [6] L (fun u v6 wr => ∃ i : Nat, u = L - i ∧ i ≤ L ∧ v6 = .int .i64 i ∧ Below w1.heap.size w1 wr)
        case atStart => exact ⟨0, rfl, Nat.zero_le _, rfl, Below.refl _ _⟩
        case round =>
          obtain ⟨i, rfl, hi, rfl, hb⟩ := hrel
          have hbw := hb1.trans (hb.mono hb1.size)
          by_cases hil : i < L
          · have e2 : (i : Int) < L := by omega
            obtain ⟨ln, hp⟩ : ∃ p, ls[i]? = some p := ⟨ls[i]'(by rw [HL.out]; exact hil), by simp⟩
            have hmem := List.mem_of_getElem? hp
            have hmt := hlt.out ln hmem
            have hlg := hgood.out ln hmem
            have hsl := hspl.out ln hmem
            obtain ⟨cA, hcA, hAt⟩ := (hL1.kept (KeptTok.below hb)).get hp
            obtain ⟨ta, tc, rfl, htc, hAr⟩ := hAt.row
            obtain ⟨rb, o, rfl, hat⟩ := (hor.below hb) (by intro h; subst h; simp at hcA)
            obtain ⟨t0, t1, t2, t3⟩ := ln_cells hat hcA
            obtain ⟨m, hm⟩ : ∃ m, m = ln.toks.length := ⟨_, rfl⟩
            have HM : Hid (ln.toks.length = m) := Lib.hid hm.symm
            rw [← hm] at hmt htc t0
            rw [hlg.1] at t3
            have hgt : Hid (∀ t ∈ ln.toks, t.kind ≠ 6 → GdT t) := Lib.hid hlg.2
            replace hsl := Lib.hid hsl
            have q1 : IntKind.i64.wrap ((i : Int) + 1) = (i : Int) + 1 := IntWalk.i64_in _ (by omega)
            clear hat hcA hAt hp hm hmem hlg t1 t2
            generalize wr = w2 at *
            go_wp2_with fail
            go_loopg [7, 8] m (fun u v7 v8 wx => ∃ (k : Nat) (sb : ByteArray), u = m - k ∧ k ≤ m ∧ v7 = .string sb ∧ v8 = .int .i64 k ∧ wx = w2 ∧ Hid (sb.data.toList = spellL (ln.toks.take k)) ∧ Hid (∀ t ∈ ln.toks.take k, t.kind ≠ 6))
            case atStart => exact ⟨0, _, rfl, Nat.zero_le _, rfl, rfl, rfl, Lib.hid rfl, Lib.hid (by simp)⟩
            case round =>
              obtain ⟨k, sb, rfl, hk, rfl, rfl, hwr, hsb, hk6⟩ := hrel
              replace hwr := hwr.symm
              subst hwr
              by_cases hkm : k < m
              · have f1 : (k : Int) < m := by omega
                obtain ⟨tk, hp⟩ : ∃ p, ln.toks[k]? = some p := ⟨ln.toks[k]'(by rw [HM.out]; exact hkm), by simp⟩
                obtain ⟨rb2, o2, rfl, hat2⟩ := hAr (by intro h; simp at h; rw [h] at hp; simp at hp)
                obtain ⟨y0, y1, y2, y3, y4, y5, y6, y7⟩ := tk_cells hat2 hp
                have htk : ln.toks.take (k + 1) = ln.toks.take k ++ [tk] := by rw [List.take_add_one, hp]; rfl
                obtain ⟨kz, hkz⟩ : ∃ kz : Int, kz = tk.kind := ⟨_, rfl⟩
                rw [← hkz] at y0
                clear hat2 hp y2 y3 y4 y5 y6 y7
                obtain ⟨tb, htb⟩ : ∃ tb : ByteArray, tb = ⟨tk.text.toArray⟩ := ⟨_, rfl⟩
                rw [← htb] at y1
                have hbig : sb.size + tb.size + 1 ≤ 4002 := by
                  have h1 := hsl.out
                  have h2 := List.take_append_drop (k + 1) ln.toks
                  rw [← h2, spell_app, htk, spell_app, List.length_append, List.length_append, ← hsb.out, ← Lib.size_eq] at h1
                  have h3 : tb.size = tk.text.length := by rw [htb]; rfl
                  simp only [spellL, List.length_append, List.length_cons, List.length_nil] at h1
                  omega
                have hz1 : sb.size + tb.size ≤ 9223372036854775807 := by omega
                have hz2 : sb.size + tb.size + 1 ≤ 9223372036854775807 := by omega
                have hz3 : (sb ++ tb).size + (⟨#[32]⟩ : ByteArray).size ≤ 9223372036854775807 := by rw [ByteArray.size_append]; exact hz2
                replace htb := Lib.hid htb
                replace htk := Lib.hid htk
                replace hkz := Lib.hid hkz
                cases h6 : (kz == 6) with
                | true =>
                  go_wp2_with fail
                  go_roundg (L - (i + 1))
                  case measure => omega
                  case rel => exact ⟨i + 1, rfl, by omega, by go_num, hb⟩
                | false =>
                  have hn6 : Hid (tk.kind ≠ 6) := Lib.hid (by
                    intro h
                    have := hkz.out
                    rw [h] at this
                    rw [this] at h6
                    exact absurd h6 (by decide))
                  go_wp2_with fail
                  go_roundg (m - (k + 1))
                  case measure => omega
                  case rel =>
                    refine ⟨k + 1, _, rfl, by omega, rfl, by go_num, rfl, Lib.hid ?_, Lib.hid ?_⟩
                    · rw [data_appX, data_appX, hsb.out, htk.out, spell_app, htb.out]
                      simp [spellL]
                    · rw [htk.out]
                      intro t ht
                      rcases List.mem_append.1 ht with ht | ht
                      · exact hk6.out t ht
                      · simp only [List.mem_singleton] at ht; subst ht; exact hn6.out
              · have f1 : ¬ (k : Int) < m := by omega
                have hsb2 := hsb.out
                have hk62 := hk6.out
                rw [List.take_of_length_le (by rw [HM.out]; omega)] at hsb2 hk62
                have hsz : sb.size ≤ 4002 := by rw [Lib.size_eq, hsb2]; exact hsl.out
                by_cases hm0 : m = 0
                · have h0 : sb.toList.isEmpty = true := by
                    rw [Lib.toList_data, hsb2, List.eq_nil_of_length_eq_zero (by rw [HM.out]; exact hm0 : ln.toks.length = 0)]
                    rfl
                  clear hsb2 hk62
                  go_wp2_with fail
                  go_roundg (L - (i + 1))
                  case measure => omega
                  case rel => exact ⟨i + 1, rfl, by omega, by go_num, hb⟩
                · have hne : ln.toks ≠ [] := by intro h; have := HM.out; rw [h] at this; exact hm0 this.symm
                  obtain ⟨tk', q2, q3, q4⟩ := lex_spelled hne (fun t ht => hgt.out t ht (hk62 t ht))
                  have h0 : sb.toList.isEmpty = false := by
                    rw [Lib.toList_data, hsb2]
                    obtain ⟨l, hl⟩ := spell_last hne
                    rw [hl]
                    cases l <;> rfl
                  have HL2 := lines_any ⟨#[103]⟩ sb (by omega) w2
                  unfold LinesPost at HL2
                  rw [hsb2, q2] at HL2
                  replace HL2 := Lib.hid HL2
                  have hlen' : tk'.length = m := by have := congrArg List.length q3; simpa [HM.out] using this
                  replace q3 := Lib.hid q3
                  replace q4 := Lib.hid q4
                  clear hsb2 hk62 hne q2
                  go_wp2_with fail
                  refine HL2.out.mono ?_
                  rintro e w3 ⟨vo3, vd3, lcs3, rfl, hO3, hL3, hD3, hb3⟩
                  cases hL3 with
                  | cons hl3 hr3 =>
                  cases hr3
                  obtain ⟨ao, tcap, rfl, htc3, hrow3⟩ := hl3.row
                  obtain ⟨oa3, ocap3, rfl, hoc3, _, horow3, _⟩ := hO3.rown (n := 1) (by simp)
                  obtain ⟨da3, dcap3, rfl, _, _, _, _⟩ := hD3.rown (n := 0) (by simp)
                  obtain ⟨ob3, oo3, rfl, hat3⟩ := horow3 (by simp)
                  have z0 := (ln_cells hat3 (k := 0) rfl).1
                  simp only [Nat.zero_mul, Nat.add_zero] at z0
                  simp only [hlen'] at z0 htc3
                  have hgo : Hid (∀ wx, Below w3.heap.size w3 wx → Row wx 8 ao (tk'.map (tkC ⟨#[103]⟩)) ∧ Row wx 8 ta (ln.toks.map (tkC ⟨#[102]⟩)) ∧ wx.cell? ⟨ob3, oo3, none⟩ = some (.slice ao m tcap) ∧ wx.cell? ⟨rb, o + i * 4, none⟩ = some (.slice ta m tc)) := Lib.hid (fun wx hx => ⟨hrow3.below hx, (hAr.below hb3).below hx, kept_cell hx z0, kept_cell (hx.mono (Nat.le_refl _)) (kept_cell hb3 t0)⟩)
                  have hbw3 := hb.trans (hb3.mono hb.size)
                  obtain ⟨_, _, x0, x1⟩ := hgo.out w3 (Below.refl _ _)
                  clear z0 hat3 horow3 hD3 hO3 hrow3 hl3 t0 t3 hb3
                  go_wp2_with fail
                  go_quiet (fail)
                  have hb4 := drewN_below w3 nq
                  have hbw4 := hbw3.trans (hb4.mono hbw3.size)
                  clear x0 x1
                  go_wp2_with fail
                  go_loopg [11] m (fun u v11 wx => ∃ k : Nat, u = m - k ∧ k ≤ m ∧ v11 = .int .i64 k ∧ Below w3.heap.size w3 wx)
                  case atStart => exact ⟨0, rfl, Nat.zero_le _, rfl, hb4⟩
                  case round =>
                    obtain ⟨k, rfl, hk, rfl, hb5⟩ := hrel
                    obtain ⟨r1, r2, x0, x1⟩ := hgo.out wr hb5
                    by_cases hkm : k < m
                    · have f1 : (k : Int) < m := by omega
                      go_upto_region 144 with fail
                      obtain ⟨tk, hp⟩ : ∃ p, ln.toks[k]? = some p := ⟨ln.toks[k]'(by rw [HM.out]; exact hkm), by simp⟩
                      obtain ⟨uk, hq⟩ : ∃ p, tk'[k]? = some p := ⟨tk'[k]'(by rw [hlen']; exact hkm), by simp⟩
                      have hku : uk.kind = tk.kind ∧ uk.text = tk.text := by
                        have h1 := congrArg (fun l => l[k]?) q3.out
                        simp only [List.getElem?_map, hp, hq, Option.map_some, Option.some.injEq, Prod.mk.injEq] at h1
                        exact h1
                      have hus : uk.space = decide (0 < k) := by
                        have h1 := congrArg (fun l => l[k]?) q4.out
                        simp only [List.getElem?_map, hq, Option.map_some] at h1
                        have h2 := hp
                        cases htk : ln.toks with
                        | nil => rw [htk] at h2; simp at h2
                        | cons x xs =>
                          rw [htk] at h1 h2
                          cases k with
                          | zero => simpa [spacesL] using h1
                          | succ k =>
                            simp only [List.getElem?_cons_succ] at h2
                            simpa [spacesL, h2] using h1
                      obtain ⟨rba, oa1, rfl, hata⟩ := r1 (by intro h; simp at h; rw [h] at hq; simp at hq)
                      obtain ⟨rbb, ob1, rfl, hatb⟩ := r2 (by intro h; simp at h; rw [h] at hp; simp at hp)
                      obtain ⟨a0', a1', a2', a3', a4', a5', a6', a7'⟩ := tk_cells hata hq
                      obtain ⟨b0', b1', b2', b3', b4', b5', b6', b7'⟩ := tk_cells hatb hp
                      rw [hku.1] at a0'
                      rw [hku.2] at a1'
                      rw [hus] at a2'
                      clear hata hatb hp hq hku hus r1 r2 HG hgo
                      obtain ⟨bk, hbk⟩ : ∃ b, b = decide (0 < k) := ⟨_, rfl⟩
                      rw [← hbk] at a2'
                      have HFx : Hid (∀ x : World, Below wr.heap.size wr x → x.cell? ⟨ob3, oo3, none⟩ = some (.slice (some ⟨rba, oa1, none⟩) m tcap) ∧ x.cell? ⟨rb, o + i * 4, none⟩ = some (.slice (some ⟨rbb, ob1, none⟩) m tc) ∧ x.cell? ⟨rba, oa1 + k * 8, none⟩ = some (.int .i64 tk.kind) ∧ x.cell? ⟨rba, oa1 + k * 8 + 1, none⟩ = some (.string ⟨tk.text.toArray⟩) ∧ x.cell? ⟨rba, oa1 + k * 8 + 2, none⟩ = some (.bool bk) ∧ x.cell? ⟨rba, oa1 + k * 8 + 3, none⟩ = some (.string ⟨#[103]⟩) ∧ x.cell? ⟨rba, oa1 + k * 8 + 4, none⟩ = some (.int .i64 uk.f) ∧ x.cell? ⟨rba, oa1 + k * 8 + 5, none⟩ = some (.int .i64 uk.t) ∧ x.cell? ⟨rba, oa1 + k * 8 + 6, none⟩ = some (.bool false) ∧ x.cell? ⟨rba, oa1 + k * 8 + 7, none⟩ = some (.slice none 0 0) ∧ x.cell? ⟨rbb, ob1 + k * 8, none⟩ = some (.int .i64 tk.kind) ∧ x.cell? ⟨rbb, ob1 + k * 8 + 1, none⟩ = some (.string ⟨tk.text.toArray⟩) ∧ x.cell? ⟨rbb, ob1 + k * 8 + 2, none⟩ = some (.bool tk.space) ∧ x.cell? ⟨rbb, ob1 + k * 8 + 3, none⟩ = some (.string ⟨#[102]⟩) ∧ x.cell? ⟨rbb, ob1 + k * 8 + 4, none⟩ = some (.int .i64 tk.f) ∧ x.cell? ⟨rbb, ob1 + k * 8 + 5, none⟩ = some (.int .i64 tk.t) ∧ x.cell? ⟨rbb, ob1 + k * 8 + 6, none⟩ = some (.bool false) ∧ x.cell? ⟨rbb, ob1 + k * 8 + 7, none⟩ = some (.slice none 0 0)) := Lib.hid (fun x hx => ⟨kept_cell hx x0, kept_cell hx x1, kept_cell hx a0', kept_cell hx a1', kept_cell hx a2', kept_cell hx a3', kept_cell hx a4', kept_cell hx a5', kept_cell hx a6', kept_cell hx a7', kept_cell hx b0', kept_cell hx b1', kept_cell hx b2', kept_cell hx b3', kept_cell hx b4', kept_cell hx b5', kept_cell hx b6', kept_cell hx b7'⟩)
                      have hd0 := hbk.symm
                      clear hbk
                      cases bk
                      case false =>
                        go_region_held3 (fun x : World => x.cell? ⟨ob3, oo3, none⟩ = some (.slice (some ⟨rba, oa1, none⟩) m tcap) ∧ x.cell? ⟨rb, o + i * 4, none⟩ = some (.slice (some ⟨rbb, ob1, none⟩) m tc) ∧ x.cell? ⟨rba, oa1 + k * 8, none⟩ = some (.int .i64 tk.kind) ∧ x.cell? ⟨rba, oa1 + k * 8 + 1, none⟩ = some (.string ⟨tk.text.toArray⟩) ∧ x.cell? ⟨rba, oa1 + k * 8 + 2, none⟩ = some (.bool false) ∧ x.cell? ⟨rba, oa1 + k * 8 + 3, none⟩ = some (.string ⟨#[103]⟩) ∧ x.cell? ⟨rba, oa1 + k * 8 + 4, none⟩ = some (.int .i64 uk.f) ∧ x.cell? ⟨rba, oa1 + k * 8 + 5, none⟩ = some (.int .i64 uk.t) ∧ x.cell? ⟨rba, oa1 + k * 8 + 6, none⟩ = some (.bool false) ∧ x.cell? ⟨rba, oa1 + k * 8 + 7, none⟩ = some (.slice none 0 0) ∧ x.cell? ⟨rbb, ob1 + k * 8, none⟩ = some (.int .i64 tk.kind) ∧ x.cell? ⟨rbb, ob1 + k * 8 + 1, none⟩ = some (.string ⟨tk.text.toArray⟩) ∧ x.cell? ⟨rbb, ob1 + k * 8 + 2, none⟩ = some (.bool tk.space) ∧ x.cell? ⟨rbb, ob1 + k * 8 + 3, none⟩ = some (.string ⟨#[102]⟩) ∧ x.cell? ⟨rbb, ob1 + k * 8 + 4, none⟩ = some (.int .i64 tk.f) ∧ x.cell? ⟨rbb, ob1 + k * 8 + 5, none⟩ = some (.int .i64 tk.t) ∧ x.cell? ⟨rbb, ob1 + k * 8 + 6, none⟩ = some (.bool false) ∧ x.cell? ⟨rbb, ob1 + k * 8 + 7, none⟩ = some (.slice none 0 0)) (first | exact HFx.out _ (by repeat (first | exact Below.refl _ _ | refine Below.drew ?_ | refine Below.alloc ?_ (by simp) _ | refine Below.setCell ?_ (by simp) _))) (fail)
                        all_goals
                          go_wp2_with fail
                          go_roundg (m - (k + 1))
                          case measure => omega
                          case rel => exact ⟨k + 1, rfl, by omega, by go_num, hb5.trans (Below.mono (show Below wr.heap.size wr _ by repeat (first | exact Below.refl _ _ | refine Below.drew ?_ | refine Below.alloc ?_ (by simp) _ | refine Below.setCell ?_ (by simp) _)) hb5.size)⟩
                      case true =>
                        go_region_held3 (fun x : World => x.cell? ⟨ob3, oo3, none⟩ = some (.slice (some ⟨rba, oa1, none⟩) m tcap) ∧ x.cell? ⟨rb, o + i * 4, none⟩ = some (.slice (some ⟨rbb, ob1, none⟩) m tc) ∧ x.cell? ⟨rba, oa1 + k * 8, none⟩ = some (.int .i64 tk.kind) ∧ x.cell? ⟨rba, oa1 + k * 8 + 1, none⟩ = some (.string ⟨tk.text.toArray⟩) ∧ x.cell? ⟨rba, oa1 + k * 8 + 2, none⟩ = some (.bool true) ∧ x.cell? ⟨rba, oa1 + k * 8 + 3, none⟩ = some (.string ⟨#[103]⟩) ∧ x.cell? ⟨rba, oa1 + k * 8 + 4, none⟩ = some (.int .i64 uk.f) ∧ x.cell? ⟨rba, oa1 + k * 8 + 5, none⟩ = some (.int .i64 uk.t) ∧ x.cell? ⟨rba, oa1 + k * 8 + 6, none⟩ = some (.bool false) ∧ x.cell? ⟨rba, oa1 + k * 8 + 7, none⟩ = some (.slice none 0 0) ∧ x.cell? ⟨rbb, ob1 + k * 8, none⟩ = some (.int .i64 tk.kind) ∧ x.cell? ⟨rbb, ob1 + k * 8 + 1, none⟩ = some (.string ⟨tk.text.toArray⟩) ∧ x.cell? ⟨rbb, ob1 + k * 8 + 2, none⟩ = some (.bool tk.space) ∧ x.cell? ⟨rbb, ob1 + k * 8 + 3, none⟩ = some (.string ⟨#[102]⟩) ∧ x.cell? ⟨rbb, ob1 + k * 8 + 4, none⟩ = some (.int .i64 tk.f) ∧ x.cell? ⟨rbb, ob1 + k * 8 + 5, none⟩ = some (.int .i64 tk.t) ∧ x.cell? ⟨rbb, ob1 + k * 8 + 6, none⟩ = some (.bool false) ∧ x.cell? ⟨rbb, ob1 + k * 8 + 7, none⟩ = some (.slice none 0 0)) (first | exact HFx.out _ (by repeat (first | exact Below.refl _ _ | refine Below.drew ?_ | refine Below.alloc ?_ (by simp) _ | refine Below.setCell ?_ (by simp) _))) (fail)
                        all_goals
                          go_wp2_with fail
                          go_roundg (m - (k + 1))
                          case measure => omega
                          case rel => exact ⟨k + 1, rfl, by omega, by go_num, hb5.trans (Below.mono (show Below wr.heap.size wr _ by repeat (first | exact Below.refl _ _ | refine Below.drew ?_ | refine Below.alloc ?_ (by simp) _ | refine Below.setCell ?_ (by simp) _)) hb5.size)⟩
                    · have f1 : ¬ (k : Int) < m := by omega
                      have hbw5 := hbw3.trans (hb5.mono hbw3.size)
                      go_wp2_with fail
                      go_roundg (L - (i + 1))
                      case measure => omega
                      case rel => exact ⟨i + 1, rfl, by omega, by go_num, hbw5⟩
          · have e2 : ¬ (i : Int) < L := by omega
            go_wp2_with fail
            refine (lexAwake_any _).mono ?_
            rintro e w9 ⟨rfl, hb9⟩
            go_wp2
            go_ret
            exact ⟨rfl, hbw.trans (hb9.mono hbw.size)⟩
end Go.Proofs.Ythbicbfdldpemaa
