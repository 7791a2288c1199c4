/- Texts of this seat's proofs, laid into one file. -/
import Derived.Test.YthbicbfdldpemaaMacroFormsDoneG19
import Derived.WalkSpells
/- LexLongest: the walk. -/
namespace Go.Proofs.Ythbicbfdldpemaa
open Go.RowKit
set_option linter.unusedVariables false

/-- what LexLongest asks of two signs -/
def PairOk (S : List UInt8) (j : Nat) : Prop := (chAt S j = 47 → chAt S (j + 1) ≠ 47 ∧ chAt S (j + 1) ≠ 42) ∧ (chAt S j = 63 → chAt S (j + 1) ≠ 63)

theorem pairs_ok {S : List UInt8} (hs : ∀ c ∈ S, c ∈ signsL) (h : ∀ j, j + 1 < S.length → PairOk S j) : SgOk S := by
  refine ⟨hs, fun i h0 => ?_, fun i h0 => ?_⟩
  · rcases Nat.lt_or_ge (i + 1) S.length with h1 | h1
    · exact (h i h1).1 h0
    · rw [chAt_ge h1]; exact ⟨by decide, by decide⟩
  · rcases Nat.lt_or_ge (i + 1) S.length with h1 | h1
    · exact (h i h1).2 h0
    · rw [chAt_ge h1]; decide

theorem u8c {c : UInt8} {n : Nat} (hn : n < 256) : ((c.toNat : Int) == (n : Int)) = decide (c = n.toUInt8) := by
  by_cases h : c = n.toUInt8
  · subst h
    have : n % 256 = n := Nat.mod_eq_of_lt hn
    simp [this]
  · rw [decide_eq_false h]
    have : ¬ (c.toNat : Int) = (n : Int) := fun e => h (u8_of hn e)
    simpa using this

theorem ext_toList {a b : ByteArray} (h : a.data.toList = b.data.toList) : a = b := by
  apply ByteArray.ext
  exact Array.toList_inj.1 h

theorem extract_list (s : ByteArray) (a k : Nat) : (s.extract a (a + k)).data.toList = (s.data.toList.drop a).take k := by
  rw [ByteArray.data_extract, Array.toList_extract, List.extract_eq_take_drop]
  congr 1
  omega

theorem flat_len : ∀ (l : List (List UInt8)), (∀ x ∈ l, 0 < x.length) → l.length ≤ l.flatten.length
  | [], _ => Nat.le_refl _
  | a :: l, h => by
    have h1 := h a (by simp)
    have h2 := flat_len l (fun x hx => h x (by simp [hx]))
    simp only [List.flatten_cons, List.length_append, List.length_cons]
    omega

theorem puncts_short : ∀ p ∈ punctsL, p.length ≤ 4 := by decide
theorem LTok.short {S : List UInt8} {t : Tk} (h : LTok S t) : t.text.length ≤ 4 := puncts_short _ (List.mem_of_find?_eq_some h.first)

set_option maxHeartbeats 40000000 in
set_option maxRecDepth 100000 in
theorem lexLongest_walk (zs : List Int) (a1 : Option Addr) (c1 : Nat) (hc1 : zs.length ≤ c1) (hz : ∀ z ∈ zs, -9223372036854775808 ≤ z ∧ z ≤ 9223372036854775807) (w : World) (hrz : Row w 1 a1 (zs.map fun z => [.int .i64 z])) :
    Calls Try.prog 9 #[.slice a1 zs.length c1] w fun e w' => e = .returned (.bool true) ∧ Below w.heap.size w w' := by
  obtain ⟨n, hn⟩ : ∃ n, n = zs.length := ⟨_, rfl⟩
  have HN : Hid (zs.length = n) := Lib.hid hn.symm
  rw [← hn] at hc1 ⊢
  clear hn
  by_cases h0 : n = 0
  · subst h0
    go_enter Try.func9, Try.ntmps9
    go_wp2_with (go_at_call 22; refine (lexAwake_any _).mono ?_; rintro e w' ⟨rfl, hb⟩)
    go_ret
    exact ⟨rfl, hb⟩
  · have e0 : ((n : Int) == 0) = false := by simp; omega
    by_cases h1 : 12 < n
    · have e1 : (12 : Int) < (n : Int) := by omega
      go_enter Try.func9, Try.ntmps9
      go_wp2_with (go_at_call 22; refine (lexAwake_any _).mono ?_; rintro e w' ⟨rfl, hb⟩)
      go_ret
      exact ⟨rfl, hb⟩
    · have e1 : ¬ (12 : Int) < (n : Int) := by omega
      replace hz := Lib.hid hz
      go_enter Try.func9, Try.ntmps9
      go_wp2_with fail
      obtain ⟨sg, hsg⟩ : ∃ sg : ByteArray, sg = ⟨#[91, 93, 40, 41, 123, 125, 46, 38, 42, 43, 45, 126, 33, 47, 37, 60, 62, 61, 94, 124, 63, 58, 59, 44, 35]⟩ := ⟨_, rfl⟩
      rw [← hsg]
      have hsg25 : Hid (sg.size = 25) := Lib.hid (by rw [hsg]; rfl)
      have hsgm : Hid (∀ r (h : r < sg.size), sg[r]'h ∈ signsL) := Lib.hid (by
        intro r h
        have h2 := get_byte h
        rw [← h2]
        have h3 : sg.data.toList = signsL := by rw [hsg]; rfl
        rw [h3, List.getD_eq_getElem?_getD, List.getElem?_eq_getElem (by rw [← h3, ← Lib.size_eq]; exact h)]
        exact List.getElem_mem _)
      clear hsg
      go_loopg [4, 5] n (fun u v4 v5 wr => ∃ (i : Nat) (sb : ByteArray), u = n - i ∧ i ≤ n ∧ v4 = .string sb ∧ v5 = .int .i64 i ∧ Below w.heap.size w wr ∧ Hid (sb.size = i ∧ ∀ c ∈ sb.data.toList, c ∈ signsL))
      case atStart => exact ⟨0, _, rfl, Nat.zero_le _, rfl, rfl, Below.refl _ _, Lib.hid ⟨rfl, by intro c hc; exact absurd hc (by simp)⟩⟩
      case round =>
        obtain ⟨i, sb, rfl, hi, rfl, rfl, hb, hsb⟩ := hrel
        by_cases hin : i < n
        · have f1 : (i : Int) < n := by omega
          obtain ⟨z, hpz⟩ : ∃ p, zs[i]? = some p := ⟨zs[i]'(by rw [HN.out]; exact hin), by simp⟩
          obtain ⟨rb2, o2, rfl, hat2⟩ := (hrz.below hb) (by intro h; simp at h; subst h; simp at hpz)
          have x1 := int_cell hat2 hpz
          have h25 := hsg25.out
          have hr0 := rndX_range z sg.size (by omega)
          obtain ⟨r, hr⟩ : ∃ r : Nat, rndX z sg.size = (r : Int) := ⟨(rndX z sg.size).toNat, by omega⟩
          have hRd := roundX_any z sg.size (by omega) (by omega) (hz.out z (List.mem_of_getElem? hpz)) wr
          rw [hr] at hRd hr0
          have hrs : r < sg.size := by omega
          have f5 : (r : Int) < sg.size := by omega
          have hmem := hsgm.out r hrs
          have hss := hsb.out.1
          have z1 : sb.size + 1 ≤ 9223372036854775807 := by omega
          have hcv : (convert 45 9 (.slice (some ⟨wr.heap.size, 0, none⟩) 1 1)).run Try.prog (wr.alloc (.cells #[.int .u8 (sg[r]'hrs).toNat] 5)) = .ok (.string ⟨#[sg[r]'hrs]⟩) (wr.alloc (.cells #[.int .u8 (sg[r]'hrs).toNat] 5)) :=
            run_convert_bytes_back _ _ _ 5 ⟨wr.heap.size, 0, none⟩ 1 [sg[r]'hrs] Try.underlying45 Try.underlying5 Try.underlying9 (fun j hj => by
              have : j = 0 := by simp at hj; exact hj
              subst this
              rw [Addr.add_lit]
              exact cell_new wr [.int .u8 (sg[r]'hrs).toNat] 5 rfl)
          have hnext : Hid ((sb ++ (⟨#[sg[r]'hrs]⟩ : ByteArray)).size = i + 1 ∧ ∀ c ∈ (sb ++ (⟨#[sg[r]'hrs]⟩ : ByteArray)).data.toList, c ∈ signsL) := Lib.hid (by
            refine ⟨by rw [ByteArray.size_append, hss]; rfl, fun c hc => ?_⟩
            rw [data_appY] at hc
            rcases List.mem_append.1 hc with hc | hc
            · exact hsb.out.2 c hc
            · have : c = sg[r]'hrs := by simpa using hc
              rw [this]; exact hmem)
          replace hRd := Lib.hid hRd
          replace h25 := Lib.hid h25
          replace hss := Lib.hid hss
          clear hat2 hpz hr hr0 hmem
          go_wp2_with fail
          refine hRd.out.mono ?_
          rintro e w2 ⟨rfl, hw2⟩
          replace hw2 := hw2.symm
          subst hw2
          go_wp2_with fail
          go_roundg (n - (i + 1))
          case measure => omega
          case rel => exact ⟨i + 1, _, rfl, by omega, rfl, by go_num, hb.alloc hb.size _, hnext⟩
        · have f1 : ¬ (i : Int) < n := by omega
          obtain rfl : i = n := by omega
          obtain ⟨hss, hsg2⟩ := hsb.out
          have hs1 : 1 ≤ sb.size := by omega
          have hs12 : sb.size ≤ 12 := by omega
          replace hss := Lib.hid hss
          replace hsg2 := Lib.hid hsg2
          have HBY : Hid (∀ k (h : k < sb.size), chAt sb.data.toList k = sb[k]'h) := Lib.hid (fun k h => get_byte h)
          generalize wr = w1 at *
          clear hsb hrz hsgm
          go_wp2_with fail
          go_loopg [6] (sb.size - 1) (fun u v6 wx => ∃ j : Nat, u = sb.size - j ∧ 1 ≤ j ∧ j ≤ sb.size ∧ v6 = .int .i64 j ∧ wx = w1 ∧ Hid (∀ a, a + 1 < j → PairOk sb.data.toList a))
          case atStart => exact ⟨1, rfl, Nat.le_refl _, hs1, rfl, rfl, Lib.hid (by intro a h; omega)⟩
          case round =>
            obtain ⟨j, rfl, hj1, hj2, rfl, hwr, hok⟩ := hrel
            replace hwr := hwr.symm
            subst hwr
            by_cases hjs : j < sb.size
            · have f2 : (j : Int) < (sb.size : Int) := by omega
              obtain ⟨q, hq⟩ : ∃ q, q = j - 1 := ⟨_, rfl⟩
              have hqs : q < sb.size := by omega
              have q1 : IntKind.i64.wrap ((j : Int) - 1) = (q : Int) := by rw [IntWalk.i64_in _ (by omega)]; omega
              have hjq : j = q + 1 := by omega
              have hcq := HBY.out q hqs
              have hcj := HBY.out j hjs
              have hnext : Hid ((sb[q]'hqs = 47 → sb[j]'hjs ≠ 47 ∧ sb[j]'hjs ≠ 42) → (sb[q]'hqs = 63 → sb[j]'hjs ≠ 63) → Hid (∀ a, a + 1 < j + 1 → PairOk sb.data.toList a)) := Lib.hid (fun g1 g2 => Lib.hid (by
                intro a ha
                by_cases h : a = q
                · unfold PairOk
                  rw [h, ← hjq, hcq, hcj]
                  exact ⟨g1, g2⟩
                · exact hok.out a (by omega)))
              have p47 := u8c (c := sb[q]'hqs) (n := 47) (by decide)
              have p63 := u8c (c := sb[q]'hqs) (n := 63) (by decide)
              have c47 := u8c (c := sb[j]'hjs) (n := 47) (by decide)
              have c42 := u8c (c := sb[j]'hjs) (n := 42) (by decide)
              have c63 := u8c (c := sb[j]'hjs) (n := 63) (by decide)
              clear hq hjq hcq hcj
              cases hp47 : (((sb[q]'hqs).toNat : Int) == 47) with
              | true =>
                cases hc47 : (((sb[j]'hjs).toNat : Int) == 47) with
                | true =>
                  go_wp2_with (go_at_call 22; refine (lexAwake_any _).mono ?_; rintro e w' ⟨rfl, hb9⟩)
                  go_ret
                  exact ⟨rfl, hb.trans (hb9.mono hb.size)⟩
                | false =>
                  cases hc42 : (((sb[j]'hjs).toNat : Int) == 42) with
                  | true =>
                    go_wp2_with (go_at_call 22; refine (lexAwake_any _).mono ?_; rintro e w' ⟨rfl, hb9⟩)
                    go_ret
                    exact ⟨rfl, hb.trans (hb9.mono hb.size)⟩
                  | false =>
                    have n47 : sb[j]'hjs ≠ 47 := of_decide_eq_false (c47.symm.trans hc47)
                    have n42 : sb[j]'hjs ≠ 42 := of_decide_eq_false (c42.symm.trans hc42)
                    replace n47 := Lib.hid n47
                    replace n42 := Lib.hid n42
                    cases hp63 : (((sb[q]'hqs).toNat : Int) == 63) with
                    | true =>
                      cases hc63 : (((sb[j]'hjs).toNat : Int) == 63) with
                      | true =>
                        go_wp2_with (go_at_call 22; refine (lexAwake_any _).mono ?_; rintro e w' ⟨rfl, hb9⟩)
                        go_ret
                        exact ⟨rfl, hb.trans (hb9.mono hb.size)⟩
                      | false =>
                        have n63 : sb[j]'hjs ≠ 63 := of_decide_eq_false (c63.symm.trans hc63)
                        replace n63 := Lib.hid n63
                        clear p47 p63 c47 c42 c63
                        have hnx := hnext.out (fun _ => ⟨n47.out, n42.out⟩) (fun _ => n63.out)
                        clear hnext
                        go_wp2_with fail
                        go_roundg (sb.size - (j + 1))
                        case measure => omega
                        case rel => exact ⟨j + 1, rfl, by omega, by omega, by go_num, rfl, hnx⟩
                    | false =>
                      have m63 : sb[q]'hqs ≠ 63 := of_decide_eq_false (p63.symm.trans hp63)
                      replace m63 := Lib.hid m63
                      clear p47 p63 c47 c42 c63
                      have hnx := hnext.out (fun _ => ⟨n47.out, n42.out⟩) (fun h => absurd h m63.out)
                      clear hnext
                      go_wp2_with fail
                      go_roundg (sb.size - (j + 1))
                      case measure => omega
                      case rel => exact ⟨j + 1, rfl, by omega, by omega, by go_num, rfl, hnx⟩
              | false =>
                have m47 : sb[q]'hqs ≠ 47 := of_decide_eq_false (p47.symm.trans hp47)
                replace m47 := Lib.hid m47
                cases hp63 : (((sb[q]'hqs).toNat : Int) == 63) with
                | true =>
                  cases hc63 : (((sb[j]'hjs).toNat : Int) == 63) with
                  | true =>
                    go_wp2_with (go_at_call 22; refine (lexAwake_any _).mono ?_; rintro e w' ⟨rfl, hb9⟩)
                    go_ret
                    exact ⟨rfl, hb.trans (hb9.mono hb.size)⟩
                  | false =>
                    have n63 : sb[j]'hjs ≠ 63 := of_decide_eq_false (c63.symm.trans hc63)
                    replace n63 := Lib.hid n63
                    clear p47 p63 c47 c42 c63
                    have hnx := hnext.out (fun h => absurd h m47.out) (fun _ => n63.out)
                    clear hnext
                    go_wp2_with fail
                    go_roundg (sb.size - (j + 1))
                    case measure => omega
                    case rel => exact ⟨j + 1, rfl, by omega, by omega, by go_num, rfl, hnx⟩
                | false =>
                  have m63 : sb[q]'hqs ≠ 63 := of_decide_eq_false (p63.symm.trans hp63)
                  replace m63 := Lib.hid m63
                  clear p47 p63 c47 c42 c63
                  have hnx := hnext.out (fun h => absurd h m47.out) (fun h => absurd h m63.out)
                  clear hnext
                  go_wp2_with fail
                  go_roundg (sb.size - (j + 1))
                  case measure => omega
                  case rel => exact ⟨j + 1, rfl, by omega, by omega, by go_num, rfl, hnx⟩
            · have f2 : ¬ (j : Int) < (sb.size : Int) := by omega
              have hsl : sb.data.toList.length = sb.size := by rw [← Lib.size_eq]
              have hSg := pairs_ok hsg2.out (fun a ha => hok.out a (by omega))
              have hne : sb.data.toList ≠ [] := by intro h; rw [h] at hsl; simp at hsl; omega
              obtain ⟨tk', r2, r3, r4⟩ := lex_signs hSg hne
              have HL2 := lines_any ⟨#[102]⟩ sb (by omega) w1
              unfold LinesPost at HL2
              rw [r2] at HL2
              replace HL2 := Lib.hid HL2
              replace hSg := Lib.hid hSg
              replace r3 := Lib.hid r3
              replace r4 := Lib.hid r4
              replace hsl := Lib.hid hsl
              clear r2 hne hok HBY hsg2
              go_wp2_with fail
              refine HL2.out.mono ?_
              rintro e w3 ⟨vo3, vd3, lcs3, rfl, hO3, hL3, hD3, hb3⟩
              cases hL3 with
              | cons hl3 hr3 =>
              cases hr3
              obtain ⟨ao, tcap, rfl, htc3, hrow3⟩ := hl3.row
              obtain ⟨oa3, ocap3, rfl, hoc3, _, horow3, _⟩ := hO3.rown (n := 1) (by simp)
              obtain ⟨da3, dcap3, rfl, _, _, _, _⟩ := hD3.rown (n := 0) (by simp)
              obtain ⟨ob3, oo3, rfl, hat3⟩ := horow3 (by simp)
              have z0 := (ln_cells hat3 (k := 0) rfl).1
              simp only [Nat.zero_mul, Nat.add_zero] at z0
              obtain ⟨m, hm⟩ : ∃ m, m = tk'.length := ⟨_, rfl⟩
              have HM : Hid (tk'.length = m) := Lib.hid hm.symm
              simp only [← hm] at z0 htc3
              have hgo : Hid (∀ wx, Below w3.heap.size w3 wx → Row wx 8 ao (tk'.map (tkC ⟨#[102]⟩)) ∧ wx.cell? ⟨ob3, oo3, none⟩ = some (.slice ao m tcap)) := Lib.hid (fun wx hx => ⟨hrow3.below hx, kept_cell hx z0⟩)
              have hbw3 := hb.trans (hb3.mono hb.size)
              have hmb : Hid (∀ k, k ≤ m → ((tk'.take k).map (·.text)).flatten.length ≤ sb.size) := Lib.hid (by
                intro k hk
                have h1 := r4.out
                have h2 := congrArg List.length h1
                rw [hsl.out, ← List.take_append_drop k tk', List.map_append, List.flatten_append, List.length_append] at h2
                omega)
              have hm12 : m ≤ 12 := by
                have h1 := flat_len (tk'.map (·.text)) (fun x hx => by
                  obtain ⟨t, ht, rfl⟩ := List.mem_map.1 hx
                  exact (r3.out t ht).pos)
                rw [r4.out, hsl.out, List.length_map, HM.out] at h1
                omega
              clear hat3 horow3 hD3 hO3 hrow3 hl3 hb3 hm hb
              go_wp2_with fail
              go_loopg [9, 10] m (fun u v9 v10 wx => ∃ (k : Nat) (sall : ByteArray), u = m - k ∧ k ≤ m ∧ v9 = .string sall ∧ v10 = .int .i64 k ∧ Below w3.heap.size w3 wx ∧ Hid (sall.data.toList = ((tk'.take k).map (·.text)).flatten))
              case atStart => exact ⟨0, _, rfl, Nat.zero_le _, rfl, rfl, Below.refl _ _, Lib.hid rfl⟩
              case round =>
                obtain ⟨k, sall, rfl, hk, rfl, rfl, hb5, hall⟩ := hrel
                obtain ⟨g1, x0⟩ := hgo.out wr hb5
                have hbw5 := hbw3.trans (hb5.mono hbw3.size)
                clear z0
                by_cases hkm : k < m
                · have f3 : (k : Int) < m := by omega
                  obtain ⟨tk, hp⟩ : ∃ p, tk'[k]? = some p := ⟨tk'[k]'(by rw [HM.out]; exact hkm), by simp⟩
                  have hT := r3.out tk (List.mem_of_getElem? hp)
                  obtain ⟨rba, oa1, rfl, hata⟩ := g1 (by intro h; simp at h; rw [h] at hp; simp at hp)
                  obtain ⟨a0', a1', a2', a3', a4', a5', a6', a7'⟩ := tk_cells hata hp
                  have htk : tk'.take (k + 1) = tk'.take k ++ [tk] := by rw [List.take_add_one, hp]; rfl
                  obtain ⟨tb, htb⟩ : ∃ tb : ByteArray, tb = ⟨tk.text.toArray⟩ := ⟨_, rfl⟩
                  have htl : tb.data.toList = tk.text := by rw [htb]
                  have hts : tb.size = tk.text.length := by rw [Lib.size_eq, htl]
                  have hsh := hT.short
                  have hfit := hT.fits
                  rw [hsl.out] at hfit
                  have hpos := hT.pos
                  rw [hT.kind] at a0'
                  rw [← htb] at a1'
                  rw [hT.space] at a2'
                  replace a0' : wr.cell? ⟨rba, oa1 + k * 8, none⟩ = some (.int .i64 5) := a0'
                  have HO1 := fun w' => lexOne_any tb (by omega) w'
                  have hone : Hid (∀ e, OnePost tb.data.toList e → e = .returned (.tuple #[.agg #[.int .i64 5, .string tb, .bool false, .string ⟨#[]⟩, .int .i64 0, .int .i64 0, .bool false, .slice none 0 0], .bool true])) := Lib.hid (by
                    intro e he
                    rw [htl, hT.text] at he
                    have := piece_one hSg.out hT (Nat.le_refl _) hT.fits he
                    rw [this, if_neg (Nat.lt_irrefl _), decide_eq_true (Nat.lt_irrefl _), ← htb])
                  have hlong : Hid (∀ kk e, tb.size < kk → tk.f + kk ≤ sb.size → OnePost (sb.extract tk.f (tk.f + kk)).data.toList e → e = .returned (.tuple #[.agg zeroTok.toArray, .bool false])) := Lib.hid (by
                    intro kk e h1 h2 he
                    rw [extract_list] at he
                    have := piece_one hSg.out hT (k := kk) (by omega) (by rw [hsl.out]; exact h2) he
                    rw [this, if_pos (by omega), decide_eq_false (by omega)])
                  have hsz1 : sall.size + tb.size ≤ 12 := by
                    have h1 := hmb.out (k + 1) (by omega)
                    rw [htk, List.map_append, List.flatten_append, List.length_append, ← hall.out, ← Lib.size_eq] at h1
                    simp only [List.map_cons, List.map_nil, List.flatten_cons, List.flatten_nil, List.append_nil] at h1
                    omega
                  have hz1 : sall.size + tb.size ≤ 9223372036854775807 := by omega
                  have hall2 : Hid ((sall ++ tb).data.toList = ((tk'.take (k + 1)).map (·.text)).flatten) := Lib.hid (by
                    rw [data_appY, hall.out, htk, List.map_append, List.flatten_append, htl]
                    simp)
                  have hfb : tk.f ≤ 12 := by omega
                  rw [← hts] at hsh hfit hpos
                  replace HO1 := Lib.hid HO1
                  replace htb := Lib.hid htb
                  replace hts := Lib.hid hts
                  replace htl := Lib.hid htl
                  clear hata hp htk hT g1
                  go_wp2_with fail
                  refine (HO1.out _).mono ?_
                  rintro e w5 ⟨he, hb6⟩
                  obtain rfl := hone.out e he
                  have hnb := (Below.refl wr.heap.size wr).alloc (Nat.le_refl _) (.cells #[.int .i64 5, .string tb, .bool false, .string ⟨#[102]⟩, .int .i64 tk.f, .int .i64 tk.t, .bool false, .slice none 0 0] 43)
                  have hT1 := (hb6.block _ (by simp)).trans (heap_alloc_new wr (.cells #[.int .i64 5, .string tb, .bool false, .string ⟨#[102]⟩, .int .i64 tk.f, .int .i64 tk.t, .bool false, .slice none 0 0] 43))
                  have hnb2 := (Below.refl w5.heap.size w5).alloc (Nat.le_refl _) (.cells #[.int .i64 5, .string tb, .bool false, .string ⟨#[]⟩, .int .i64 0, .int .i64 0, .bool false, .slice none 0 0] 43)
                  have hT2 := heap_alloc_new w5 (.cells #[.int .i64 5, .string tb, .bool false, .string ⟨#[]⟩, .int .i64 0, .int .i64 0, .bool false, .slice none 0 0] 43)
                  have hT1' := (hnb2.block _ (lt_of_block hT1)).trans hT1
                  have hbA : Below w3.heap.size w3 (w5.alloc (.cells #[.int .i64 5, .string tb, .bool false, .string ⟨#[]⟩, .int .i64 0, .int .i64 0, .bool false, .slice none 0 0] 43)) := ((hb5.trans (hnb.mono hb5.size)).trans (hb6.mono (Nat.le_trans hb5.size hnb.size))).trans (hnb2.mono (Nat.le_trans (Nat.le_trans hb5.size hnb.size) hb6.size))
                  obtain ⟨s0, s1, s2, s3, s4, s5, s6, s7⟩ := cells8x hT1'
                  obtain ⟨u0, u1, u2, u3, u4, u5, u6, u7⟩ := cells8x hT2
                  clear hT1 hnb hnb2 hb6 he a0' a1' a2' a3' a4' a5' a6' a7' x0
                  have q2 : IntKind.i64.wrap ((tb.size : Int) + 1) = (tb.size : Int) + 1 := IntWalk.i64_in _ (by omega)
                  go_wp2_with fail
                  obtain ⟨wA, hwA⟩ : ∃ wA, wA = w5.alloc (.cells #[.int .i64 5, .string tb, .bool false, .string ⟨#[]⟩, .int .i64 0, .int .i64 0, .bool false, .slice none 0 0] 43) := ⟨_, rfl⟩
                  obtain ⟨T, hTT⟩ : ∃ T, T = wr.heap.size := ⟨_, rfl⟩
                  rw [← hwA] at hbA s4 ⊢
                  rw [← hTT] at s4 ⊢
                  have hgo4 : Hid (∀ wx, Below wA.heap.size wA wx → wx.cell? ⟨T, 4, none⟩ = some (.int .i64 tk.f)) := Lib.hid (fun wx hx => kept_cell hx s4)
                  clear hwA hTT s0 s1 s2 s3 s4 s5 s6 s7 u0 u1 u2 u3 u4 u5 u6 u7 hT1' hT2 q2 hone HO1
                  go_loopg [14] (6 - (tb.size + 1)) (fun u v14 wx => ∃ kk : Nat, u = 6 - kk ∧ tb.size < kk ∧ kk ≤ 5 ∧ v14 = .int .i64 kk ∧ Below wA.heap.size wA wx)
                  case atStart => exact ⟨tb.size + 1, rfl, Nat.lt_succ_self _, by omega, by first | rfl | go_num | simp, Below.refl _ _⟩
                  case round =>
                    obtain ⟨kk, rfl, hkk, hkk5, rfl, hb7⟩ := hrel
                    have s4 := hgo4.out wr hb7
                    by_cases h4 : kk ≤ 4
                    · have f4 : (kk : Int) ≤ 4 := by omega
                      have q3 : IntKind.i64.wrap ((tk.f : Int) + kk) = (tk.f : Int) + kk := IntWalk.i64_in _ (by omega)
                      by_cases hf : tk.f + kk ≤ sb.size
                      · have f5 : (tk.f : Int) + kk ≤ (sb.size : Int) := by omega
                        have f6 : (0 : Int) ≤ (tk.f : Int) + kk := by omega
                        have f7 : (tk.f : Int) ≤ (tk.f : Int) + kk := by omega
                        have f8 : ((tk.f : Int) + kk).toNat = tk.f + kk := by omega
                        have HO2 := fun w' => lexOne_any (sb.extract tk.f (tk.f + kk)) (by rw [ByteArray.size_extract]; omega) w'
                        have hl2 := fun e => hlong.out kk e hkk hf
                        replace HO2 := Lib.hid HO2
                        replace hl2 := Lib.hid hl2
                        go_wp2_with fail
                        refine (HO2.out _).mono ?_
                        rintro e w8 ⟨he, hb8⟩
                        obtain rfl := hl2.out e he
                        unfold zeroTok
                        have hb9 := hb7.trans (hb8.mono hb7.size)
                        clear s4 he
                        go_wp2_with fail
                        go_roundg (6 - (kk + 1))
                        case measure => omega
                        case rel => exact ⟨kk + 1, rfl, by omega, by omega, by go_num, hb9.alloc hb9.size _⟩
                      · have f5 : ¬ (tk.f : Int) + kk ≤ (sb.size : Int) := by omega
                        go_wp2_with fail
                        go_roundg (m - (k + 1))
                        case measure => omega
                        case rel => exact ⟨k + 1, _, rfl, by omega, rfl, by go_num, hbA.trans (hb7.mono hbA.size), hall2⟩
                    · have f4 : ¬ (kk : Int) ≤ 4 := by omega
                      go_wp2_with fail
                      go_roundg (m - (k + 1))
                      case measure => omega
                      case rel => exact ⟨k + 1, _, rfl, by omega, rfl, by go_num, hbA.trans (hb7.mono hbA.size), hall2⟩
                · have f3 : ¬ (k : Int) < m := by omega
                  have hfin : sall = sb := ext_toList (by
                    rw [hall.out, List.take_of_length_le (by rw [HM.out]; omega)]
                    exact r4.out)
                  subst hfin
                  go_wp2_with fail
                  refine (lexAwake_any _).mono ?_
                  rintro e w9 ⟨rfl, hb9⟩
                  go_wp2
                  go_ret
                  exact ⟨rfl, hbw5.trans (hb9.mono hbw5.size)⟩
end Go.Proofs.Ythbicbfdldpemaa
