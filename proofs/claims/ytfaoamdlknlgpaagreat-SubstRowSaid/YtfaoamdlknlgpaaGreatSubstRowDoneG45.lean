/- Texts of this seat's proofs, laid into one file. -/
import Derived.Test.YtfaoamdlknlgpaaGreatSubstRowDoneG44
import Derived.Test.YtfaoamdlknlgpaaGreatSubstRowDoneG28
/- SubstRow: the walk. -/
namespace Go.Proofs.YtfaoamdlknlgpaaGreat
open Go.RowKit
set_option linter.unusedVariables false

theorem str_cell {w : World} {b o k : Nat} {ws : List ByteArray} {s : ByteArray} (hat : RowAt w 1 b o (ws.map fun p => [.string p])) (hk : ws[k]? = some s) : w.cell? ⟨b, o + k, none⟩ = some (.string s) := by
  have := hat.cell (i := k) (cs := [.string s]) (by simp [hk]) (j := 0) (u := .string s) rfl
  simpa using this

def bl (ws : List ByteArray) : List (List UInt8) := ws.map (·.data.toList)

/-- the strings and the rows so far -/
structure RowSt (ws : List ByteArray) (B i : Nat) (b3 b4 b5 : ByteArray) (v : Value) (w : World) : Prop where
  body : b3 = bs (rowL [35, 35] i)
  list : b4 = bs (rowL [44] i)
  want : b5 = bs ((bl ws).take i).flatten
  raw : RawAt w B v (((bl ws).take i).map toksL)
  low : ∀ u ∈ (bl ws).take i, Low u
  len : ∀ u ∈ (bl ws).take i, u.length ≤ 20

theorem rowL_len {sep : List UInt8} (hs : sep.length ≤ 2) : ∀ n, (rowL sep n).length ≤ 4 * n
  | 0 => by simp [rowL]
  | n + 1 => by
    have := rowL_len hs n
    simp only [rowL, List.length_append]
    split <;> simp <;> omega

theorem RowSt.size {ws : List ByteArray} {B i : Nat} {b3 b4 b5 : ByteArray} {v : Value} {w : World} (h : RowSt ws B i b3 b4 b5 v w) (hi : i ≤ 12) : b3.size ≤ 48 ∧ b4.size ≤ 48 ∧ b5.size ≤ 240 := by
  have h1 := rowL_len (sep := [35, 35]) (by decide) i
  have h2 := rowL_len (sep := [44]) (by decide) i
  have h3 := flat_len h.len
  rw [h.body, h.list, h.want, bs_size, bs_size, bs_size]
  have h4 : ((bl ws).take i).length ≤ i := by rw [List.length_take]; omega
  omega

theorem bs_self (b : ByteArray) : bs b.data.toList = b := by
  apply ByteArray.ext
  simp

theorem row_step (sep : List UInt8) (i : Nat) (ch : UInt8) (hch : ch = UInt8.ofNat (97 + i)) : bs (rowL sep i) ++ bs (if 0 < i then sep else []) ++ ((⟨#[112]⟩ : ByteArray) ++ (⟨#[ch]⟩ : ByteArray)) = bs (rowL sep (i + 1)) := by
  subst hch
  rw [bs_cat, show (⟨#[112]⟩ : ByteArray) ++ (⟨#[UInt8.ofNat (97 + i)]⟩ : ByteArray) = bs [112, UInt8.ofNat (97 + i)] from by apply ByteArray.ext; simp, bs_cat]
  rfl

/-- a text more -/
theorem RowSt.next {ws : List ByteArray} {B i : Nat} {b3 b4 b5 wd : ByteArray} {v v' : Value} {w w' : World} (h : RowSt ws B i b3 b4 b5 v w) (hp : ws[i]? = some wd) (hlow : Low wd.data.toList) (hlen : wd.size ≤ 20) {b3' b4' : ByteArray} (h3 : b3' = bs (rowL [35, 35] (i + 1))) (h4 : b4' = bs (rowL [44] (i + 1)))
    (hr : RawAt w' B v' (((bl ws).take i).map toksL ++ [toksL wd.data.toList])) : RowSt ws B (i + 1) b3' b4' (b5 ++ wd) v' w' := by
  have ht : (bl ws).take (i + 1) = (bl ws).take i ++ [wd.data.toList] := by
    rw [List.take_add_one]
    unfold bl
    rw [List.getElem?_map, hp]
    rfl
  refine ⟨h3, h4, ?_, ?_, ?_, ?_⟩
  · rw [h.want, ht, List.flatten_append, ← bs_cat]
    congr 1
    simp [bs_self]
  · rw [ht, List.map_append]; exact hr
  · intro u hu
    rw [ht] at hu
    rcases List.mem_append.1 hu with hu | hu
    · exact h.low u hu
    · simp only [List.mem_singleton] at hu; subst hu; exact hlow
  · intro u hu
    rw [ht] at hu
    rcases List.mem_append.1 hu with hu | hu
    · exact h.len u hu
    · simp only [List.mem_singleton] at hu
      subst hu
      have : wd.data.toList.length = wd.size := by rw [← Lib.size_eq]
      omega

set_option maxHeartbeats 4000000 in
set_option maxRecDepth 100000 in
theorem substRow_main (ws : List ByteArray) (hws : ∀ s ∈ ws, s.size ≤ maxLen) (ao : Option Addr) (c1 : Nat) (hc1 : ws.length ≤ c1) (w : World) (hrw : Row w 1 ao (ws.map fun p => [.string p])) :
    Calls Tryz.prog 9 #[.slice ao ws.length c1] w fun e w' => e = .returned (.bool true) ∧ Below w.heap.size w w' := by
  have HAw := Lib.hid awake11_any
  obtain ⟨n, hn⟩ : ∃ n, n = ws.length := ⟨_, rfl⟩
  have HN : Hid (ws.length = n) := Lib.hid hn.symm
  rw [← hn] at hc1 ⊢
  clear hn
  by_cases h1 : n < 2
  · have e1 : (n : Int) < 2 := by omega
    go_enter Tryz.func9, Tryz.ntmps9
    go_wp2_with fail
    refine (HAw.out _).mono ?_
    rintro e w1 ⟨rfl, hb1⟩
    go_wp2
    go_ret
    exact ⟨rfl, hb1⟩
  have e1 : ¬ (n : Int) < 2 := by omega
  by_cases h2 : 12 < n
  · have e2 : (12 : Int) < (n : Int) := by omega
    go_enter Tryz.func9, Tryz.ntmps9
    go_wp2_with fail
    refine (HAw.out _).mono ?_
    rintro e w1 ⟨rfl, hb1⟩
    go_wp2
    go_ret
    exact ⟨rfl, hb1⟩
  have e2 : ¬ (12 : Int) < (n : Int) := by omega
  replace hws := Lib.hid hws
  have hrf := Below.refl w.heap.size w
  go_enter Tryz.func9, Tryz.ntmps9
  go_wp2_with fail
  go_loopg [3, 4, 5, 6, 7] n (fun q v3 v4 v5 v6 v7 wr => ∃ (i : Nat) (b3 b4 b5 : ByteArray), q = n - i ∧ i ≤ n ∧ v3 = .string b3 ∧ v4 = .string b4 ∧ v5 = .string b5 ∧ v7 = .int .i64 i ∧ Hid (RowSt ws w.heap.size i b3 b4 b5 v6 wr) ∧ Hid (Below w.heap.size w wr))
  case atStart => exact ⟨0, _, _, _, rfl, Nat.zero_le _, rfl, rfl, rfl, rfl, Lib.hid ⟨rfl, rfl, rfl, ⟨[], Own.nil _ _ _ _, rfl, by simp⟩, by simp, by simp⟩, Lib.hid hrf⟩
  case round =>
    obtain ⟨i, b3, b4, b5, rfl, hi, rfl, rfl, rfl, rfl, hS, hbw⟩ := hrel
    by_cases hin : i < n
    · have f1 : (i : Int) < n := by omega
      obtain ⟨wd, hp⟩ : ∃ p, ws[i]? = some p := ⟨ws[i]'(by rw [HN.out]; exact hin), by simp⟩
      obtain ⟨rb, o, rfl, hat⟩ := hrw (by intro h; simp at h; subst h; simp at hp)
      have x0 := str_cell (hat.below hbw.out) hp
      have hwl : wd.size ≤ 9223372036854775807 := by have := hws.out wd (List.mem_of_getElem? hp); unfold maxLen at this; omega
      replace hp := Lib.hid hp
      clear hat
      obtain ⟨w4, hw4⟩ : ∃ w4, w4 = wr := ⟨_, rfl⟩
      subst hw4
      go_wp2_with fail
      go_loopg [8] wd.size (fun u v8 wx => ∃ k : Nat, u = wd.size - k ∧ k ≤ wd.size ∧ v8 = .int .i64 k ∧ wx = w4 ∧ Hid (∀ j, j < k → 97 ≤ chAt wd.data.toList j ∧ chAt wd.data.toList j ≤ 122))
      case atStart => exact ⟨0, rfl, Nat.zero_le _, rfl, rfl, Lib.hid (by intro j h; omega)⟩
      case round =>
        obtain ⟨k, rfl, hk, rfl, hwr, hch⟩ := hrel
        replace hwr := hwr.symm
        subst hwr
        by_cases hkw : k < wd.size
        · have f2 : (k : Int) < (wd.size : Int) := by omega
          have hck : chAt wd.data.toList k = wd[k]'hkw := get_byte hkw
          by_cases hlo : (wd[k]'hkw).toNat < 97
          · have d1 : ((wd[k]'hkw).toNat : Int) < 97 := by omega
            go_wp2_with fail
            refine (HAw.out _).mono ?_
            rintro e w5 ⟨rfl, hb5⟩
            go_wp2
            go_ret
            exact ⟨rfl, hbw.out.trans (hb5.mono hbw.out.size)⟩
          · have d1 : ¬ ((wd[k]'hkw).toNat : Int) < 97 := by omega
            by_cases hhi : 122 < (wd[k]'hkw).toNat
            · have d2 : (122 : Int) < ((wd[k]'hkw).toNat : Int) := by omega
              go_wp2_with fail
              refine (HAw.out _).mono ?_
              rintro e w5 ⟨rfl, hb5⟩
              go_wp2
              go_ret
              exact ⟨rfl, hbw.out.trans (hb5.mono hbw.out.size)⟩
            · have d2 : ¬ (122 : Int) < ((wd[k]'hkw).toNat : Int) := by omega
              have hnew : Hid (97 ≤ chAt wd.data.toList k ∧ chAt wd.data.toList k ≤ 122) := Lib.hid (by
                rw [hck, UInt8.le_iff_toNat_le, UInt8.le_iff_toNat_le]
                exact ⟨by simpa using hlo, by simpa using hhi⟩)
              have hnext : Hid (∀ j, j < k + 1 → 97 ≤ chAt wd.data.toList j ∧ chAt wd.data.toList j ≤ 122) := Lib.hid (by
                intro j hj
                by_cases h : j = k
                · rw [h]; exact hnew.out
                · exact hch.out j (by omega))
              clear hck hnew
              go_wp2_with fail
              go_roundg (wd.size - (k + 1))
              case measure => omega
              case rel =>
                refine ⟨k + 1, rfl, ?_, by go_num, rfl, hnext⟩
                exact hkw
        · have f2 : ¬ (k : Int) < (wd.size : Int) := by omega
          have hlow : Hid (Low wd.data.toList) := Lib.hid (by
            have hdl : wd.data.toList.length = wd.size := by rw [← Lib.size_eq]
            intro c hc
            obtain ⟨j, hj, rfl⟩ := List.mem_iff_getElem.1 hc
            have := hch.out j (by omega)
            rw [chAt_lt (List.getElem?_eq_getElem hj)] at this
            exact this)
          by_cases h20 : 20 < wd.size
          · have f3 : (20 : Int) < (wd.size : Int) := by omega
            go_wp2_with fail
            refine (HAw.out _).mono ?_
            rintro e w5 ⟨rfl, hb5⟩
            go_wp2
            go_ret
            exact ⟨rfl, hbw.out.trans (hb5.mono hbw.out.size)⟩
          · have f3 : ¬ (20 : Int) < (wd.size : Int) := by omega
            have g1 : IntKind.i64.wrap ((i : Int) + 1) = (i : Int) + 1 := IntWalk.i64_in _ (by omega)
            have g2 : IntKind.i64.wrap (97 + (i : Int)) = 97 + (i : Int) := IntWalk.i64_in _ (by omega)
            have g3 : IntKind.u8.wrap (97 + (i : Int)) = 97 + (i : Int) := by
              simp [IntKind.wrap, IntKind.signed, IntKind.bits]
              omega
            have hcv := conv_a (i := i) (by omega) w4
            obtain ⟨ch, hce⟩ : ∃ c, c = UInt8.ofNat (97 + i) := ⟨_, rfl⟩
            have hst1 := row_step [35, 35] i ch hce
            have hst2 := row_step [44] i ch hce
            rw [← hce] at hcv
            replace hce := Lib.hid hce
            have hz := hS.out.size (by omega)
            obtain ⟨W5, hW5⟩ : ∃ W5, W5 = w4.alloc (.cells #[.int .u8 (97 + (i : Int))] 5) := ⟨_, rfl⟩
            have hb5 : Below w4.heap.size w4 W5 := by rw [hW5]; exact (Below.refl _ w4).alloc (Nat.le_refl _) _
            have x5 := kept_cell hb5 x0
            have hq : (⟨#[112]⟩ : ByteArray).size + (⟨#[ch]⟩ : ByteArray).size = 2 := rfl
            obtain ⟨pn, hpn⟩ : ∃ p, p = (⟨#[112]⟩ : ByteArray) ++ (⟨#[ch]⟩ : ByteArray) := ⟨_, rfl⟩
            have hps : pn.size = 2 := by rw [hpn]; rfl
            rw [← hpn] at hst1 hst2
            have z5 : b5.size + wd.size ≤ 9223372036854775807 := by omega
            obtain ⟨b3', b4', hb3', hb4', HST⟩ : ∃ b3' b4' : ByteArray, Hid (b3' = bs (rowL [35, 35] (i + 1))) ∧ Hid (b4' = bs (rowL [44] (i + 1))) ∧ Hid (b3' = bs (rowL [35, 35] i) ++ bs (if 0 < i then [35, 35] else []) ++ pn ∧ b4' = bs (rowL [44] i) ++ bs (if 0 < i then [44] else []) ++ pn) := ⟨_, _, Lib.hid rfl, Lib.hid rfl, Lib.hid ⟨hst1.symm, hst2.symm⟩⟩
            clear hst1 hst2
            have HTk := Lib.hid (rToksT_any wd (by omega) W5)
            obtain ⟨TT, hTT⟩ : ∃ t, t = toksL wd.data.toList := ⟨_, rfl⟩
            obtain ⟨tn, htn⟩ : ∃ t, t = TT.length := ⟨_, rfl⟩
            rw [← hTT] at HTk
            rw [← htn] at HTk
            have hR5 := hS.out.raw.below hb5
            have hb5' : Hid (Below w.heap.size w W5) := Lib.hid (hbw.out.trans (hb5.mono hbw.out.size))
            replace hR5 := Lib.hid hR5
            replace hTT := Lib.hid hTT
            replace htn := Lib.hid htn
            by_cases hi0 : 0 < i
            · have f5 : (0 : Int) < (i : Int) := by omega
              have y3 : b3.size + (⟨#[35, 35]⟩ : ByteArray).size ≤ 9223372036854775807 := by have : (⟨#[35, 35]⟩ : ByteArray).size = 2 := rfl; omega
              have y4 : b4.size + (⟨#[44]⟩ : ByteArray).size ≤ 9223372036854775807 := by have : (⟨#[44]⟩ : ByteArray).size = 1 := rfl; omega
              have hl2 : (⟨#[35, 35]⟩ : ByteArray).size = 2 := rfl
              have hl1 : (⟨#[44]⟩ : ByteArray).size = 1 := rfl
              have y5 : (b3 ++ (⟨#[35, 35]⟩ : ByteArray)).size + pn.size ≤ 9223372036854775807 := by rw [ByteArray.size_append]; omega
              have y6 : (b4 ++ (⟨#[44]⟩ : ByteArray)).size + pn.size ≤ 9223372036854775807 := by rw [ByteArray.size_append]; omega
              have y7 : b3.size + 2 + pn.size ≤ 9223372036854775807 := by omega
              have y8 : b4.size + 1 + pn.size ≤ 9223372036854775807 := by omega
              replace hps := Lib.hid hps
              replace hl1 := Lib.hid hl1
              replace hl2 := Lib.hid hl2
              have E3 : b3 ++ (⟨#[35, 35]⟩ : ByteArray) ++ pn = b3' := by
                rw [HST.out.1, hS.out.body, if_pos hi0]
              have E4 : b4 ++ (⟨#[44]⟩ : ByteArray) ++ pn = b4' := by
                rw [HST.out.2, hS.out.list, if_pos hi0]
              replace E3 := Lib.hid E3
              replace E4 := Lib.hid E4
              go_upto_region 18 with fail
              rw [← hW5, ← hpn]
              replace hW5 := Lib.hid hW5
              replace hpn := Lib.hid hpn
              go_upto_region 23 with fail
              rw [E3.out, E4.out]
              go_wp2_with fail
              refine HTk.out.mono ?_
              rintro e w6 ⟨ta, tc, rfl, htc, htk, hb6⟩
              obtain ⟨vs, r1, r2, r3⟩ := hR5.out.below hb6
              have hlen : (vs.map fun u => [u]).length + 1 ≤ 1000000000 := by rw [List.length_map, r2, List.length_map, List.length_take]; omega
              have hbW := hb5'.out.trans (hb6.mono hb5'.out.size)
              have hB6 := hbW.size
              replace r2 := Lib.hid r2
              replace r3 := Lib.hid r3
              replace hbW := Lib.hid hbW
              replace htk := Lib.hid htk
              go_wp2_with (at_builtin; go_must (refine wpList_append1 El22 rfl rfl r1 rfl rfl (news := [.slice ta tn tc]) (by simp) rfl (by simp [Value.oneCell']) hlen (by decide) hB6 ?_); intro v6 w7 hown6 hg6)
              go_roundg (n - (i + 1))
              case measure => omega
              case rel =>
                refine ⟨i + 1, b3', b4', b5 ++ wd, rfl, hin, rfl, rfl, rfl, by go_num, Lib.hid (hS.out.next hp.out hlow.out (by omega) hb3'.out hb4'.out ?_), Lib.hid (bapp hbW.out r1 hg6 hB6)⟩
                have ht := htn.out
                subst ht
                have hT := hTT.out
                rw [← hT]
                exact RawAt.snoc r1 r2.out r3.out htc htk.out hown6 hg6
            · have f5 : ¬ (0 : Int) < (i : Int) := by omega
              have y5 : b3.size + pn.size ≤ 9223372036854775807 := by omega
              have y6 : b4.size + pn.size ≤ 9223372036854775807 := by omega
              replace hps := Lib.hid hps
              have E3 : b3 ++ pn = b3' := by
                rw [HST.out.1, hS.out.body, if_neg hi0]
                congr 1
                rw [bs_cat, List.append_nil]
              have E4 : b4 ++ pn = b4' := by
                rw [HST.out.2, hS.out.list, if_neg hi0]
                congr 1
                rw [bs_cat, List.append_nil]
              replace E3 := Lib.hid E3
              replace E4 := Lib.hid E4
              go_upto_region 18 with fail
              rw [← hW5, ← hpn]
              replace hW5 := Lib.hid hW5
              replace hpn := Lib.hid hpn
              go_upto_region 23 with fail
              rw [E3.out, E4.out]
              go_wp2_with fail
              refine HTk.out.mono ?_
              rintro e w6 ⟨ta, tc, rfl, htc, htk, hb6⟩
              obtain ⟨vs, r1, r2, r3⟩ := hR5.out.below hb6
              have hlen : (vs.map fun u => [u]).length + 1 ≤ 1000000000 := by rw [List.length_map, r2, List.length_map, List.length_take]; omega
              have hbW := hb5'.out.trans (hb6.mono hb5'.out.size)
              have hB6 := hbW.size
              replace r2 := Lib.hid r2
              replace r3 := Lib.hid r3
              replace hbW := Lib.hid hbW
              replace htk := Lib.hid htk
              go_wp2_with (at_builtin; go_must (refine wpList_append1 El22 rfl rfl r1 rfl rfl (news := [.slice ta tn tc]) (by simp) rfl (by simp [Value.oneCell']) hlen (by decide) hB6 ?_); intro v6 w7 hown6 hg6)
              go_roundg (n - (i + 1))
              case measure => omega
              case rel =>
                refine ⟨i + 1, b3', b4', b5 ++ wd, rfl, hin, rfl, rfl, rfl, by go_num, Lib.hid (hS.out.next hp.out hlow.out (by omega) hb3'.out hb4'.out ?_), Lib.hid (bapp hbW.out r1 hg6 hB6)⟩
                have ht := htn.out
                subst ht
                have hT := hTT.out
                rw [← hT]
                exact RawAt.snoc r1 r2.out r3.out htc htk.out hown6 hg6
    · obtain rfl : i = n := by omega
      have f1 : ¬ (i : Int) < i := by omega
      have hbl0 : (bl ws).length = i := by unfold bl; rw [List.length_map]; exact HN.out
      have htk : (bl ws).take i = bl ws := List.take_of_length_le (by omega)
      have hsz := hS.out.size (by omega)
      obtain ⟨s1, s2, s3, s4, s5, s6⟩ := hS.out
      rw [htk] at s3 s4 s5 s6
      obtain ⟨m, hm, hfn, hva, hne, hRow⟩ := rowM_of (n := i) (by omega) (by omega)
      obtain ⟨A, p0, A', D, hF⟩ := row_whole hRow (bl ws) hbl0 (by omega) (by omega) s5 s6 [siC ⟨#[]⟩ ⟨#[]⟩ 0 0 false]
      have hRk := rowRR_ok s5 s6 (by omega)
      have hPk := rowRP_ok s5 s6 (by omega)
      have hpl := hRow.pl
      have hbl : m.body.length ≤ 1000 := by have := hRow.bl; omega
      obtain ⟨tx, htx⟩ : ∃ t, t = (⟨#[70, 40]⟩ : ByteArray) ++ b4 ++ (⟨#[41, 32]⟩ : ByteArray) ++ b3 := ⟨_, rfl⟩
      have htL : tx.data.toList = rowText i := by
        rw [htx, s1, s2]
        simp [rowText]
      have htz : tx.size ≤ 100 := by
        rw [htx, ByteArray.size_append, ByteArray.size_append, ByteArray.size_append]
        have h1 : (⟨#[70, 40]⟩ : ByteArray).size = 2 := rfl
        have h2 : (⟨#[41, 32]⟩ : ByteArray).size = 2 := rfl
        omega
      rw [← htL] at hm
      have HPar : Hid (∀ (x : World) (ao : Option Addr) (n cap : Nat), (toksL tx.data.toList).length = n → n ≤ cap → n ≤ 1000000 → Row x 8 ao (((toksL tx.data.toList).map nilTv).map tvC) → Calls Tryz.prog 36 #[.slice ao n cap] x fun e w' => (∃ pa pc ba bc, e = .returned (.tuple #[.agg #[.string m.name, .bool m.fn, .bool m.va, .slice pa m.params.length pc, .slice ba m.body.length bc, .string m.file, .int .i64 m.f, .int .i64 m.t], .slice none 0 0]) ∧ MB m pa pc ba bc w') ∧ Below x.heap.size x w') := Lib.hid fun x ao n cap h1 h2 h3 h4 => by
        subst h1
        refine (rParseM_any _ m hm hfn hva hne ao cap h3 h2 x h4).mono ?_
        rintro e w' ⟨⟨psv, bov, rfl, ho⟩, hb⟩
        obtain ⟨pa, pc, ba, bc, rfl, rfl, h5, h6, h7⟩ := ho.parts
        exact ⟨⟨pa, pc, ba, bc, rfl, h6, h7, h5⟩, hb⟩
      have HBo : Hid (∀ (x : World) (pa : Option Addr) (pc : Nat) (ba : Option Addr) (bc : Nat) (rv : Value), MB m pa pc ba bc x → LsRd x rv (rowRR (bl ws)) → Calls Tryz.prog 37 #[.agg #[.string m.name, .bool m.fn, .bool m.va, .slice pa m.params.length pc, .slice ba m.body.length bc, .string m.file, .int .i64 m.f, .int .i64 m.t], rv, .slice none 0 0, .agg #[.string ⟨#[]⟩, .string ⟨#[]⟩, .int .i64 0, .int .i64 0, .bool false], .slice none 0 0] x fun e w' => (∃ v vf vd, e = .returned (.tuple #[v, vf, vd]) ∧ OwnT (A.map tfZ) x.heap.size v w' ∧ Own w' x.heap.size 3 1 vf (A.map parC) ∧ Own w' x.heap.size 68 4 vd []) ∧ Below x.heap.size x w') := Lib.hid fun x pa pc ba bc rv h1 h2 =>
        body11_any m pa pc ba bc (rowRR (bl ws)) [] rv (.slice none 0 0) ⟨#[]⟩ x h1 (by omega) (by omega) h2 (LsRd.nil _) hRk ⟨by simp, by simp⟩ _ hF.one
      have HBp : Hid (∀ (x : World) (pa : Option Addr) (pc : Nat) (ba : Option Addr) (bc : Nat) (rv : Value), MB m pa pc ba bc x → LsRd x rv (rowRP (bl ws)) → Calls Tryz.prog 37 #[.agg #[.string m.name, .bool m.fn, .bool m.va, .slice pa m.params.length pc, .slice ba m.body.length bc, .string m.file, .int .i64 m.f, .int .i64 m.t], rv, .slice none 0 0, .agg #[.string ⟨#[]⟩, .string ⟨#[]⟩, .int .i64 0, .int .i64 0, .bool false], .slice none 0 0] x fun e w' => (∃ v vf vd, e = .returned (.tuple #[v, vf, vd]) ∧ OwnT (A'.map tfZ) x.heap.size v w' ∧ Own w' x.heap.size 3 1 vf (A'.map parC) ∧ Own w' x.heap.size 68 4 vd (D.map badV)) ∧ Below x.heap.size x w') := Lib.hid fun x pa pc ba bc rv h1 h2 =>
        body11_any m pa pc ba bc (rowRP (bl ws)) [] rv (.slice none 0 0) ⟨#[]⟩ x h1 (by omega) (by omega) h2 (LsRd.nil _) hPk ⟨by simp, by simp⟩ _ hF.two
      obtain ⟨hF1, hFA, hF2, hFp, hFA', hFd, hFt⟩ := hF
      clear hF1 hF2 hRk hPk hRow
      obtain ⟨mname, mfn, mva, mps, mbody, mfile, mf, mt⟩ := m
      simp only at HPar HBo HBp hbl hpl hne hfn hva
      rw [hpl] at HPar HBo HBp
      obtain ⟨bn, hbn⟩ : ∃ q, q = mbody.length := ⟨_, rfl⟩
      rw [← hbn] at HPar HBo HBp hbl
      obtain ⟨R, hR⟩ : ∃ R, R = (bl ws).map toksL := ⟨_, rfl⟩
      rw [← hR] at s4
      have hRl : R.length = i := by rw [hR, List.length_map]; exact hbl0
      have hR1 : rowRR (bl ws) = R.map fun l => l.map nilTf := by rw [hR, List.map_map]; rfl
      have hR2 : rowRP (bl ws) = tkW [43] :: (R.drop 1).map fun l => l.map nilTf := by rw [hR, ← List.map_drop, List.map_map]; rfl
      replace hbn := Lib.hid hbn
      replace hm := Lib.hid hm
      replace hne := Lib.hid hne
      replace hpl := Lib.hid hpl
      replace hfn := Lib.hid hfn
      replace hva := Lib.hid hva
      replace hFA := Lib.hid hFA
      replace hFp := Lib.hid hFp
      replace hFA' := Lib.hid hFA'
      replace hFd := Lib.hid hFd
      replace hFt := Lib.hid hFt
      replace hR := Lib.hid hR
      replace hRl := Lib.hid hRl
      replace hR1 := Lib.hid hR1
      replace hR2 := Lib.hid hR2
      replace hbl0 := Lib.hid hbl0
      replace htk := Lib.hid htk
      replace htL := Lib.hid htL
      replace s1 := Lib.hid s1
      replace s2 := Lib.hid s2
      replace s3 := Lib.hid s3
      replace s5 := Lib.hid s5
      replace s6 := Lib.hid s6
      clear hS
      obtain ⟨vs, r1, r2, r3⟩ := s4
      obtain ⟨ga, gc, rfl, hgc⟩ : ∃ ga gc, u6 = .slice (some ⟨ga, 0, none⟩) i gc ∧ i ≤ gc := by
        obtain ⟨v0, vs', rfl⟩ : ∃ a t, vs = a :: t := by
          cases vs with
          | nil => have := hRl.out; simp at r2; omega
          | cons a t => exact ⟨a, t, rfl⟩
        obtain ⟨g, cap, rfl, hcap⟩ := r1.cons_at (by simp)
        have h1 : ((v0 :: vs').map fun u => [u]).length = i := by rw [List.length_map, r2, hRl.out]
        rw [h1] at hcap ⊢
        exact ⟨g, cap, rfl, hcap⟩
      have hRaw : Hid (RawAt wr w.heap.size (.slice (some ⟨ga, 0, none⟩) i gc) R) := Lib.hid ⟨vs, r1, r2, r3⟩
      clear r1 r2 r3
      have y1 : (⟨#[70, 40]⟩ : ByteArray).size + b4.size ≤ 9223372036854775807 := by have : (⟨#[70, 40]⟩ : ByteArray).size = 2 := rfl; omega
      have y2 : ((⟨#[70, 40]⟩ : ByteArray) ++ b4).size + (⟨#[41, 32]⟩ : ByteArray).size ≤ 9223372036854775807 := by rw [ByteArray.size_append]; have : (⟨#[70, 40]⟩ : ByteArray).size = 2 := rfl; have : (⟨#[41, 32]⟩ : ByteArray).size = 2 := rfl; omega
      have y3 : ((⟨#[70, 40]⟩ : ByteArray) ++ b4 ++ (⟨#[41, 32]⟩ : ByteArray)).size + b3.size ≤ 9223372036854775807 := by rw [ByteArray.size_append, ByteArray.size_append]; have : (⟨#[70, 40]⟩ : ByteArray).size = 2 := rfl; have : (⟨#[41, 32]⟩ : ByteArray).size = 2 := rfl; omega
      go_wp2_with fail
      rw [← htx]
      replace htx := Lib.hid htx
      refine (toks11_rd tx (by omega) wr).mono ?_
      rintro e w1 ⟨n1, ao1, cap1, rfl, hb1, hr1⟩
      have HP1 := HPar.out w1 ao1 n1 cap1 hr1.out.2.1 hr1.out.2.2.1 (by have := hr1.out.2.2.2.1; omega) hr1.out.2.2.2.2
      replace HP1 := Lib.hid HP1
      go_wp2_with fail
      refine HP1.out.mono ?_
      rintro e w2 ⟨⟨pa, pc, ba, bc, rfl, hM2⟩, hb2⟩
      clear HPar HP1 hr1
      obtain ⟨W3, hW3⟩ : ∃ W3, W3 = w2.alloc (.cells #[.string mname, .bool mfn, .bool mva, .slice pa i pc, .slice ba bn bc, .string mfile, .int .i64 mf, .int .i64 mt] 47) := ⟨_, rfl⟩
      have b23 : Below w2.heap.size w2 W3 := by rw [hW3]; exact (Below.refl _ w2).alloc (Nat.le_refl _) _
      have hc3 : W3.heap[w2.heap.size]? = some (.cells #[.string mname, .bool mfn, .bool mva, .slice pa i pc, .slice ba bn bc, .string mfile, .int .i64 mf, .int .i64 mt] 47 (0, 0)) := by rw [hW3]; exact heap_alloc_new w2 _
      have br3 : Below wr.heap.size wr W3 := (hb1.trans (hb2.mono hb1.size)).trans (b23.mono (Nat.le_trans hb1.size hb2.size))
      have b3' : Hid (Below w.heap.size w W3) := Lib.hid (hbw.out.trans (br3.mono hbw.out.size))
      have hM3 := hM2.below b23
      have hRaw3 := hRaw.out.below br3
      obtain ⟨gm, hgm⟩ : ∃ g, g = w2.heap.size := ⟨_, rfl⟩
      rw [← hgm] at hc3
      obtain ⟨k0, k1, k2, k3, k4, k5, k6, k7⟩ := cells8 hc3
      replace hc3 := Lib.hid hc3
      replace hM3 := Lib.hid hM3
      replace hRaw3 := Lib.hid hRaw3
      clear hM2 hb1 hb2 b23 br3 hRaw hbw
      go_upto_region 26 with fail
      rw [← hW3, ← hgm]
      replace hW3 := Lib.hid hW3
      replace hgm := Lib.hid hgm
      go_wp2_with fail
      refine (made11_any mname mfn mva (.slice pa i pc) (.slice ba bn bc) mfile mf mt ⟨_, _, _, rfl⟩ ⟨_, _, _, rfl⟩ _).mono ?_
      rintro e w4 ⟨rfl, hb4⟩
      have HB4 := HBo.out w4 pa pc ba bc (.slice (some ⟨ga, 0, none⟩) i gc) (hM3.out.below hb4) (by rw [hR1.out]; exact (hRaw3.out.below hb4).ls)
      replace HB4 := Lib.hid HB4
      go_wp2_with fail
      refine HB4.out.mono ?_
      rintro e w5 ⟨⟨v, vf, vd, rfl, ho5, hf5, hd5⟩, hb5⟩
      have b35 : Hid (Below W3.heap.size W3 w5) := Lib.hid (hb4.trans (hb5.mono hb4.size))
      obtain ⟨na, hna⟩ : ∃ na, na = A.length := ⟨_, rfl⟩
      obtain ⟨va, vc, rfl⟩ := ho5.slice (n := na) (by rw [List.length_map]; exact hna.symm)
      obtain ⟨fa, fc, rfl, _, _, _, _⟩ := hf5.rown (n := na) (by rw [List.length_map]; exact hna.symm)
      obtain ⟨da, dc, rfl, _, _, _, _⟩ := hd5.rown (n := 0) rfl
      clear k0 k1 k2 k3 k4 k5 k6 k7 HB4 HBo hb4 hb5 hd5 hf5
      replace ho5 := Lib.hid ho5
      replace hna := Lib.hid hna
      go_upto_region 29 with fail
      have hA3 : (na = 0 ∧ b5 = bs []) ∨ (na = 1 ∧ b5 ≠ bs []) := by
        have hfl : b5 = bs (bl ws).flatten := s3.out
        rcases hFA.out with ⟨h1, h2⟩ | ⟨h1, z, h2, _⟩
        · exact .inl ⟨by rw [hna.out, h2]; rfl, by rw [hfl, h1]⟩
        · refine .inr ⟨by rw [hna.out, h2]; rfl, ?_⟩
          rw [hfl]
          intro e
          exact h1 (by simpa using congrArg (fun x : ByteArray => x.data.toList) e)
      go_cut [144] from 122 to 144 (fun v144 wx => v144 = .bool false ∧ wx = w5)
      case first =>
        rcases hA3 with ⟨hz0, hz1⟩ | ⟨hz0, hz1⟩
        · subst hz0
          have hzb : (b5.toList == ([] : List UInt8)) = true := by rw [hz1, beq_text]; exact decide_eq_true rfl
          have hzi : b5.toList.isEmpty = true := by rw [hz1, ByteArray.toList_eq]; rfl
          replace hz1 := Lib.hid hz1
          go_wp2_with fail
          go_meet
          exact ⟨rfl, rfl⟩
        · subst hz0
          have hzb : (b5.toList == ([] : List UInt8)) = false := by rw [beq_text]; exact decide_eq_false hz1
          have hzi : b5.toList.isEmpty = false := by
            cases hb : b5.toList with
            | nil =>
              refine absurd ?_ hz1
              have h1 := bs_self b5
              rw [← ByteArray.toList_eq, hb] at h1
              exact h1.symm
            | cons c t => rfl
          replace hz1 := Lib.hid hz1
          go_wp2_with fail
          go_meet
          exact ⟨rfl, rfl⟩
      case rest =>
        obtain ⟨rfl, rfl⟩ := hcut
        replace hA3 := Lib.hid hA3
        go_upto_region 31 with fail
        have hc5 := (b35.out.block _ (lt_of_block hc3.out)).trans hc3.out
        have hM5 := Lib.hid (hM3.out.below b35.out)
        have hRaw5 := Lib.hid (hRaw3.out.below b35.out)
        obtain ⟨k0, k1, k2, k3, k4, k5, k6, k7⟩ := cells8 hc5
        replace hc5 := Lib.hid hc5
        obtain ⟨nb, hnb⟩ : ∃ nb, nb = A'.length := ⟨_, rfl⟩
        obtain ⟨nd, hnd⟩ : ∃ nd, nd = D.length := ⟨_, rfl⟩
        have v1 : (1 : Int) ≤ (i : Int) := by omega
        have v2 : ((i : Int) - 1).toNat = i - 1 := by omega
        have v3 : ¬ gc = 1 := by omega
        have HTp : Hid (∀ x, Calls Tryz.prog 35 #[.string (bs [43])] x fun e w' => ∃ ao cap, e = .returned (.slice ao (toksL [43]).length cap) ∧ (toksL [43]).length ≤ cap ∧ TkR w' ao (toksL [43]) ∧ Below x.heap.size x w') := Lib.hid fun x => rToksT_any (bs [43]) (by decide) x
        obtain ⟨PL, hPL⟩ : ∃ l, l = toksL [43] := ⟨_, rfl⟩
        rw [← hPL] at HTp
        obtain ⟨pl, hpl2⟩ : ∃ l, l = PL.length := ⟨_, rfl⟩
        rw [← hpl2] at HTp
        replace hPL := Lib.hid hPL
        replace hpl2 := Lib.hid hpl2
        replace hnb := Lib.hid hnb
        replace hnd := Lib.hid hnd
        have hrf5 := Below.refl wc.heap.size wc
        go_cut [15, 16, 17] from 145 to 157 (fun v15 v16 v17 wx => ∃ (B : Nat) (xa dd : Option Addr) (xc dc : Nat), v15 = .slice xa nb xc ∧ v17 = .slice dd nd dc ∧ Hid (OwnT (A'.map tfZ) B (.slice xa nb xc) wx ∧ Own wx B 68 4 (.slice dd nd dc) (D.map badV)) ∧ Hid (Below wc.heap.size wc wx))
        case first =>
          obtain ⟨vr, q1, q2, q3⟩ := hRaw5.out.rest
          have hvl : Hid (vr.length = i - 1) := Lib.hid (by rw [q1, List.length_drop, hRl.out])
          have q4 := Lib.hid (raw_one q1 q3)
          replace q1 := Lib.hid q1
          replace q2 := Lib.hid q2
          replace q3 := Lib.hid q3
          go_region_law (first
            | (refine step_appendA El22 rfl rfl (own_lit1 w7 _ 1 [.slice ta pl tc] rfl) rfl rfl (css2 := vr.map fun u => [u]) (by rw [List.length_map]; exact hvl.out) (by intro e; cases e) (q2.out.below (hb67.out.alloc hb67.out.size _)) (by simp) q4.out (by have := hvl.out; simp; omega) (by decide) (by simp) ?_; intro v8 w8 hown8 hg8 hd8; obtain ⟨hL8, hb8⟩ := raw_plus hpl2.out htc htk q1.out q3.out hb67.out hown8 hg8; replace hL8 := Lib.hid hL8; replace hb8 := Lib.hid hb8)
            | (go_simp; go_at_call 38; refine (made11_any mname mfn mva (.slice pa i pc) (.slice ba bn bc) mfile mf mt ⟨_, _, _, rfl⟩ ⟨_, _, _, rfl⟩ _).mono ?_; rintro e w6 ⟨rfl, hb6⟩)
            | (go_simp; go_at_call 35; refine (HTp.out _).mono ?_; rintro e w7 ⟨ta, tc, rfl, htc, htk, hb7⟩; have hb67 := Lib.hid (hrf5.drew.trans (hb6.trans (hb7.mono hb6.size))))
            | (go_simp; go_at_call 37; refine (HBp.out w8 pa pc ba bc v8 (hM5.out.below hb8.out) (by rw [hR2.out]; have h := hL8.out; rw [hPL.out] at h; exact h)).mono ?_; rintro e w9 ⟨⟨ox, of, od, rfl, ho9, hf9, hd9⟩, hb9⟩))
          all_goals
            obtain ⟨xa, xc, rfl⟩ := ho9.slice (n := nb) (by rw [List.length_map]; exact hnb.out.symm)
            obtain ⟨oa, oc, rfl, _, _, _, _⟩ := hf9.rown (n := nb) (by rw [List.length_map]; exact hnb.out.symm)
            obtain ⟨dd, dc2, rfl, _, _, _, _⟩ := hd9.rown (n := nd) (by rw [List.length_map]; exact hnd.out.symm)
            have hb89 := hb8.out.trans (hb9.mono hb8.out.size)
            replace ho9 := Lib.hid ho9
            replace hd9 := Lib.hid hd9
            replace hb89 := Lib.hid hb89
            go_simp
            go_step
            go_meet
            case rel => exact ⟨_, xa, dd, xc, dc2, rfl, rfl, Lib.hid ⟨ho9.out, hd9.out⟩, hb89⟩
        case rest =>
          obtain ⟨B9, xa, dd, xc, dc2, rfl, rfl, hO9, hb9⟩ := hcut
          have hbw9 : Hid (Below w.heap.size w wc) := Lib.hid (b3'.out.trans ((b35.out.trans (hb9.out.mono b35.out.size)).mono b3'.out.size))
          obtain ⟨w9, hw9⟩ : ∃ w9, w9 = wc := ⟨_, rfl⟩
          subst hw9
          obtain ⟨rb, o, rfl, hat⟩ := hrw (by intro h; simp at h; have := HN.out; rw [h] at this; simp at this; omega)
          replace hat := Lib.hid hat
          go_wp2_with fail
          go_loopg [18, 19] (i - 1) (fun q v18 v19 wx => ∃ (j : Nat) (b : ByteArray), q = i - j ∧ 1 ≤ j ∧ j ≤ i ∧ v18 = .string b ∧ v19 = .int .i64 j ∧ wx = w9 ∧ Hid (b = bs (((bl ws).take j).drop 1).flatten))
          case atStart => exact ⟨1, _, rfl, Nat.le_refl _, by omega, rfl, rfl, rfl, Lib.hid (by cases h : bl ws <;> rfl)⟩
          case round =>
            obtain ⟨j, b, rfl, hj1, hj, rfl, rfl, hwr, hB⟩ := hrel
            replace hwr := hwr.symm
            subst hwr
            by_cases hji : j < i
            · have f2 : (j : Int) < (i : Int) := by omega
              obtain ⟨wd, hp⟩ : ∃ p, ws[j]? = some p := ⟨ws[j]'(by rw [HN.out]; exact hji), by simp⟩
              have x0 := str_cell (hat.out.below hbw9.out) hp
              have hbz : b.size ≤ 240 := by
                rw [hB.out, bs_size]
                have := flat_len (ws := ((bl ws).take j).drop 1) (fun u hu => s6.out u (List.mem_of_mem_take (List.mem_of_mem_drop hu)))
                rw [List.length_drop, List.length_take] at this
                omega
              have hwz : wd.size ≤ 20 := by
                have hm : wd.data.toList ∈ bl ws := List.mem_map.2 ⟨wd, List.mem_of_getElem? hp, rfl⟩
                have := s6.out _ hm
                rw [← Lib.size_eq] at this
                exact this
              have z0 : b.size + wd.size ≤ 9223372036854775807 := by omega
              have g1 : IntKind.i64.wrap ((j : Int) + 1) = (j : Int) + 1 := IntWalk.i64_in _ (by omega)
              have hnx : Hid (b ++ wd = bs (((bl ws).take (j + 1)).drop 1).flatten) := Lib.hid (by
                have ht : (bl ws).take (j + 1) = (bl ws).take j ++ [wd.data.toList] := by
                  rw [List.take_add_one]
                  unfold bl
                  rw [List.getElem?_map, hp]
                  rfl
                rw [ht, List.drop_append_of_le_length (by rw [List.length_take, hbl0.out]; omega), List.flatten_append, ← bs_cat, hB.out]
                congr 1
                simp [bs_self])
              replace hp := Lib.hid hp
              go_wp2_with fail
              go_roundg (i - (j + 1))
              case measure => omega
              case rel => exact ⟨j + 1, _, rfl, by omega, hji, rfl, by go_num, rfl, hnx⟩
            · obtain rfl : j = i := by omega
              have f2 : ¬ (j : Int) < j := by omega
              have hB1 : b = bs ((bl ws).drop 1).flatten := by rw [hB.out, htk.out]
              have hrun := hb9
              by_cases hrest : ((bl ws).drop 1).flatten = []
              · have hb0 : (b.toList == ([] : List UInt8)) = true := by rw [hB1, hrest, beq_text]; exact decide_eq_true rfl
                have hbi : b.toList.isEmpty = true := by rw [hB1, hrest, ByteArray.toList_eq]; rfl
                have hnd0 : nd = 0 := by rw [hnd.out, hFd.out, if_neg (fun h => h hrest)]
                have hnb1 : nb = 1 := by
                  rw [hnb.out]
                  rcases hFA'.out with ⟨h1, h2⟩ | ⟨h1, z, h2, _⟩
                  · rw [h2]; rfl
                  · exact absurd hrest h1
                subst hnd0 hnb1
                replace hB1 := Lib.hid hB1
                replace hrest := Lib.hid hrest
                go_wp2_with fail
                refine (HAw.out _).mono ?_
                rintro e w10 ⟨rfl, hb10⟩
                go_wp2
                go_ret
                exact ⟨rfl, hbw9.out.trans (hb10.mono hbw9.out.size)⟩
              · have hb0 : (b.toList == ([] : List UInt8)) = false := by
                  rw [hB1, beq_text]
                  refine decide_eq_false fun e => hrest ?_
                  simpa using congrArg (fun x : ByteArray => x.data.toList) e
                have hbi : b.toList.isEmpty = false := by
                  rw [hB1, ByteArray.toList_eq, bs_list]
                  cases h : ((bl ws).drop 1).flatten with
                  | nil => exact absurd h hrest
                  | cons c t => rfl
                have hnd0 : nd = 1 := by rw [hnd.out, hFd.out, if_pos hrest]
                obtain ⟨z, hz1, hz2⟩ : ∃ z, A' = [p0] ++ [z] ∧ z.t.text = b := by
                  rcases hFA'.out with ⟨h1, h2⟩ | ⟨h1, z, h2, h3⟩
                  · exact absurd h1 hrest
                  · exact ⟨z, h2, by rw [h3, hB1]⟩
                have hfl : (bl ws).flatten ≠ [] := by
                  intro e
                  refine hrest ?_
                  rw [List.flatten_eq_nil_iff] at e ⊢
                  exact fun l hl => e l (List.mem_of_mem_drop hl)
                obtain ⟨y, hy1, hy2⟩ : ∃ y, A = [y] ∧ y.t.text = b5 := by
                  rcases hFA.out with ⟨h1, h2⟩ | ⟨h1, y, h2, h3⟩
                  · exact absurd h1 hfl
                  · exact ⟨y, h2, by rw [h3, s3.out]⟩
                have hb50 : (b5.toList == ([] : List UInt8)) = false := by
                  rw [s3.out, beq_text]
                  refine decide_eq_false fun e => hfl ?_
                  simpa using congrArg (fun x : ByteArray => x.data.toList) e
                have hb5i : b5.toList.isEmpty = false := by
                  rw [s3.out, ByteArray.toList_eq, bs_list]
                  cases h : (bl ws).flatten with
                  | nil => exact absurd h hfl
                  | cons c t => rfl
                have hnb1 : nb = 2 := by rw [hnb.out, hz1]; rfl
                have hna1 : na = 1 := by rw [hna.out, hy1]; rfl
                subst hnd0 hnb1 hna1
                obtain ⟨hO1, hO2⟩ := hO9.out
                obtain ⟨d, hd1⟩ : ∃ d, D = [d] := by
                  have := hnd.out
                  match D, this with
                  | [d], _ => exact ⟨d, rfl⟩
                have hd2 : d.code = 10 := hFt.out d (by rw [hd1]; simp)
                rw [hd1] at hO2
                rw [hz1] at hO1
                obtain ⟨gd, od, rfl, hatd⟩ := hO2.here (by simp)
                have q0 : w9.cell? ⟨gd, od, none⟩ = some (.int .i64 10) := by
                  have := hatd.cell (i := 0) (cs := badV d) rfl (j := 0) (u := .int .i64 d.code) rfl
                  rw [hd2] at this
                  simpa using this
                obtain ⟨bx, ox, sa, sn, sc, rfl, _, q1⟩ := hO1.at (k := 0) (x := tfZ p0) rfl
                obtain ⟨bx', ox', sa', sn', sc', e', _, q2⟩ := hO1.at (k := 1) (x := tfZ z) rfl
                simp only [Option.some.injEq, Addr.mk.injEq, and_true] at e'
                obtain ⟨rfl, rfl⟩ := e'
                have ho9 := ho5.out.below hrun.out
                rw [hy1] at ho9
                obtain ⟨by', oy, sa2, sn2, sc2, rfl, _, q3⟩ := ho9.at (k := 0) (x := tfZ y) rfl
                have p1 : w9.cell? ⟨bx, ox + 1, none⟩ = some (.string ⟨#[43]⟩) := by
                  have := q1.2.1
                  rw [show (tfZ p0).1.text = bs [43] from hFp.out] at this
                  simpa using this
                have p2 : w9.cell? ⟨bx, ox + 8 + 1, none⟩ = some (.string b) := by
                  have := q2.2.1
                  rw [show (tfZ z).1.text = b from hz2] at this
                  simpa using this
                have p3 : w9.cell? ⟨by', oy + 1, none⟩ = some (.string b5) := by
                  have := q3.2.1
                  rw [show (tfZ y).1.text = b5 from hy2] at this
                  simpa using this
                clear q1 q2 q3 hatd hO1 hO2 ho9
                replace hB1 := Lib.hid hB1
                replace hrest := Lib.hid hrest
                replace hfl := Lib.hid hfl
                replace hz1 := Lib.hid hz1
                replace hz2 := Lib.hid hz2
                replace hy1 := Lib.hid hy1
                replace hy2 := Lib.hid hy2
                replace hd1 := Lib.hid hd1
                replace hd2 := Lib.hid hd2
                go_wp2_with fail
                refine (HAw.out _).mono ?_
                rintro e w10 ⟨rfl, hb10⟩
                go_wp2
                go_ret
                exact ⟨rfl, hbw9.out.trans (hb10.mono hbw9.out.size)⟩

theorem substRow_walk (ws : List ByteArray) (hws : ∀ s ∈ ws, s.size ≤ maxLen) (ao : Option Addr) (c : Nat) (hc : ws.length ≤ c) (w : World) (hr : Row w 1 ao (ws.map fun p => [.string p])) :
    Calls Tryz.prog 9 #[.slice ao ws.length c] w fun e w' => e = .returned (.bool true) ∧ Below w.heap.size w w' :=
  substRow_main ws hws ao c hc w hr
end Go.Proofs.YtfaoamdlknlgpaaGreat
