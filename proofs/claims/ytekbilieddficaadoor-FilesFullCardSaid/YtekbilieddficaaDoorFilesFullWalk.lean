/- FilesFull: the walk. -/
import Derived.Test.YtekbilieddficaaDoorFuSpec
import Derived.Test.YtekbilieddficaaDoorRound
namespace Go.Proofs.YtekbilieddficaaDoor
open Go.RowKit
set_option linter.unusedVariables false

theorem sorted_len (F : List (ByteArray × Nat × RT)) : ((sortedB (bytesOf (F.map ptrF))).map fun s => [Value.string ⟨s.toArray⟩]).length = F.length := by
  unfold sortedB bytesOf
  rw [List.length_map, List.length_mergeSort, List.length_map, List.length_map]

set_option maxRecDepth 100000 in
set_option maxHeartbeats 2000000 in
theorem filesFull_walk (a0 : Int) (w0 : (Lit.int .i64 a0).wf = true) (a1 : Int) (w1 : (Lit.int .i64 a1).wf = true) (w : World) :
    Calls Tryd.prog 6 #[.int .i64 a0, .int .i64 a1] w fun e w' => e = .returned (.bool true) ∧ Below w.heap.size w w' := by
  have ha := i64_arg w1
  clear w0 w1
  have HA0 := Lib.hid (awake_any w)
  by_cases h1 : a0 < 0
  · go_enter Tryd.func6, Tryd.ntmps6
    go_wp2_with fail
    refine HA0.out.mono ?_
    rintro e w' ⟨rfl, hb⟩
    replace hb := Lib.hid hb
    go_wp2
    go_ret
    exact ⟨rfl, hb.out⟩
  by_cases h2 : 53 < a0
  · go_enter Tryd.func6, Tryd.ntmps6
    go_wp2_with fail
    refine HA0.out.mono ?_
    rintro e w' ⟨rfl, hb⟩
    replace hb := Lib.hid hb
    go_wp2
    go_ret
    exact ⟨rfl, hb.out⟩
  clear HA0
  obtain ⟨n, rfl⟩ : ∃ n : Nat, a0 = (n : Int) := ⟨a0.toNat, by omega⟩
  have hn53 : n ≤ 53 := by omega
  have HN1 := Lib.hid (new_yes (D := []) (fun d hd => by simp at hd) none 0 (by decide) (fun _ => ⟨rfl, rfl⟩) w (fun h => absurd rfl h) (by decide))
  obtain ⟨B, hB⟩ : ∃ B, B = w.heap.size := ⟨_, rfl⟩
  rw [← hB] at HN1 ⊢
  have hsz : Hid (∀ W, Below B w W → B ≤ W.heap.size) := Lib.hid fun W hW => by rw [hB]; rw [hB] at hW; exact hW.size
  replace hB := Lib.hid hB
  go_enter Tryd.func6, Tryd.ntmps6
  go_wp2_with fail
  refine HN1.out.mono ?_
  rintro e w1 ⟨g, fm, vm, dv, rfl, f1, b1⟩
  replace f1 := Lib.hid f1
  replace b1 := Lib.hid b1
  clear HN1
  go_wp2_with fail
  go_loopg [7, 8] n (fun q v7 v8 wx => ∃ (i : Nat) (F : List (ByteArray × Nat × RT)) (V : List (ByteArray × Nat × Int)), q = n - i ∧ i ≤ n ∧ v7 = .int .i64 i ∧ Hid (FAt wx B g fm vm dv [] F V) ∧ Hid (FuSt (min i 50) F V) ∧ Hid (Below B w wx))
  case atStart => exact ⟨0, [], [], rfl, Nat.zero_le _, rfl, f1, Lib.hid fuSt_zero, b1⟩
  case round =>
    obtain ⟨i, F, V, hq, hi, rfl, hf, hS, hbw⟩ := hrel
    replace hq := hq.symm
    subst hq
    have hsB := hsz.out wr hbw.out
    by_cases hin : i < n
    · have hin' : (i : Int) < n := by omega
      have f4 : Hid (n - (i + 1) < n - i) := Lib.hid (by omega)
      have g1 : IntKind.i64.wrap ((i : Int) + 1) = (i : Int) + 1 := IntWalk.i64_in _ (by omega)
      have HNm := Lib.hid (name_any i (by omega) wr)
      by_cases h50 : i < 50
      · have h50' : ¬ (50 : Int) ≤ i := by omega
        have em : min i 50 = i := by omega
        have em2 : min (i + 1) 50 = i + 1 := by omega
        have HC : Hid (∀ W, Below wr.heap.size wr W → Calls Tryd.prog 11 #[.pointer (some ⟨g, 0, none⟩), .string (nameB i), .string sText] W fun e w' => Created B g fm vm dv [] F V (nameB i) sText.data.toList W e w') := Lib.hid fun W hW =>
          create_yes W (hf.out.moved hW) (Nat.le_trans hsB hW.size) (nameB i) sText (by show 3 ≤ 80; decide) (name_valid i (by omega)) (hS.out.st.none_ i (by omega) (by omega)) (by rw [hS.out.st.len]; omega) (by decide) (by rw [hS.out.st.cnt i (by omega)]; split <;> omega)
        rw [em] at hS
        replace em2 := Lib.hid em2
        clear em
        go_wp2_with fail
        refine HNm.out.mono ?_
        rintro e w2 ⟨rfl, b2⟩
        have HC2 := Lib.hid (HC.out w2 b2)
        replace b2 := Lib.hid b2
        clear HC HNm
        go_wp2_with fail
        refine HC2.out.mono ?_
        rintro e w3 ⟨rfl, p3, t3, q3, ht3, f3, c3, _⟩
        have hf3 := Lib.hid f3
        have hb3 := Lib.hid (hbw.out.trans ((b2.out.mono hsB).trans c3))
        replace ht3 := Lib.hid ht3
        clear f3 c3
        go_wp2_with fail
        go_roundg (n - (i + 1))
        case measure => exact f4.out
        case rel => exact ⟨i + 1, _, _, rfl, by omega, rfl, hf3, Lib.hid (by rw [em2.out]; exact fuSt_succ hS.out (by omega) ht3.out), hb3⟩
      · have h50' : (50 : Int) ≤ i := by omega
        have em : min i 50 = 50 := by omega
        have em2 : min (i + 1) 50 = 50 := by omega
        have HC : Hid (∀ W, Below wr.heap.size wr W → Calls Tryd.prog 11 #[.pointer (some ⟨g, 0, none⟩), .string (nameB i), .string sText] W fun e w' => e = .returned (.int .i64 4) ∧ Below W.heap.size W w') := Lib.hid fun W hW =>
          create_full W (hf.out.moved hW) (nameB i) sText (by show 3 ≤ 100000; decide) (name_valid i (by omega)) (hS.out.st.none_ i (by omega) (by omega)) (by rw [hS.out.st.len]; omega)
        rw [em] at hS
        replace em2 := Lib.hid em2
        clear em
        go_wp2_with fail
        refine HNm.out.mono ?_
        rintro e w2 ⟨rfl, b2⟩
        have HC2 := Lib.hid (HC.out w2 b2)
        replace b2 := Lib.hid b2
        clear HC HNm
        go_wp2_with fail
        refine HC2.out.mono ?_
        rintro e w3 ⟨rfl, c3⟩
        have c13 := b2.out.trans (c3.mono b2.out.size)
        have hf3 := Lib.hid (hf.out.moved c13)
        have hb3 := Lib.hid (hbw.out.trans (c13.mono hsB))
        clear c3 c13
        go_wp2_with fail
        go_roundg (n - (i + 1))
        case measure => exact f4.out
        case rel => exact ⟨i + 1, _, _, rfl, by omega, rfl, hf3, Lib.hid (by rw [em2.out]; exact hS.out), hb3⟩
    · obtain rfl : i = n := by omega
      have hin' : ¬ (i : Int) < (i : Int) := by omega
      obtain ⟨m, hm⟩ : ∃ m, m = min i 50 := ⟨_, rfl⟩
      rw [← hm] at hS
      have hmin : min (i : Int) 50 = (m : Int) := by omega
      have hFl := hS.out.st.len
      have HNs := Lib.hid (names_any wr hf.out (by rw [hFl]; omega))
      go_wp2_with fail
      refine HNs.out.mono ?_
      rintro e w2 ⟨v2, rfl, ho, b2⟩
      obtain ⟨lo, lc, rfl, _, _, _, _⟩ := ho.rown (n := m) (by rw [sorted_len, hFl])
      have hf2 := Lib.hid (hf.out.moved b2)
      have hb2 := Lib.hid (hbw.out.trans (b2.mono hsB))
      have HAw := Lib.hid (awake_any w2)
      have hs2 := hsz.out w2 hb2.out
      clear ho b2 HNs hf hbw
      by_cases h0 : i = 0
      · subst h0
        obtain rfl : m = 0 := by omega
        clear hm hmin hFl
        have hmin : min (0 : Int) 50 = 0 := by decide
        go_wp2_with fail
        refine HAw.out.mono ?_
        rintro e w3 ⟨rfl, b3⟩
        have b4 := Lib.hid (hb2.out.trans (b3.mono hs2))
        clear b3
        go_wp2
        go_ret
        exact ⟨rfl, b4.out⟩
      · have h0' : ¬ (i : Int) = 0 := by omega
        have hrx := rndX_range a1 (m : Int) (by omega)
        obtain ⟨k, hkx⟩ : ∃ k : Nat, (k : Int) = rndX a1 (m : Int) := ⟨(rndX a1 (m : Int)).toNat, by omega⟩
        have HR : Hid (∀ W, Calls Tryd.prog 16 #[.int .i64 a1, .int .i64 m] W fun e w' => e = .returned (.int .i64 k) ∧ w' = W) := Lib.hid fun W => by rw [hkx]; exact roundX_any a1 m (by omega) (by omega) ha W
        have hkm : k < m := by omega
        clear hrx hkx ha HAw
        obtain ⟨fb, ft, hfk, hft⟩ := hS.out.get hkm (by omega)
        have hck : countOf V (nameB k) = 1 := by rw [hS.out.st.cnt k (by omega), if_pos hkm]
        have HNk := Lib.hid (fun W => name_any k (by omega) W)
        have HI : Hid (∀ W, Below w2.heap.size w2 W → Calls Tryd.prog 18 #[.pointer (some ⟨g, 0, none⟩), .string (nameB k), .int .i64 2, .string ⟨#[120]⟩] W fun e w' => Changed B g fm vm dv [] F V (nameB k) (ft.text.take 2 ++ (⟨#[120]⟩ : ByteArray).data.toList ++ ft.text.drop 2) W e w') := Lib.hid fun W hW =>
          fileInsert_yes W (hf2.out.moved hW) (Nat.le_trans hs2 hW.size) (nameB k) hfk 2 ⟨#[120]⟩ (by omega) (by rw [hft]; decide) (by rw [hck]; decide)
        replace hft := Lib.hid hft
        replace hfk := Lib.hid hfk
        replace hck := Lib.hid hck
        have hm60 : Hid (m ≤ 50) := Lib.hid (by omega)
        replace hm := Lib.hid hm
        replace hFl := Lib.hid hFl
        go_wp2_with fail
        refine (HR.out _).mono ?_
        rintro e w' ⟨rfl, hw'⟩
        replace hw' := hw'.symm
        subst hw'
        go_wp2_with fail
        refine (HNk.out _).mono ?_
        rintro e w3 ⟨rfl, b3⟩
        have HI3 := Lib.hid (HI.out w3 b3)
        have hb3 := Lib.hid (hb2.out.trans (b3.mono hs2))
        clear b3 HI hf2
        go_wp2_with fail
        refine HI3.out.mono ?_
        rintro e w4 ⟨rfl, p4, t4, n4, ht4, f4, c4, _⟩
        have hb4 := Lib.hid (hb3.out.trans c4)
        have hs4 := hsz.out w4 hb4.out
        have hg4 : fileOf (putF F (nameB k) p4 t4) (nameB k) = some (p4, t4) := by rw [file_put hfk.out, if_pos rfl]
        have hl4 : t4.text.length = 5 := by
          rw [ht4, List.length_append, List.length_append, List.length_take, List.length_drop, hft.out]
          rfl
        have hk4 : countOf (bumpV V (nameB k) n4) (nameB k) = 2 := by rw [count_bump_eq, if_pos rfl, hck.out]; rfl
        have HI4 : Hid (∀ W, Below w4.heap.size w4 W → Calls Tryd.prog 18 #[.pointer (some ⟨g, 0, none⟩), .string (nameB k), .int .i64 9, .string ⟨#[120]⟩] W fun e w' => e = .returned (.int .i64 1) ∧ w' = W) := Lib.hid fun W hW =>
          fileInsert_bad W (f4.moved hW) (nameB k) hg4 9 ⟨#[120]⟩ (by rw [hl4]; decide) (by rw [hl4]; decide)
        have HRm : Hid (∀ W, Below w4.heap.size w4 W → Calls Tryd.prog 23 #[.pointer (some ⟨g, 0, none⟩), .string (nameB k)] W fun e w' => e = .returned (.int .i64 0) ∧ FAt w' B g fm vm dv [] (dropF (putF F (nameB k) p4 t4) (nameB k)) (bumpV (bumpV V (nameB k) n4) (nameB k) W.heap.size) ∧ Below B W w' ∧ RopesKept W w') := Lib.hid fun W hW =>
          remove_yes W (f4.moved hW) (Nat.le_trans hs4 hW.size) (nameB k) (by show 3 ≤ 80; decide) hg4 (by rw [hk4]; decide)
        have hdl := drop_length hg4
        rw [put_length hfk.out, hFl.out] at hdl
        have hd1 : fileOf (dropF (putF F (nameB k) p4 t4) (nameB k)) (nameB k) = none := by rw [file_drop, if_pos rfl]
        have hd2 : fileOf (dropF (putF F (nameB k) p4 t4) (nameB k)) sOther = none := by rw [file_drop, if_neg (name_other k).symm, file_put hfk.out, if_neg (name_other k).symm]; exact hS.out.none_
        replace hd1 := Lib.hid hd1
        replace hd2 := Lib.hid hd2
        replace hdl := Lib.hid hdl
        generalize dropF (putF F (nameB k) p4 t4) (nameB k) = F5 at HRm hd1 hd2 hdl
        clear f4 c4 hg4 hl4 hk4 ht4 HI3
        go_wp2_with fail
        refine (HNk.out _).mono ?_
        rintro e w5 ⟨rfl, b5⟩
        have HI5 := Lib.hid (HI4.out w5 b5)
        have b5' := Lib.hid b5
        clear b5 HI4
        go_wp2_with fail
        refine HI5.out.mono ?_
        rintro e w' ⟨rfl, hw'⟩
        replace hw' := hw'.symm
        subst hw'
        go_wp2_with fail
        refine (HNk.out _).mono ?_
        rintro e w6 ⟨rfl, b6⟩
        have b46 := b5'.out.trans (b6.mono b5'.out.size)
        have HR6 := Lib.hid (HRm.out w6 b46)
        have hb6 := Lib.hid (hb4.out.trans (b46.mono hs4))
        clear b6 b46 HRm HI5 b5'
        go_wp2_with fail
        refine HR6.out.mono ?_
        rintro e w7 ⟨rfl, f7, c7, _⟩
        have hb7 := Lib.hid (hb6.out.trans c7)
        have hs7 := hsz.out w7 hb7.out
        have hN7 : Hid (∀ W, Below w7.heap.size w7 W → Calls Tryd.prog 23 #[.pointer (some ⟨g, 0, none⟩), .string (nameB k)] W fun e w' => e = .returned (.int .i64 2) ∧ w' = W) := Lib.hid fun W hW =>
          remove_none W (f7.moved hW) (nameB k) (by show 3 ≤ maxLen; decide) hd1.out
        have hC7 : Hid (∀ W, Below w7.heap.size w7 W → Calls Tryd.prog 11 #[.pointer (some ⟨g, 0, none⟩), .string sOther, .string ⟨#[]⟩] W fun e w' => Created B g fm vm dv [] F5 (bumpV (bumpV V (nameB k) n4) (nameB k) w6.heap.size) sOther [] W e w') := Lib.hid fun W hW =>
          create_yes W (f7.moved hW) (Nat.le_trans hs7 hW.size) sOther ⟨#[]⟩ (by decide) other_valid hd2.out (by have := hdl.out; have := hm60.out; omega) (by decide) (by rw [count_bump_eq, count_bump_eq, if_neg (name_other k).symm, hS.out.cnt]; decide)
        clear f7 c7 HR6
        go_wp2_with fail
        refine (HNk.out _).mono ?_
        rintro e w8 ⟨rfl, b8⟩
        have HN8 := Lib.hid (hN7.out w8 b8)
        have HC8 := Lib.hid (hC7.out w8 b8)
        have hb8 := Lib.hid (hb7.out.trans (b8.mono hs7))
        clear b8 hN7 hC7
        go_wp2_with fail
        refine HN8.out.mono ?_
        rintro e w' ⟨rfl, hw'⟩
        replace hw' := hw'.symm
        subst hw'
        clear HN8
        go_wp2_with fail
        refine HC8.out.mono ?_
        rintro e w9 ⟨rfl, p9, t9, n9, _, f9, c9, _⟩
        have hb9 := Lib.hid (hb8.out.trans c9)
        obtain ⟨hE, hO⟩ := fu_end hS.out hkm (by have := hm60.out; omega) n4 w6.heap.size n9
        have hV : Hid (∀ W, Below w9.heap.size w9 W → ∀ j, j < m → Calls Tryd.prog 21 #[.pointer (some ⟨g, 0, none⟩), .string (nameB j)] W fun e w' => e = .returned (.int .i64 (if j = k then 3 else 1)) ∧ w' = W) := Lib.hid fun W hW j hj => by
          have h := version_any W (f9.moved hW) (nameB j) (by show 3 ≤ maxLen; decide)
          rw [hE j hj] at h
          exact h
        have hVo : Hid (∀ W, Below w9.heap.size w9 W → Calls Tryd.prog 21 #[.pointer (some ⟨g, 0, none⟩), .string sOther] W fun e w' => e = .returned (.int .i64 1) ∧ w' = W) := Lib.hid fun W hW => by
          have h := version_any W (f9.moved hW) sOther (by decide)
          rw [hO] at h
          exact h
        have hs9 := hsz.out w9 hb9.out
        clear f9 c9 hE hO HC8 hS HR HNk
        go_wp2_with fail
        go_loopg [10, 11] m (fun q v10 v11 wx => ∃ j : Nat, q = m - j ∧ j ≤ m ∧ v10 = .int .i64 j ∧ Hid (Below w9.heap.size w9 wx))
        case atStart => exact ⟨0, rfl, Nat.zero_le _, rfl, Lib.hid (Below.refl _ _)⟩
        case round =>
          obtain ⟨j, hq, hj, rfl, hbx⟩ := hrel
          replace hq := hq.symm
          subst hq
          by_cases hjm : j < m
          · have hjm' : (j : Int) < m := by omega
            have f5 : Hid (m - (j + 1) < m - j) := Lib.hid (by omega)
            have g2 : IntKind.i64.wrap ((j : Int) + 1) = (j : Int) + 1 := IntWalk.i64_in _ (by omega)
            have HNj := Lib.hid (name_any j (by have := hm60.out; omega) wr)
            have HVj := Lib.hid (fun W hW => hV.out W hW j hjm)
            by_cases hjk : j = k
            all_goals
              first
                | (subst hjk; rw [if_pos rfl] at HVj)
                | (rw [if_neg hjk] at HVj; have hjk' : ¬ (j : Int) = (k : Int) := (by omega); replace hjk := Lib.hid hjk)
              go_wp2_with fail
              refine HNj.out.mono ?_
              rintro e wa ⟨rfl, ba⟩
              have bb := hbx.out.trans (ba.mono hbx.out.size)
              have HVa := Lib.hid (HVj.out wa bb)
              replace bb := Lib.hid bb
              clear ba HVj HNj
              go_wp2_with fail
              refine HVa.out.mono ?_
              rintro e w' ⟨rfl, hw'⟩
              replace hw' := hw'.symm
              subst hw'
              go_wp2_with fail
              go_roundg (m - (j + 1))
              case measure => exact f5.out
              case rel => exact ⟨j + 1, rfl, by omega, rfl, bb⟩
          · obtain rfl : j = m := by omega
            have hjm' : ¬ (j : Int) < (j : Int) := by omega
            have HVo := Lib.hid (hVo.out wr hbx.out)
            have HAw := Lib.hid (awake_any wr)
            go_wp2_with fail
            refine HVo.out.mono ?_
            rintro e w' ⟨rfl, hw'⟩
            replace hw' := hw'.symm
            subst hw'
            go_wp2_with fail
            refine HAw.out.mono ?_
            rintro e wz ⟨rfl, bz⟩
            have bz' := Lib.hid (hb9.out.trans ((hbx.out.trans (bz.mono hbx.out.size)).mono hs9))
            clear bz
            go_wp2
            go_ret
            exact ⟨rfl, bz'.out⟩
end Go.Proofs.YtekbilieddficaaDoor
