/- Texts of this seat's proofs, laid into one file. -/
import Derived.Test.YtllbbacnakoomaaGreatDoorE18
import Derived.Test.YtllbbacnakoomaaGreatDoorE8
import Derived.Test.YtllbbacnakoomaaGreatDoorE6
/- laws 20, 21, 22: a text's tokens, as a program's, by the document. -/
namespace Go.Proofs.YtllbbacnakoomaaGreatDoor
open Go.RowKit
set_option linter.unusedVariables false

theorem LnsAt.nth {w : World} {S : Nat} {file : ByteArray} : ∀ {ls : List Ln} {css : List (List Value)}, LnsAt w S file ls css → ∀ (i : Nat) (l : Ln), ls[i]? = some l → ∃ c, css[i]? = some c ∧ LnAt w S file l c
  | _, _, .nil, i, l, h => by simp at h
  | _, _, .cons (c := c) h r, i, l, hl => by
    cases i with
    | zero => simp at hl; subst hl; exact ⟨c, rfl, h⟩
    | succ i => simp at hl; obtain ⟨c', h1, h2⟩ := LnsAt.nth r i l hl; exact ⟨c', by simpa using h1, h2⟩
theorem flat_take {α β : Type} {ls : List α} {g : α → List β} {i : Nat} {l : α} (h : ls[i]? = some l) : (ls.take (i + 1)).flatMap g = (ls.take i).flatMap g ++ g l := by
  rw [List.take_add_one, h, List.flatMap_append]; simp
theorem flat_le {α β : Type} (ls : List α) (g : α → List β) (i : Nat) : ((ls.take i).flatMap g).length ≤ (ls.flatMap g).length := by
  have : ls.flatMap g = (ls.take i).flatMap g ++ (ls.drop i).flatMap g := by rw [← List.flatMap_append, List.take_append_drop]
  rw [this, List.length_append]; omega
theorem tm_tk (T : List Tk) : (T.map (Tk.tm (bs [102]))).map tmR = T.map (tkC (⟨#[102]⟩ : ByteArray)) := by
  rw [List.map_map]; rfl
theorem tm8 (T : List Tm) : ∀ cs ∈ T.map tmR, cs.length = 8 := by
  intro cs h
  obtain ⟨t, _, rfl⟩ := List.mem_map.1 h
  rfl
theorem tm1 (T : List Tm) : ∀ cs ∈ T.map tmR, ∀ u ∈ cs, u.oneCell' = true := by
  intro cs h u hu
  obtain ⟨t, _, rfl⟩ := List.mem_map.1 h
  simp at hu
  rcases hu with rfl | rfl | rfl | rfl | rfl | rfl | rfl | rfl <;> rfl

set_option maxRecDepth 100000 in
set_option maxHeartbeats 4000000 in
theorem toks20_any (s : ByteArray) (hs : s.size ≤ 1900) (w : World) :
    Calls Tryz.prog 22 #[.string s] w fun e w' => ∃ vo, e = .returned vo ∧ Own w' w.heap.size 94 7 vo ((toksU s.data.toList).map rtC) ∧ Below w.heap.size w w' := by
  obtain ⟨T, hT⟩ : ∃ T, T = flatL s.data.toList := ⟨_, rfl⟩
  obtain ⟨LN, hLN⟩ : ∃ LN, LN = (linesL s.data.toList).1 := ⟨_, rfl⟩
  have hTL : T = LN.flatMap fun l => l.toks.map (Tk.tm (bs [102])) := by rw [hT, hLN]; rfl
  have hTt : ∀ t ∈ T, t.text.size ≤ 5000 := fun t ht => Nat.le_trans (flatL_txt s.data.toList t (hT ▸ ht)) (by rw [sz_list]; omega)
  have hTn : T.length ≤ 5000 := by rw [hT]; exact Nat.le_trans (flatL_len _) (by rw [sz_list]; omega)
  obtain ⟨n, hn⟩ : ∃ n, n = LN.length := ⟨_, rfl⟩
  have hn2 : n ≤ 2000 := by rw [hn, hLN]; exact Nat.le_trans (linesL_lens _).2.1 (by rw [sz_list]; omega)
  have HLn := fun w => rLines_any (⟨#[102]⟩ : ByteArray) s (by omega) w
  simp only [← hLN] at HLn
  have hU : toksU s.data.toList = allL T := by rw [hT]; rfl
  rw [hU]
  clear hU hT hLN
  replace hTt := Lib.hid hTt
  replace hTL := Lib.hid hTL
  replace hn := Lib.hid hn.symm
  go_enter Tryz.func22, Tryz.ntmps22
  go_wp2_with fail
  refine (HLn _).mono ?_
  rintro e w1 ⟨vo, vd, lcs, rfl, ho, hls, hd, hb1⟩
  obtain ⟨ao, cap, rfl, hcap, hnil, hrow, _⟩ := ho.rown (n := n) (by rw [hls.len, hn.out])
  obtain ⟨dao, dcap, rfl, _, _, _, _⟩ := hd.rown (n := _) rfl
  clear ho hd HLn
  replace hls := Lib.hid hls
  replace hrow := Lib.hid hrow
  replace hb1 := Lib.hid hb1
  go_wp2_with fail
  go_loopg [5, 6] n (fun k v5 v6 wx => ∃ i : Nat, k = n - i ∧ i ≤ n ∧ v6 = .int .i64 i ∧ Hid (Own wx w1.heap.size 160 8 v5 (((LN.take i).flatMap (fun l => l.toks.map (Tk.tm (bs [102])))).map tmR)) ∧ Hid (Below w1.heap.size w1 wx))
  case atStart => exact ⟨0, rfl, Nat.zero_le _, rfl, Lib.hid (by simp; exact Own.nil _ _ _ _), Lib.hid (Below.refl _ _)⟩
  case round =>
    obtain ⟨i, hk, hi, rfl, hoT, hbT⟩ := hrel
    replace hk := hk.symm
    subst hk
    have hsB := hbT.out.size
    by_cases hin : i < n
    · have hin' : (i : Int) < n := by omega
      have g1 : IntKind.i64.wrap ((i : Int) + 1) = (i : Int) + 1 := IntWalk.i64_in _ (by omega)
      have f4 : Hid (n - (i + 1) < n - i) := Lib.hid (by omega)
      obtain ⟨l, hl⟩ : ∃ l, LN[i]? = some l := ⟨LN[i]'(by rw [hn.out]; exact hin), by simp⟩
      obtain ⟨c, hc, aL, cL, rfl, hcL, hrL⟩ := hls.out.nth i l hl
      obtain ⟨b, o, rfl, hat⟩ := (hrow.out.below hbT.out) (by intro h; rw [h] at hc; simp at hc)
      have c0 : wr.cell? ⟨b, o + i * 4, none⟩ = some (.slice aL l.toks.length cL) := hat.cell hc (j := 0) rfl
      have hr1 : Row w1 8 aL ((l.toks.map (Tk.tm (bs [102]))).map tmR) := fun hne => by
        obtain ⟨b', o', x, fz, rfl, _, _, h⟩ := hrL (by intro h; rw [h] at hne; simp at hne)
        exact ⟨b', o', rfl, by rw [tm_tk]; exact h⟩
      have hr2 := Lib.hid (hr1.below hbT.out)
      have hlen : (((LN.take i).flatMap (fun l => l.toks.map (Tk.tm (bs [102])))).map tmR).length + l.toks.length ≤ 1000000000 := by
        have h1 := flat_le LN (fun l => l.toks.map (Tk.tm (bs [102]))) (i + 1)
        rw [flat_take hl, ← hTL.out, List.length_append, List.length_map] at h1
        rw [List.length_map]
        omega
      replace hlen := Lib.hid hlen
      have hcL2 := Lib.hid hcL.2
      replace hl := Lib.hid hl
      clear hr1 hrL hat hc hcL
      go_wp2_with (at_builtin; first
        | (refine wpList_appendN E160 rfl rfl hoT.out rfl rfl (css2 := (l.toks.map (Tk.tm (bs [102]))).map tmR) (by simp) hcL2.out hr2.out (tm8 _) (tm1 _) hlen.out (by decide) hsB ?_; intro v0 wF hown hg; have hbF := bapp hbT.out hoT.out hg hsB))
      go_roundg (n - (i + 1))
      case measure => exact f4.out
      case rel => exact ⟨i + 1, rfl, by omega, by simp, Lib.hid (by rw [flat_take hl.out, List.map_append]; exact hown), Lib.hid hbF⟩
    · obtain rfl : i = n := by omega
      have hin' : ¬ (i : Int) < (i : Int) := by omega
      have hoT2 := hoT.out
      rw [List.take_of_length_le (by rw [hn.out]; exact Nat.le_refl _), ← hTL.out] at hoT2
      obtain ⟨a5, c5, rfl, _, _, hr5, _⟩ := hoT2.rown (n := T.length) (by rw [List.length_map])
      have HA := Lib.hid (rAll_any T a5 c5 T.length rfl (by omega) hTt.out wr hr5)
      clear hoT hoT2 hr5
      go_wp2_with fail
      refine HA.out.mono ?_
      rintro e w3 ⟨vo, vd, rfl, ho3, hb3⟩
      clear HA
      go_wp2_with fail
      go_ret
      exact ⟨_, rfl, ho3.mono (by have := hb1.out.size; omega), hb1.out.trans ((hbT.out.mono hb1.out.size).trans (hb3.mono (by have := hb1.out.size; omega)))⟩
set_option maxRecDepth 100000 in
set_option maxHeartbeats 4000000 in
theorem toks21_any (s : ByteArray) (hs : s.size ≤ 1900) (w : World) :
    Calls Tryz.prog 32 #[.string s] w fun e w' => ∃ vo, e = .returned vo ∧ Own w' w.heap.size 94 7 vo ((toksU s.data.toList).map rtC) ∧ Below w.heap.size w w' := by
  obtain ⟨T, hT⟩ : ∃ T, T = flatL s.data.toList := ⟨_, rfl⟩
  obtain ⟨LN, hLN⟩ : ∃ LN, LN = (linesL s.data.toList).1 := ⟨_, rfl⟩
  have hTL : T = LN.flatMap fun l => l.toks.map (Tk.tm (bs [102])) := by rw [hT, hLN]; rfl
  have hTt : ∀ t ∈ T, t.text.size ≤ 5000 := fun t ht => Nat.le_trans (flatL_txt s.data.toList t (hT ▸ ht)) (by rw [sz_list]; omega)
  have hTn : T.length ≤ 5000 := by rw [hT]; exact Nat.le_trans (flatL_len _) (by rw [sz_list]; omega)
  obtain ⟨n, hn⟩ : ∃ n, n = LN.length := ⟨_, rfl⟩
  have hn2 : n ≤ 2000 := by rw [hn, hLN]; exact Nat.le_trans (linesL_lens _).2.1 (by rw [sz_list]; omega)
  have HLn := fun w => rLines_any (⟨#[102]⟩ : ByteArray) s (by omega) w
  simp only [← hLN] at HLn
  have hU : toksU s.data.toList = allL T := by rw [hT]; rfl
  rw [hU]
  clear hU hT hLN
  replace hTt := Lib.hid hTt
  replace hTL := Lib.hid hTL
  replace hn := Lib.hid hn.symm
  go_enter Tryz.func32, Tryz.ntmps32
  go_wp2_with fail
  refine (HLn _).mono ?_
  rintro e w1 ⟨vo, vd, lcs, rfl, ho, hls, hd, hb1⟩
  obtain ⟨ao, cap, rfl, hcap, hnil, hrow, _⟩ := ho.rown (n := n) (by rw [hls.len, hn.out])
  obtain ⟨dao, dcap, rfl, _, _, _, _⟩ := hd.rown (n := _) rfl
  clear ho hd HLn
  replace hls := Lib.hid hls
  replace hrow := Lib.hid hrow
  replace hb1 := Lib.hid hb1
  go_wp2_with fail
  go_loopg [5, 6] n (fun k v5 v6 wx => ∃ i : Nat, k = n - i ∧ i ≤ n ∧ v6 = .int .i64 i ∧ Hid (Own wx w1.heap.size 160 8 v5 (((LN.take i).flatMap (fun l => l.toks.map (Tk.tm (bs [102])))).map tmR)) ∧ Hid (Below w1.heap.size w1 wx))
  case atStart => exact ⟨0, rfl, Nat.zero_le _, rfl, Lib.hid (by simp; exact Own.nil _ _ _ _), Lib.hid (Below.refl _ _)⟩
  case round =>
    obtain ⟨i, hk, hi, rfl, hoT, hbT⟩ := hrel
    replace hk := hk.symm
    subst hk
    have hsB := hbT.out.size
    by_cases hin : i < n
    · have hin' : (i : Int) < n := by omega
      have g1 : IntKind.i64.wrap ((i : Int) + 1) = (i : Int) + 1 := IntWalk.i64_in _ (by omega)
      have f4 : Hid (n - (i + 1) < n - i) := Lib.hid (by omega)
      obtain ⟨l, hl⟩ : ∃ l, LN[i]? = some l := ⟨LN[i]'(by rw [hn.out]; exact hin), by simp⟩
      obtain ⟨c, hc, aL, cL, rfl, hcL, hrL⟩ := hls.out.nth i l hl
      obtain ⟨b, o, rfl, hat⟩ := (hrow.out.below hbT.out) (by intro h; rw [h] at hc; simp at hc)
      have c0 : wr.cell? ⟨b, o + i * 4, none⟩ = some (.slice aL l.toks.length cL) := hat.cell hc (j := 0) rfl
      have hr1 : Row w1 8 aL ((l.toks.map (Tk.tm (bs [102]))).map tmR) := fun hne => by
        obtain ⟨b', o', x, fz, rfl, _, _, h⟩ := hrL (by intro h; rw [h] at hne; simp at hne)
        exact ⟨b', o', rfl, by rw [tm_tk]; exact h⟩
      have hr2 := Lib.hid (hr1.below hbT.out)
      have hlen : (((LN.take i).flatMap (fun l => l.toks.map (Tk.tm (bs [102])))).map tmR).length + l.toks.length ≤ 1000000000 := by
        have h1 := flat_le LN (fun l => l.toks.map (Tk.tm (bs [102]))) (i + 1)
        rw [flat_take hl, ← hTL.out, List.length_append, List.length_map] at h1
        rw [List.length_map]
        omega
      replace hlen := Lib.hid hlen
      have hcL2 := Lib.hid hcL.2
      replace hl := Lib.hid hl
      clear hr1 hrL hat hc hcL
      go_wp2_with (at_builtin; first
        | (refine wpList_appendN E160 rfl rfl hoT.out rfl rfl (css2 := (l.toks.map (Tk.tm (bs [102]))).map tmR) (by simp) hcL2.out hr2.out (tm8 _) (tm1 _) hlen.out (by decide) hsB ?_; intro v0 wF hown hg; have hbF := bapp hbT.out hoT.out hg hsB))
      go_roundg (n - (i + 1))
      case measure => exact f4.out
      case rel => exact ⟨i + 1, rfl, by omega, by simp, Lib.hid (by rw [flat_take hl.out, List.map_append]; exact hown), Lib.hid hbF⟩
    · obtain rfl : i = n := by omega
      have hin' : ¬ (i : Int) < (i : Int) := by omega
      have hoT2 := hoT.out
      rw [List.take_of_length_le (by rw [hn.out]; exact Nat.le_refl _), ← hTL.out] at hoT2
      obtain ⟨a5, c5, rfl, _, _, hr5, _⟩ := hoT2.rown (n := T.length) (by rw [List.length_map])
      have HA := Lib.hid (rAll_any T a5 c5 T.length rfl (by omega) hTt.out wr hr5)
      clear hoT hoT2 hr5
      go_wp2_with fail
      refine HA.out.mono ?_
      rintro e w3 ⟨vo, vd, rfl, ho3, hb3⟩
      clear HA
      go_wp2_with fail
      go_ret
      exact ⟨_, rfl, ho3.mono (by have := hb1.out.size; omega), hb1.out.trans ((hbT.out.mono hb1.out.size).trans (hb3.mono (by have := hb1.out.size; omega)))⟩
set_option maxRecDepth 100000 in
set_option maxHeartbeats 4000000 in
theorem toks22_any (s : ByteArray) (hs : s.size ≤ 1900) (w : World) :
    Calls Tryz.prog 45 #[.string s] w fun e w' => ∃ vo, e = .returned vo ∧ Own w' w.heap.size 94 7 vo ((toksU s.data.toList).map rtC) ∧ Below w.heap.size w w' := by
  obtain ⟨T, hT⟩ : ∃ T, T = flatL s.data.toList := ⟨_, rfl⟩
  obtain ⟨LN, hLN⟩ : ∃ LN, LN = (linesL s.data.toList).1 := ⟨_, rfl⟩
  have hTL : T = LN.flatMap fun l => l.toks.map (Tk.tm (bs [102])) := by rw [hT, hLN]; rfl
  have hTt : ∀ t ∈ T, t.text.size ≤ 5000 := fun t ht => Nat.le_trans (flatL_txt s.data.toList t (hT ▸ ht)) (by rw [sz_list]; omega)
  have hTn : T.length ≤ 5000 := by rw [hT]; exact Nat.le_trans (flatL_len _) (by rw [sz_list]; omega)
  obtain ⟨n, hn⟩ : ∃ n, n = LN.length := ⟨_, rfl⟩
  have hn2 : n ≤ 2000 := by rw [hn, hLN]; exact Nat.le_trans (linesL_lens _).2.1 (by rw [sz_list]; omega)
  have HLn := fun w => rLines_any (⟨#[102]⟩ : ByteArray) s (by omega) w
  simp only [← hLN] at HLn
  have hU : toksU s.data.toList = allL T := by rw [hT]; rfl
  rw [hU]
  clear hU hT hLN
  replace hTt := Lib.hid hTt
  replace hTL := Lib.hid hTL
  replace hn := Lib.hid hn.symm
  go_enter Tryz.func45, Tryz.ntmps45
  go_wp2_with fail
  refine (HLn _).mono ?_
  rintro e w1 ⟨vo, vd, lcs, rfl, ho, hls, hd, hb1⟩
  obtain ⟨ao, cap, rfl, hcap, hnil, hrow, _⟩ := ho.rown (n := n) (by rw [hls.len, hn.out])
  obtain ⟨dao, dcap, rfl, _, _, _, _⟩ := hd.rown (n := _) rfl
  clear ho hd HLn
  replace hls := Lib.hid hls
  replace hrow := Lib.hid hrow
  replace hb1 := Lib.hid hb1
  go_wp2_with fail
  go_loopg [5, 6] n (fun k v5 v6 wx => ∃ i : Nat, k = n - i ∧ i ≤ n ∧ v6 = .int .i64 i ∧ Hid (Own wx w1.heap.size 160 8 v5 (((LN.take i).flatMap (fun l => l.toks.map (Tk.tm (bs [102])))).map tmR)) ∧ Hid (Below w1.heap.size w1 wx))
  case atStart => exact ⟨0, rfl, Nat.zero_le _, rfl, Lib.hid (by simp; exact Own.nil _ _ _ _), Lib.hid (Below.refl _ _)⟩
  case round =>
    obtain ⟨i, hk, hi, rfl, hoT, hbT⟩ := hrel
    replace hk := hk.symm
    subst hk
    have hsB := hbT.out.size
    by_cases hin : i < n
    · have hin' : (i : Int) < n := by omega
      have g1 : IntKind.i64.wrap ((i : Int) + 1) = (i : Int) + 1 := IntWalk.i64_in _ (by omega)
      have f4 : Hid (n - (i + 1) < n - i) := Lib.hid (by omega)
      obtain ⟨l, hl⟩ : ∃ l, LN[i]? = some l := ⟨LN[i]'(by rw [hn.out]; exact hin), by simp⟩
      obtain ⟨c, hc, aL, cL, rfl, hcL, hrL⟩ := hls.out.nth i l hl
      obtain ⟨b, o, rfl, hat⟩ := (hrow.out.below hbT.out) (by intro h; rw [h] at hc; simp at hc)
      have c0 : wr.cell? ⟨b, o + i * 4, none⟩ = some (.slice aL l.toks.length cL) := hat.cell hc (j := 0) rfl
      have hr1 : Row w1 8 aL ((l.toks.map (Tk.tm (bs [102]))).map tmR) := fun hne => by
        obtain ⟨b', o', x, fz, rfl, _, _, h⟩ := hrL (by intro h; rw [h] at hne; simp at hne)
        exact ⟨b', o', rfl, by rw [tm_tk]; exact h⟩
      have hr2 := Lib.hid (hr1.below hbT.out)
      have hlen : (((LN.take i).flatMap (fun l => l.toks.map (Tk.tm (bs [102])))).map tmR).length + l.toks.length ≤ 1000000000 := by
        have h1 := flat_le LN (fun l => l.toks.map (Tk.tm (bs [102]))) (i + 1)
        rw [flat_take hl, ← hTL.out, List.length_append, List.length_map] at h1
        rw [List.length_map]
        omega
      replace hlen := Lib.hid hlen
      have hcL2 := Lib.hid hcL.2
      replace hl := Lib.hid hl
      clear hr1 hrL hat hc hcL
      go_wp2_with (at_builtin; first
        | (refine wpList_appendN E160 rfl rfl hoT.out rfl rfl (css2 := (l.toks.map (Tk.tm (bs [102]))).map tmR) (by simp) hcL2.out hr2.out (tm8 _) (tm1 _) hlen.out (by decide) hsB ?_; intro v0 wF hown hg; have hbF := bapp hbT.out hoT.out hg hsB))
      go_roundg (n - (i + 1))
      case measure => exact f4.out
      case rel => exact ⟨i + 1, rfl, by omega, by simp, Lib.hid (by rw [flat_take hl.out, List.map_append]; exact hown), Lib.hid hbF⟩
    · obtain rfl : i = n := by omega
      have hin' : ¬ (i : Int) < (i : Int) := by omega
      have hoT2 := hoT.out
      rw [List.take_of_length_le (by rw [hn.out]; exact Nat.le_refl _), ← hTL.out] at hoT2
      obtain ⟨a5, c5, rfl, _, _, hr5, _⟩ := hoT2.rown (n := T.length) (by rw [List.length_map])
      have HA := Lib.hid (rAll_any T a5 c5 T.length rfl (by omega) hTt.out wr hr5)
      clear hoT hoT2 hr5
      go_wp2_with fail
      refine HA.out.mono ?_
      rintro e w3 ⟨vo, vd, rfl, ho3, hb3⟩
      clear HA
      go_wp2_with fail
      go_ret
      exact ⟨_, rfl, ho3.mono (by have := hb1.out.size; omega), hb1.out.trans ((hbT.out.mono hb1.out.size).trans (hb3.mono (by have := hb1.out.size; omega)))⟩
end Go.Proofs.YtllbbacnakoomaaGreatDoor

/- laws 20, 21, 22: a program's tokens as convert's. -/
namespace Go.Proofs.YtllbbacnakoomaaGreatDoor
open Go.RowKit
set_option linter.unusedVariables false
theorem Em95 : EI Tryz.prog 39 95 (.agg #[.int .i64 0, .string ⟨#[]⟩, .string ⟨#[]⟩, .int .i64 0, .int .i64 0, .int .i64 0, .int .i64 0]) 7 72 := ⟨Tryz.underlying39, by kernel_rfl, rfl, by decide⟩
set_option maxRecDepth 100000 in
set_option maxHeartbeats 4000000 in
theorem made20_any (L : List Ct) (ao : Option Addr) (cap n : Nat) (hLn : L.length = n) (hn : n ≤ 10000) (w : World) (hrow : Row w 7 ao (L.map rtC)) :
    Calls Tryz.prog 23 #[.slice ao n cap] w fun e w' => ∃ vo, e = .returned vo ∧ Own w' w.heap.size 95 7 vo (L.map rtC) ∧ Below w.heap.size w w' := by
  replace hLn := Lib.hid hLn
  replace hrow := Lib.hid hrow
  have hb0 : Hid (Below w.heap.size w w) := Lib.hid (Below.refl _ _)
  go_enter Tryz.func23, Tryz.ntmps23
  go_wp2_with fail
  go_loopg [3, 4, 5] n (fun k v3 v4 v5 wx => ∃ i : Nat, k = n - i ∧ i ≤ n ∧ v4 = .int .i64 i ∧ Hid (Own wx w.heap.size 95 7 v3 ((L.take i).map rtC)) ∧ Hid (Below w.heap.size w wx))
  case atStart => exact ⟨0, rfl, Nat.zero_le _, rfl, Lib.hid (Own.nil _ _ _ _), hb0⟩
  case round =>
    clear hb0
    obtain ⟨i, hk, hi, rfl, ho, hb⟩ := hrel
    replace hk := hk.symm
    subst hk
    have hsB := hb.out.size
    by_cases hin : i < n
    · have hin' : (i : Int) < n := by omega
      have g1 : IntKind.i64.wrap ((i : Int) + 1) = (i : Int) + 1 := IntWalk.i64_in _ (by omega)
      have f4 : Hid (n - (i + 1) < n - i) := Lib.hid (by omega)
      obtain ⟨x, hx⟩ : ∃ x, L[i]? = some x := ⟨L[i]'(by rw [hLn.out]; exact hin), by simp⟩
      have hc : (L.map rtC)[i]? = some (rtC x) := by rw [List.getElem?_map, hx]; rfl
      obtain ⟨b, o, rfl, hat⟩ := (hrow.out.below hb.out) (by intro h; rw [h] at hc; simp at hc)
      have c0 : wr.cell? ⟨b, o + i * 7, none⟩ = some (.int .i64 x.kind) := hat.cell hc (j := 0) rfl
      have c1 : wr.cell? ⟨b, o + i * 7 + 1, none⟩ = some (.string x.text) := hat.cell hc (j := 1) rfl
      have c2 : wr.cell? ⟨b, o + i * 7 + 2, none⟩ = some (.string x.file) := hat.cell hc (j := 2) rfl
      have c3 : wr.cell? ⟨b, o + i * 7 + 3, none⟩ = some (.int .i64 x.f) := hat.cell hc (j := 3) rfl
      have c4 : wr.cell? ⟨b, o + i * 7 + 4, none⟩ = some (.int .i64 x.t) := hat.cell hc (j := 4) rfl
      have c5 : wr.cell? ⟨b, o + i * 7 + 5, none⟩ = some (.int .i64 x.fro) := hat.cell hc (j := 5) rfl
      have c6 : wr.cell? ⟨b, o + i * 7 + 6, none⟩ = some (.int .i64 x.cnt) := hat.cell hc (j := 6) rfl
      obtain ⟨W, hW⟩ : ∃ W, W = wr.alloc (rtO x) := ⟨_, rfl⟩
      have hbW : Below wr.heap.size wr W := by rw [hW]; exact (Below.refl _ _).alloc (Nat.le_refl _) _
      have hT : W.heap[wr.heap.size]? = some (rtO x) := by rw [hW]; exact heap_alloc_new _ _
      obtain ⟨x0, x1, x2, x3, x4, x5, x6, _⟩ := rt_box hT
      have hbY := hb.out.trans (hbW.mono hsB)
      have hoY := ho.out.below hbW
      have hsY := hbY.size
      have hlen : ((L.take i).map rtC).length + 1 ≤ 1000000000 := by rw [List.length_map, List.length_take]; omega
      replace hlen := Lib.hid hlen
      replace hx := Lib.hid hx
      replace hbW := Lib.hid hbW
      clear hT hat hc
      go_upto_region 6 with fail
      rw [← hW]
      replace hW := Lib.hid hW
      go_wp2_with (at_builtin; first
        | (refine wpList_append1 Em95 rfl rfl hoY rfl rfl (news := rtC x) (by simp) rfl (by intro u hu; simp at hu; rcases hu with rfl | rfl | rfl | rfl | rfl | rfl | rfl <;> rfl) (by have := hlen.out; omega) (by decide) hsY ?_; intro v0 wF hown hg; have hbF := bapp hbY hoY hg hsY))
      go_roundg (n - (i + 1))
      case measure => exact f4.out
      case rel => exact ⟨i + 1, rfl, by omega, by simp, Lib.hid (by rw [List.take_add_one, hx.out, List.map_append]; exact hown), Lib.hid hbF⟩
    · obtain rfl : i = n := by omega
      have hin' : ¬ (i : Int) < (i : Int) := by omega
      have ho2 := ho.out
      rw [List.take_of_length_le (by rw [hLn.out]; exact Nat.le_refl _)] at ho2
      go_wp2_with fail
      go_ret
      exact ⟨_, rfl, ho2, hb.out⟩
set_option maxRecDepth 100000 in
set_option maxHeartbeats 4000000 in
theorem made21_any (L : List Ct) (ao : Option Addr) (cap n : Nat) (hLn : L.length = n) (hn : n ≤ 10000) (w : World) (hrow : Row w 7 ao (L.map rtC)) :
    Calls Tryz.prog 35 #[.slice ao n cap] w fun e w' => ∃ vo, e = .returned vo ∧ Own w' w.heap.size 95 7 vo (L.map rtC) ∧ Below w.heap.size w w' := by
  replace hLn := Lib.hid hLn
  replace hrow := Lib.hid hrow
  have hb0 : Hid (Below w.heap.size w w) := Lib.hid (Below.refl _ _)
  go_enter Tryz.func35, Tryz.ntmps35
  go_wp2_with fail
  go_loopg [3, 4, 5] n (fun k v3 v4 v5 wx => ∃ i : Nat, k = n - i ∧ i ≤ n ∧ v4 = .int .i64 i ∧ Hid (Own wx w.heap.size 95 7 v3 ((L.take i).map rtC)) ∧ Hid (Below w.heap.size w wx))
  case atStart => exact ⟨0, rfl, Nat.zero_le _, rfl, Lib.hid (Own.nil _ _ _ _), hb0⟩
  case round =>
    clear hb0
    obtain ⟨i, hk, hi, rfl, ho, hb⟩ := hrel
    replace hk := hk.symm
    subst hk
    have hsB := hb.out.size
    by_cases hin : i < n
    · have hin' : (i : Int) < n := by omega
      have g1 : IntKind.i64.wrap ((i : Int) + 1) = (i : Int) + 1 := IntWalk.i64_in _ (by omega)
      have f4 : Hid (n - (i + 1) < n - i) := Lib.hid (by omega)
      obtain ⟨x, hx⟩ : ∃ x, L[i]? = some x := ⟨L[i]'(by rw [hLn.out]; exact hin), by simp⟩
      have hc : (L.map rtC)[i]? = some (rtC x) := by rw [List.getElem?_map, hx]; rfl
      obtain ⟨b, o, rfl, hat⟩ := (hrow.out.below hb.out) (by intro h; rw [h] at hc; simp at hc)
      have c0 : wr.cell? ⟨b, o + i * 7, none⟩ = some (.int .i64 x.kind) := hat.cell hc (j := 0) rfl
      have c1 : wr.cell? ⟨b, o + i * 7 + 1, none⟩ = some (.string x.text) := hat.cell hc (j := 1) rfl
      have c2 : wr.cell? ⟨b, o + i * 7 + 2, none⟩ = some (.string x.file) := hat.cell hc (j := 2) rfl
      have c3 : wr.cell? ⟨b, o + i * 7 + 3, none⟩ = some (.int .i64 x.f) := hat.cell hc (j := 3) rfl
      have c4 : wr.cell? ⟨b, o + i * 7 + 4, none⟩ = some (.int .i64 x.t) := hat.cell hc (j := 4) rfl
      have c5 : wr.cell? ⟨b, o + i * 7 + 5, none⟩ = some (.int .i64 x.fro) := hat.cell hc (j := 5) rfl
      have c6 : wr.cell? ⟨b, o + i * 7 + 6, none⟩ = some (.int .i64 x.cnt) := hat.cell hc (j := 6) rfl
      obtain ⟨W, hW⟩ : ∃ W, W = wr.alloc (rtO x) := ⟨_, rfl⟩
      have hbW : Below wr.heap.size wr W := by rw [hW]; exact (Below.refl _ _).alloc (Nat.le_refl _) _
      have hT : W.heap[wr.heap.size]? = some (rtO x) := by rw [hW]; exact heap_alloc_new _ _
      obtain ⟨x0, x1, x2, x3, x4, x5, x6, _⟩ := rt_box hT
      have hbY := hb.out.trans (hbW.mono hsB)
      have hoY := ho.out.below hbW
      have hsY := hbY.size
      have hlen : ((L.take i).map rtC).length + 1 ≤ 1000000000 := by rw [List.length_map, List.length_take]; omega
      replace hlen := Lib.hid hlen
      replace hx := Lib.hid hx
      replace hbW := Lib.hid hbW
      clear hT hat hc
      go_upto_region 6 with fail
      rw [← hW]
      replace hW := Lib.hid hW
      go_wp2_with (at_builtin; first
        | (refine wpList_append1 Em95 rfl rfl hoY rfl rfl (news := rtC x) (by simp) rfl (by intro u hu; simp at hu; rcases hu with rfl | rfl | rfl | rfl | rfl | rfl | rfl <;> rfl) (by have := hlen.out; omega) (by decide) hsY ?_; intro v0 wF hown hg; have hbF := bapp hbY hoY hg hsY))
      go_roundg (n - (i + 1))
      case measure => exact f4.out
      case rel => exact ⟨i + 1, rfl, by omega, by simp, Lib.hid (by rw [List.take_add_one, hx.out, List.map_append]; exact hown), Lib.hid hbF⟩
    · obtain rfl : i = n := by omega
      have hin' : ¬ (i : Int) < (i : Int) := by omega
      have ho2 := ho.out
      rw [List.take_of_length_le (by rw [hLn.out]; exact Nat.le_refl _)] at ho2
      go_wp2_with fail
      go_ret
      exact ⟨_, rfl, ho2, hb.out⟩
set_option maxRecDepth 100000 in
set_option maxHeartbeats 4000000 in
theorem made22_any (L : List Ct) (ao : Option Addr) (cap n : Nat) (hLn : L.length = n) (hn : n ≤ 10000) (w : World) (hrow : Row w 7 ao (L.map rtC)) :
    Calls Tryz.prog 47 #[.slice ao n cap] w fun e w' => ∃ vo, e = .returned vo ∧ Own w' w.heap.size 95 7 vo (L.map rtC) ∧ Below w.heap.size w w' := by
  replace hLn := Lib.hid hLn
  replace hrow := Lib.hid hrow
  have hb0 : Hid (Below w.heap.size w w) := Lib.hid (Below.refl _ _)
  go_enter Tryz.func47, Tryz.ntmps47
  go_wp2_with fail
  go_loopg [3, 4, 5] n (fun k v3 v4 v5 wx => ∃ i : Nat, k = n - i ∧ i ≤ n ∧ v4 = .int .i64 i ∧ Hid (Own wx w.heap.size 95 7 v3 ((L.take i).map rtC)) ∧ Hid (Below w.heap.size w wx))
  case atStart => exact ⟨0, rfl, Nat.zero_le _, rfl, Lib.hid (Own.nil _ _ _ _), hb0⟩
  case round =>
    clear hb0
    obtain ⟨i, hk, hi, rfl, ho, hb⟩ := hrel
    replace hk := hk.symm
    subst hk
    have hsB := hb.out.size
    by_cases hin : i < n
    · have hin' : (i : Int) < n := by omega
      have g1 : IntKind.i64.wrap ((i : Int) + 1) = (i : Int) + 1 := IntWalk.i64_in _ (by omega)
      have f4 : Hid (n - (i + 1) < n - i) := Lib.hid (by omega)
      obtain ⟨x, hx⟩ : ∃ x, L[i]? = some x := ⟨L[i]'(by rw [hLn.out]; exact hin), by simp⟩
      have hc : (L.map rtC)[i]? = some (rtC x) := by rw [List.getElem?_map, hx]; rfl
      obtain ⟨b, o, rfl, hat⟩ := (hrow.out.below hb.out) (by intro h; rw [h] at hc; simp at hc)
      have c0 : wr.cell? ⟨b, o + i * 7, none⟩ = some (.int .i64 x.kind) := hat.cell hc (j := 0) rfl
      have c1 : wr.cell? ⟨b, o + i * 7 + 1, none⟩ = some (.string x.text) := hat.cell hc (j := 1) rfl
      have c2 : wr.cell? ⟨b, o + i * 7 + 2, none⟩ = some (.string x.file) := hat.cell hc (j := 2) rfl
      have c3 : wr.cell? ⟨b, o + i * 7 + 3, none⟩ = some (.int .i64 x.f) := hat.cell hc (j := 3) rfl
      have c4 : wr.cell? ⟨b, o + i * 7 + 4, none⟩ = some (.int .i64 x.t) := hat.cell hc (j := 4) rfl
      have c5 : wr.cell? ⟨b, o + i * 7 + 5, none⟩ = some (.int .i64 x.fro) := hat.cell hc (j := 5) rfl
      have c6 : wr.cell? ⟨b, o + i * 7 + 6, none⟩ = some (.int .i64 x.cnt) := hat.cell hc (j := 6) rfl
      obtain ⟨W, hW⟩ : ∃ W, W = wr.alloc (rtO x) := ⟨_, rfl⟩
      have hbW : Below wr.heap.size wr W := by rw [hW]; exact (Below.refl _ _).alloc (Nat.le_refl _) _
      have hT : W.heap[wr.heap.size]? = some (rtO x) := by rw [hW]; exact heap_alloc_new _ _
      obtain ⟨x0, x1, x2, x3, x4, x5, x6, _⟩ := rt_box hT
      have hbY := hb.out.trans (hbW.mono hsB)
      have hoY := ho.out.below hbW
      have hsY := hbY.size
      have hlen : ((L.take i).map rtC).length + 1 ≤ 1000000000 := by rw [List.length_map, List.length_take]; omega
      replace hlen := Lib.hid hlen
      replace hx := Lib.hid hx
      replace hbW := Lib.hid hbW
      clear hT hat hc
      go_upto_region 6 with fail
      rw [← hW]
      replace hW := Lib.hid hW
      go_wp2_with (at_builtin; first
        | (refine wpList_append1 Em95 rfl rfl hoY rfl rfl (news := rtC x) (by simp) rfl (by intro u hu; simp at hu; rcases hu with rfl | rfl | rfl | rfl | rfl | rfl | rfl <;> rfl) (by have := hlen.out; omega) (by decide) hsY ?_; intro v0 wF hown hg; have hbF := bapp hbY hoY hg hsY))
      go_roundg (n - (i + 1))
      case measure => exact f4.out
      case rel => exact ⟨i + 1, rfl, by omega, by simp, Lib.hid (by rw [List.take_add_one, hx.out, List.map_append]; exact hown), Lib.hid hbF⟩
    · obtain rfl : i = n := by omega
      have hin' : ¬ (i : Int) < (i : Int) := by omega
      have ho2 := ho.out
      rw [List.take_of_length_le (by rw [hLn.out]; exact Nat.le_refl _)] at ho2
      go_wp2_with fail
      go_ret
      exact ⟨_, rfl, ho2, hb.out⟩
end Go.Proofs.YtllbbacnakoomaaGreatDoor
