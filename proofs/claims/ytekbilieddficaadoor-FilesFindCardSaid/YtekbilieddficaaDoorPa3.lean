/- Paths: Dir (the program's and the document's), and the document's Parts. -/
import Derived.Test.YtekbilieddficaaDoorPa2
namespace Go.Proofs.YtekbilieddficaaDoor
open Go.RowKit
set_option linter.unusedVariables false

theorem E9 : EI Tryd.prog 22 9 (.string ⟨#[]⟩) 1 16 := ⟨Tryd.underlying22, by kernel_rfl, rfl, by decide⟩

theorem ext_take (s : ByteArray) (k : Nat) : (s.extract 0 k).data.toList = s.data.toList.take k := by
  rw [Lib.extract_data]; simp

theorem str_cell {w : World} {b o k : Nat} {ws : List ByteArray} {s : ByteArray} (hat : RowAt w 1 b o (ws.map fun p => [.string p])) (hk : ws[k]? = some s) : w.cell? ⟨b, o + k, none⟩ = some (.string s) := by
  have := hat.cell (i := k) (cs := [.string s]) (by simp [hk]) (j := 0) (u := .string s) rfl
  simpa using this

set_option maxRecDepth 100000 in
set_option maxHeartbeats 4000000 in
theorem dir_any (s : ByteArray) (hs : s.size ≤ 1000000) (w : World) : Calls Tryd.prog 34 #[.string s] w fun e w' => (∃ r : ByteArray, e = .returned (.string r) ∧ DirOf s.data.toList r.data.toList) ∧ w' = w := by
  have HL := Lib.hid (lastIndex_any s hs w)
  have HS : Hid (s.size = s.data.toList.length) := Lib.hid (Lib.size_eq s)
  go_enter Tryd.func34, Tryd.ntmps34
  go_wp2_with fail
  refine HL.out.mono ?_
  rintro e w' ⟨⟨r, rfl, hr⟩, hw'⟩
  replace hw' := hw'.symm
  subst hw'
  have hd := slashL_dir hr
  rw [← ext_take] at hd
  have h1 : r ≤ (s.size : Int) := by
    rcases hr with ⟨k, rfl, h, _⟩ | ⟨rfl, _⟩
    · have : k < s.data.toList.length := (List.getElem?_eq_some_iff.1 h).1
      rw [HS.out]; omega
    · omega
  have h2 : r ≤ 9223372036854775807 := by omega
  replace hd := Lib.hid hd
  by_cases h0 : 0 ≤ r
  · have h3 : max r 0 = r := by omega
    rw [h3] at hd
    obtain ⟨k, rfl⟩ : ∃ k : Nat, r = k := ⟨r.toNat, by omega⟩
    rw [Int.toNat_natCast] at hd
    have h4 : k ≤ s.size := by omega
    clear hr h3
    go_wp2
    go_ret
    exact ⟨⟨_, rfl, hd.out⟩, rfl⟩
  · have h3 : max r 0 = 0 := by omega
    have h0' : r < 0 := by omega
    rw [h3] at hd
    have he : s.extract 0 (Int.toNat 0) = ByteArray.empty := ext_toList (by rw [ext_take]; rfl)
    rw [he] at hd
    clear hr he
    go_wp2
    go_ret
    exact ⟨⟨_, rfl, hd.out⟩, rfl⟩

set_option maxRecDepth 100000 in
set_option maxHeartbeats 4000000 in
theorem rdir_any (s : ByteArray) (hs : s.size ≤ 1000000) (w : World) : Calls Tryd.prog 36 #[.string s] w fun e w' => (∃ r : ByteArray, e = .returned (.string r) ∧ DirOf s.data.toList r.data.toList) ∧ w' = w := by
  have HS : Hid (s.size = s.data.toList.length) := Lib.hid (Lib.size_eq s)
  go_enter Tryd.func36, Tryd.ntmps36
  go_wp2_with fail
  go_loopg [3] s.size (fun u v wr => ∃ k : Nat, k = u ∧ k ≤ s.size ∧ v = .int .i64 ((k : Int) - 1) ∧ wr = w ∧ Hid (∀ j : Nat, k ≤ j → s.data.toList[j]? ≠ some 47))
  case atStart => exact ⟨s.size, rfl, Nat.le_refl _, by first | rfl | go_num, rfl, Lib.hid (by intro j hj e; rw [List.getElem?_eq_none (by rw [← HS.out]; omega)] at e; cases e)⟩
  case round =>
    obtain ⟨k, rfl, hk, rfl, hwr, hno⟩ := hrel
    replace hwr := hwr.symm
    subst hwr
    cases k with
    | zero =>
      have f0 : ¬ (0 : Int) ≤ ((0 : Nat) : Int) - 1 := by omega
      go_wp2
      go_ret
      refine ⟨⟨_, rfl, .inr ⟨?_, rfl⟩⟩, rfl⟩
      intro c hc e
      subst e
      obtain ⟨j, hj, hjc⟩ := List.mem_iff_getElem.1 hc
      exact hno.out j (Nat.zero_le _) (by rw [List.getElem?_eq_getElem hj, hjc])
    | succ k =>
      have e0 : ((k + 1 : Nat) : Int) - 1 = (k : Int) := by omega
      rw [e0]
      have hks : k < s.size := by omega
      have f1 : (k : Int) < (s.size : Int) := by omega
      have hb := get_byte hks
      have x47 := u8_is (c := s[k]'hks) (n := 47) (by decide)
      cases h47 : (((s[k]'hks).toNat : Int) == 47) with
      | true =>
        have h1 : s.data.toList[k]? = some 47 := by rw [hb]; rw [show ((47 : Nat) : Int) = 47 from rfl, h47] at x47; rw [of_decide_eq_true x47.symm]; rfl
        have h2 := Lib.hid h1
        have f2 : (k : Int) ≤ (s.size : Int) := by omega
        clear h1 hb x47
        go_wp2
        go_ret
        exact ⟨⟨_, rfl, .inl ⟨k, h2.out, fun j hj => hno.out j hj, ext_take s k⟩⟩, rfl⟩
      | false =>
        have h1 : ∀ j : Nat, k ≤ j → s.data.toList[j]? ≠ some 47 := by
          intro j hj
          by_cases h : j = k
          · subst h
            rw [hb]
            intro e
            rw [show ((47 : Nat) : Int) = 47 from rfl, h47] at x47
            exact of_decide_eq_false x47.symm (Option.some.inj e)
          · exact hno.out j (by omega)
        have h2 := Lib.hid h1
        clear h1 hb x47 hno
        go_wp2_with fail
        go_roundg k
        case measure => omega
        case rel => exact ⟨k, rfl, by omega, by first | rfl | go_num, rfl, h2⟩

/-- texts as lists -/
def txs (ps : List ByteArray) : List (List UInt8) := ps.map fun p => p.data.toList
/-- a list of texts as cells -/
def strs (ps : List ByteArray) : List (List Value) := ps.map fun p => [.string p]

/-- the parts so far -/
structure PartsAt (s : List UInt8) (i f : Nat) (ps : List (List UInt8)) : Prop where
  le : f ≤ i
  on : i ≤ s.length → partsL s = ps ++ partsL (s.drop f)
  no : ∀ j c, f ≤ j → j < i → s[j]? = some c → c ≠ 47
  done : s.length < i → ps = partsL s
  len : ps.length ≤ i

theorem PartsAt.zero (s : List UInt8) : PartsAt s 0 0 [] := ⟨Nat.le_refl _, fun _ => rfl, by intro j c _ h; omega, by intro h; omega, Nat.le_refl _⟩

theorem drop_none {s : List UInt8} {f i : Nat} (hf : f ≤ i) (hi : i ≤ s.length) (hno : ∀ j c, f ≤ j → j < i → s[j]? = some c → c ≠ 47) : ∀ c ∈ (s.drop f).take (i - f), c ≠ 47 := by
  intro c hc
  obtain ⟨j, hj, hjc⟩ := List.mem_iff_getElem.1 hc
  rw [List.length_take, List.length_drop] at hj
  refine hno (f + j) c (by omega) (by omega) ?_
  rw [← hjc, List.getElem_take, List.getElem_drop, List.getElem?_eq_getElem]

theorem PartsAt.slash {s : List UInt8} {i f : Nat} {ps : List (List UInt8)} (h : PartsAt s i f ps) (hc : s[i]? = some 47) : PartsAt s (i + 1) (i + 1) (ps ++ [(s.drop f).take (i - f)]) := by
  have hi : i < s.length := (List.getElem?_eq_some_iff.1 hc).1
  refine ⟨Nat.le_refl _, fun _ => ?_, by intro j c h1 h2; omega, by intro h; omega, by rw [List.length_append]; have := h.len; simp; omega⟩
  have hsplit : s.drop f = (s.drop f).take (i - f) ++ 47 :: s.drop (i + 1) := by
    have h2 : (s.drop f).drop (i - f) = 47 :: s.drop (i + 1) := by
      rw [List.drop_drop, show f + (i - f) = i from by have := h.le; omega, List.drop_eq_getElem_cons hi]
      have : s[i] = 47 := by rw [List.getElem?_eq_getElem hi] at hc; exact Option.some.inj hc
      rw [this]
    rw [← h2, List.take_append_drop]
  rw [h.on (by omega)]
  conv => lhs; rw [hsplit]
  rw [partsL_app, partsL_one (drop_none h.le (by omega) h.no)]
  simp

theorem PartsAt.step {s : List UInt8} {i f : Nat} {ps : List (List UInt8)} (h : PartsAt s i f ps) {c : UInt8} (hc : s[i]? = some c) (h47 : c ≠ 47) : PartsAt s (i + 1) f ps := by
  have hi : i < s.length := (List.getElem?_eq_some_iff.1 hc).1
  refine ⟨by have := h.le; omega, fun _ => h.on (by omega), ?_, by intro h; omega, by have := h.len; omega⟩
  intro j d h1 h2 hd
  by_cases e : j = i
  · subst e; rw [hc] at hd; cases hd; exact h47
  · exact h.no j d h1 (by omega) hd

theorem PartsAt.last {s : List UInt8} {f : Nat} {ps : List (List UInt8)} (h : PartsAt s s.length f ps) : PartsAt s (s.length + 1) (s.length + 1) (ps ++ [(s.drop f).take (s.length - f)]) := by
  refine ⟨Nat.le_refl _, by intro h; omega, by intro j c h1 h2; omega, ?_, by rw [List.length_append]; have := h.len; simp; omega⟩
  intro _
  rw [h.on (Nat.le_refl _)]
  have h1 := drop_none h.le (Nat.le_refl _) h.no
  have h2 : (s.drop f).take (s.length - f) = s.drop f := List.take_of_length_le (by simp)
  rw [h2] at h1 ⊢
  rw [partsL_one h1]

set_option maxRecDepth 100000 in
set_option maxHeartbeats 4000000 in
theorem parts_any (s : ByteArray) (hs : s.size ≤ 1000000) (w : World) : Calls Tryd.prog 48 #[.string s] w fun e w' => (∃ v ps, e = .returned v ∧ Own w' w.heap.size 9 1 v (strs ps) ∧ txs ps = partsL s.data.toList) ∧ Below w.heap.size w w' := by
  have HS : Hid (s.data.toList.length = s.size) := Lib.hid (Lib.size_eq s).symm
  go_enter Tryd.func48, Tryd.ntmps48
  go_wp2_with fail
  go_loopg [3, 4, 5] (s.size + 1) (fun u v3 v4 v5 wr => ∃ (i f : Nat) (ps : List ByteArray), u = s.size + 1 - i ∧ i ≤ s.size + 1 ∧ v5 = .int .i64 i ∧ v4 = .int .i64 f ∧ f ≤ i ∧ Own wr w.heap.size 9 1 v3 (strs ps) ∧ Below w.heap.size w wr ∧ Hid (PartsAt s.data.toList i f (txs ps)))
  case atStart => exact ⟨0, 0, [], rfl, Nat.zero_le _, rfl, rfl, Nat.le_refl _, Own.nil _ _ _ _, Below.refl _ _, Lib.hid (PartsAt.zero _)⟩
  case round =>
    obtain ⟨i, f, ps, rfl, hi, rfl, rfl, hfi, hown, hb, hP⟩ := hrel
    have hlen : (strs ps).length + 1 ≤ 1000000000 := by
      have := hP.out.len
      unfold strs txs at *
      rw [List.length_map] at *
      omega
    by_cases hin : i ≤ s.size
    · have f1 : (i : Int) ≤ (s.size : Int) := by omega
      have f2 : (f : Int) ≤ (i : Int) := by omega
      have hnew : Hid (∀ r, r = s.extract f i → txs ps ++ [(s.data.toList.drop f).take (i - f)] = txs (ps ++ [r])) := Lib.hid (by
        rintro r rfl
        unfold txs
        rw [List.map_append, List.map_cons, List.map_nil, Lib.extract_data])
      by_cases hend : i = s.size
      · obtain ⟨n, hn⟩ : ∃ n, n = s.size := ⟨_, rfl⟩
        have f4 : ((i : Int) == (s.size : Int)) = true := by simp [hend]
        have hP2 : Hid (∀ r, r = s.extract f i → PartsAt s.data.toList (i + 1) (i + 1) (txs (ps ++ [r]))) := Lib.hid (by
          intro r hr
          rw [← hnew.out r hr]
          have h1 := hP.out
          rw [hend, ← HS.out] at h1 ⊢
          exact h1.last)
        have hm : Hid (s.size + 1 - (i + 1) < s.size + 1 - i ∧ i + 1 ≤ s.size + 1) := Lib.hid (by omega)
        clear hnew hP hend hn
        go_wp2_with (at_builtin; go_must (refine wpList_append1 E9 rfl rfl hown rfl rfl (news := [.string (s.extract f i)]) (by simp) rfl (by simp [Value.oneCell']) hlen (by decide) hb.size ?_); intro v9 w9 hown9 hg9)
        have hb9 := bapp hb hown hg9 hb.size
        have hown9' : Own w9 w.heap.size 9 1 v9 (strs (ps ++ [s.extract f i])) := by unfold strs at *; rw [List.map_append]; exact hown9
        have hP3 := Lib.hid (hP2.out _ rfl)
        clear hown9 hown hP2
        go_wp2_with fail
        go_roundg (s.size + 1 - (i + 1))
        case measure => exact hm.out.1
        case rel => exact ⟨i + 1, i + 1, _, rfl, hm.out.2, by go_num, by go_num, Nat.le_refl _, hown9', hb9, hP3⟩
      · have hlt : i < s.size := by omega
        have f3 : (i : Int) < (s.size : Int) := by omega
        have f4 : ((i : Int) == (s.size : Int)) = false := by simp; omega
        have hbt := get_byte hlt
        have x47 := u8_is (c := s[i]'hlt) (n := 47) (by decide)
        have hm : Hid (s.size + 1 - (i + 1) < s.size + 1 - i ∧ i + 1 ≤ s.size + 1) := Lib.hid (by omega)
        cases h47 : (((s[i]'hlt).toNat : Int) == 47) with
        | true =>
          have hP2 : Hid (∀ r, r = s.extract f i → PartsAt s.data.toList (i + 1) (i + 1) (txs (ps ++ [r]))) := Lib.hid (by
            intro r hr
            rw [← hnew.out r hr]
            refine hP.out.slash ?_
            rw [hbt]
            rw [show ((47 : Nat) : Int) = 47 from rfl, h47] at x47
            rw [of_decide_eq_true x47.symm]
            rfl)
          clear hnew hP hend x47 hbt
          go_wp2_with (at_builtin; go_must (refine wpList_append1 E9 rfl rfl hown rfl rfl (news := [.string (s.extract f i)]) (by simp) rfl (by simp [Value.oneCell']) hlen (by decide) hb.size ?_); intro v9 w9 hown9 hg9)
          have hb9 := bapp hb hown hg9 hb.size
          have hown9' : Own w9 w.heap.size 9 1 v9 (strs (ps ++ [s.extract f i])) := by unfold strs at *; rw [List.map_append]; exact hown9
          have hP3 := Lib.hid (hP2.out _ rfl)
          clear hown9 hown hP2
          go_wp2_with fail
          go_roundg (s.size + 1 - (i + 1))
          case measure => exact hm.out.1
          case rel => exact ⟨i + 1, i + 1, _, rfl, hm.out.2, by go_num, by go_num, Nat.le_refl _, hown9', hb9, hP3⟩
        | false =>
          have hP2 : Hid (PartsAt s.data.toList (i + 1) f (txs ps)) := Lib.hid (by
            refine hP.out.step hbt ?_
            rw [show ((47 : Nat) : Int) = 47 from rfl, h47] at x47
            exact of_decide_eq_false x47.symm)
          clear hnew hP hend x47 hbt
          go_wp2_with fail
          go_roundg (s.size + 1 - (i + 1))
          case measure => exact hm.out.1
          case rel => exact ⟨i + 1, f, ps, rfl, hm.out.2, by go_num, rfl, by omega, hown, hb, hP2⟩
    · have f1 : ¬ (i : Int) ≤ (s.size : Int) := by omega
      have hfin := Lib.hid (hP.out.done (by rw [HS.out]; omega))
      clear hP
      go_wp2
      go_ret
      exact ⟨⟨_, rfl, ps, hown, hfin.out⟩, hb⟩
end Go.Proofs.YtekbilieddficaaDoor
