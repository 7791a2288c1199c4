/- FilesApart: the walk. -/
import Derived.Test.YtekbilieddficaaDoorFaSpec
import Derived.Test.YtekbilieddficaaDoorAlike
import Derived.Test.YtekbilieddficaaDoorRound
import Derived.Deep.RegionHeld3
import Derived.Deep.CutRange
import Derived.Deep.Cut
import Derived.Deep.CutBlock
namespace Go.Proofs.YtekbilieddficaaDoor
open Go.RowKit
set_option linter.unusedVariables false

theorem bytes_back (s : ByteArray) : (⟨s.data.toList.toArray⟩ : ByteArray) = s := (str_lit rfl).symm
theorem bytes_app {s m : ByteArray} {l : List UInt8} (h : l = s.data.toList ++ m.data.toList) : (⟨l.toArray⟩ : ByteArray) = s ++ m := by
  rw [h]
  refine (str_lit ?_).symm
  rw [ByteArray.data_append, Array.toList_append]
theorem textO_some (t : RT) : textO (some t) = t.text := rfl
theorem name_size (i : Nat) : (nameB i).size = 3 := rfl

/-- the world behind changes of the file k: its text l, its number c; the rope b0 as it was -/
structure ApW (A : List ByteArray) (k B g fm vm : Nat) (dv : Value) (b0 : Nat) (t0 : RT) (w0 : World) (l : List UInt8) (c : Int) (w : World) : Prop where
  size : B ≤ w.heap.size
  at_ : ∃ F V, FAt w B g fm vm dv [] F V ∧ ApC A k l c F V
  old : RAt w B t0 b0
  below : Below B w0 w

theorem ApW.moved {A : List ByteArray} {k B g fm vm b0 : Nat} {dv : Value} {t0 : RT} {w0 w w' : World} {l : List UInt8} {c : Int} (h : ApW A k B g fm vm dv b0 t0 w0 l c w) (hb : Below w.heap.size w w') : ApW A k B g fm vm dv b0 t0 w0 l c w' := by
  obtain ⟨F, V, h1, h2⟩ := h.at_
  exact ⟨Nat.le_trans h.size hb.size, ⟨F, V, h1.moved hb, h2⟩, h.old.below hb, h.below.trans (hb.mono h.size)⟩

theorem ApW.changed {A : List ByteArray} {k B g fm vm b0 : Nat} {dv : Value} {t0 : RT} {w0 w w' : World} {l l' : List UInt8} {c : Int} {F : List (ByteArray × Nat × RT)} {V : List (ByteArray × Nat × Int)} {e : Ending} (h : ApW A k B g fm vm dv b0 t0 w0 l c w) (hA : A.length ≤ 60) (hk : k < A.length) (hC : ApC A k l c F V) (hc : Changed B g fm vm dv [] F V (nameB k) l' w e w') : e = .returned (.int .i64 0) ∧ ApW A k B g fm vm dv b0 t0 w0 l' (c + 1) w' := by
  obtain ⟨rfl, b, t, nb, rfl, h1, h2, h3⟩ := hc
  refine ⟨rfl, ?_, ⟨_, _, h1, apC_next hC hA hk⟩, h3.rope h.old, h.below.trans h2⟩
  have := h2.size
  have := h.size
  omega

theorem ApW.insert {A : List ByteArray} {k B g fm vm b0 : Nat} {dv : Value} {t0 : RT} {w0 w : World} {l : List UInt8} {c : Int} (h : ApW A k B g fm vm dv b0 t0 w0 l c w) (hA : A.length ≤ 60) (hk : k < A.length) (x : Nat) (s : ByteArray) (hx : x ≤ l.length) (hs : l.length + s.size ≤ 65536) (hc : c < 1000000) :
    Calls Tryd.prog 18 #[.pointer (some ⟨g, 0, none⟩), .string (nameB k), .int .i64 x, .string s] w fun e w' => e = .returned (.int .i64 0) ∧ ApW A k B g fm vm dv b0 t0 w0 (l.take x ++ s.data.toList ++ l.drop x) (c + 1) w' := by
  obtain ⟨F, V, h1, h2⟩ := h.at_
  obtain ⟨b, t, hf, rfl⟩ := h2.mine
  exact (fileInsert_yes w h1 h.size (nameB k) hf x s hx hs (by rw [h2.cntk]; exact hc)).mono fun e w' hch => h.changed hA hk h2 hch

theorem ApW.delete {A : List ByteArray} {k B g fm vm b0 : Nat} {dv : Value} {t0 : RT} {w0 w : World} {l : List UInt8} {c : Int} (h : ApW A k B g fm vm dv b0 t0 w0 l c w) (hA : A.length ≤ 60) (hk : k < A.length) (f z : Nat) (hfz : f ≤ z) (hz : z ≤ l.length) (hl : l.length ≤ 1000000) (hc : c < 1000000) :
    Calls Tryd.prog 19 #[.pointer (some ⟨g, 0, none⟩), .string (nameB k), .int .i64 f, .int .i64 z] w fun e w' => e = .returned (.int .i64 0) ∧ ApW A k B g fm vm dv b0 t0 w0 (l.take f ++ l.drop z) (c + 1) w' := by
  obtain ⟨F, V, h1, h2⟩ := h.at_
  obtain ⟨b, t, hf, rfl⟩ := h2.mine
  exact (fileDelete_yes w h1 h.size (nameB k) hf f z hfz hz hl (by rw [h2.cntk]; exact hc)).mono fun e w' hch => h.changed hA hk h2 hch

/-- what a file's Get answers in the end -/
theorem ApW.get {A : List ByteArray} {k B g fm vm b0 : Nat} {dv : Value} {t0 : RT} {w0 w : World} {l : List UInt8} {c : Int} (h : ApW A k B g fm vm dv b0 t0 w0 l c w) {j : Nat} {s : ByteArray} (hs : A[j]? = some s) :
    ∃ b t, (Calls Tryd.prog 17 #[.pointer (some ⟨g, 0, none⟩), .string (nameB j)] w fun e w' => e = .returned (.tuple #[.pointer (some ⟨b, 0, none⟩), .bool true]) ∧ w' = w) ∧ RP w B (some ⟨b, 0, none⟩) (some t) ∧ t.text = (if j = k then l else s.data.toList) := by
  obtain ⟨F, V, h1, h2⟩ := h.at_
  have key : ∃ b t, fileOf F (nameB j) = some (b, t) ∧ t.text = (if j = k then l else s.data.toList) := by
    by_cases e : j = k
    · subst e
      rw [if_pos rfl]
      exact h2.mine
    · rw [if_neg e]
      exact h2.rest j s e hs
  obtain ⟨b, t, hf, ht⟩ := key
  have hg := get_any w h1 (nameB j) (by rw [name_size]; decide)
  rw [hf] at hg
  exact ⟨b, t, hg, (h1.rope hf).1, ht⟩

theorem ApW.version {A : List ByteArray} {k B g fm vm b0 : Nat} {dv : Value} {t0 : RT} {w0 w : World} {l : List UInt8} {c : Int} (h : ApW A k B g fm vm dv b0 t0 w0 l c w) {j : Nat} (hj : j < A.length) :
    Calls Tryd.prog 21 #[.pointer (some ⟨g, 0, none⟩), .string (nameB j)] w fun e w' => e = .returned (.int .i64 (if j = k then c else 1)) ∧ w' = w := by
  obtain ⟨F, V, h1, h2⟩ := h.at_
  have hv := version_any w h1 (nameB j) (by rw [name_size]; decide)
  have key : countOf V (nameB j) = if j = k then c else 1 := by
    by_cases e : j = k
    · subst e
      rw [if_pos rfl]
      exact h2.cntk
    · rw [if_neg e]
      exact h2.cnt j hj e
  rw [key] at hv
  exact hv

set_option maxRecDepth 100000 in
set_option maxHeartbeats 2000000 in
theorem filesApart_walk (A : List ByteArray) (ao : Option Addr) (ac : Nat) (hac : A.length ≤ ac) (at_ : Int) (wf : (Lit.int .i64 at_).wf = true) (M : ByteArray) (hM : M.size ≤ maxLen) (w : World) (hrow0 : Row w 1 ao (strsB A)) :
    Calls Tryd.prog 5 #[.slice ao A.length ac, .int .i64 at_, .string M] w fun e w' => e = .returned (.bool true) ∧ Below w.heap.size w w' := by
  have ha := i64_arg wf
  clear wf
  obtain ⟨n, hn⟩ : ∃ n, n = A.length := ⟨_, rfl⟩
  have HN : Hid (A.length = n) := Lib.hid hn.symm
  rw [← hn] at hac ⊢
  clear hn
  have hrow := Lib.hid hrow0
  clear hrow0
  have HA0 := Lib.hid (awake_any w)
  by_cases h0 : n = 0
  · subst h0
    go_enter Tryd.func5, Tryd.ntmps5
    go_wp2_with fail
    refine HA0.out.mono ?_
    rintro e w' ⟨rfl, hb⟩
    replace hb := Lib.hid hb
    go_wp2
    go_ret
    exact ⟨rfl, hb.out⟩
  have e0 : ¬ (n : Int) = 0 := by omega
  by_cases h20 : (20 : Int) < n
  · go_enter Tryd.func5, Tryd.ntmps5
    go_wp2_with fail
    refine HA0.out.mono ?_
    rintro e w' ⟨rfl, hb⟩
    replace hb := Lib.hid hb
    go_wp2
    go_ret
    exact ⟨rfl, hb.out⟩
  have HS1 : Hid (Calls Tryd.prog 7 #[.slice ao n ac, .int .i64 1000] w fun e w' => e = .returned (.bool (shortL A 1000)) ∧ w' = w) := Lib.hid (by
    have h := short_any A ao ac 1000 (by omega) (by rw [HN.out]; exact hac) (by rw [HN.out]; unfold maxLen; omega) w hrow.out
    rw [HN.out] at h
    exact h)
  cases hsh : shortL A 1000 with
  | false =>
    rw [hsh] at HS1
    go_enter Tryd.func5, Tryd.ntmps5
    go_wp2_with fail
    refine HS1.out.mono ?_
    rintro e w' ⟨rfl, hw'⟩
    replace hw' := hw'.symm
    subst hw'
    go_wp2_with fail
    refine HA0.out.mono ?_
    rintro e w' ⟨rfl, hb⟩
    replace hb := Lib.hid hb
    go_wp2
    go_ret
    exact ⟨rfl, hb.out⟩
  | true =>
    rw [hsh] at HS1
    by_cases hm : (100 : Int) < M.size
    · go_enter Tryd.func5, Tryd.ntmps5
      go_wp2_with fail
      refine HS1.out.mono ?_
      rintro e w' ⟨rfl, hw'⟩
      replace hw' := hw'.symm
      subst hw'
      go_wp2_with fail
      refine HA0.out.mono ?_
      rintro e w' ⟨rfl, hb⟩
      replace hb := Lib.hid hb
      go_wp2
      go_ret
      exact ⟨rfl, hb.out⟩
    · clear HA0
      have hsz := Lib.hid (shortL_at hsh).2
      have HN1 := Lib.hid (new_yes (D := []) (fun d hd => by simp at hd) none 0 (by decide) (fun _ => ⟨rfl, rfl⟩) w (fun h => absurd rfl h) (by decide))
      obtain ⟨B, hB⟩ : ∃ B, B = w.heap.size := ⟨_, rfl⟩
      rw [← hB] at HN1
      have hrw : Hid (∀ W, Below B w W → B ≤ W.heap.size) := Lib.hid fun W hW => by rw [hB]; rw [hB] at hW; exact hW.size
      have hcl : Hid (∀ i, i < n → ∀ s, A[i]? = some s → ∃ rb ro, ao = some ⟨rb, ro, none⟩ ∧ Hid (∀ W, Below B w W → W.cell? ⟨rb, ro + i, none⟩ = some (.string s))) := Lib.hid fun i hi s hs => by
        obtain ⟨rb, ro, e, hat⟩ := hrow.out (by intro e; have := congrArg List.length e; unfold strsB at this; rw [List.length_map, HN.out] at this; simp at this; omega)
        refine ⟨rb, ro, e, Lib.hid fun W hW => ?_⟩
        have y := strRow_cell hat hs
        rw [hB] at hW
        exact (hW.cell (cell_lt y)).trans y
      rw [← hB]
      replace hB := Lib.hid hB
      have hrx := rndX_range at_ (n : Int) (by omega)
      obtain ⟨k, hkx⟩ : ∃ k : Nat, (k : Int) = rndX at_ (n : Int) := ⟨(rndX at_ (n : Int)).toNat, by omega⟩
      have HR : Hid (∀ W, Calls Tryd.prog 16 #[.int .i64 at_, .int .i64 n] W fun e w' => e = .returned (.int .i64 k) ∧ w' = W) := Lib.hid fun W => by rw [hkx]; exact roundX_any at_ n (by omega) (by omega) ha W
      have hkn : k < n := by omega
      clear hrx hkx ha
      have hkA : Hid (k < A.length) := Lib.hid (by rw [HN.out]; exact hkn)
      have hA60 : Hid (A.length ≤ 60) := Lib.hid (by rw [HN.out]; omega)
      go_enter Tryd.func5, Tryd.ntmps5
      go_wp2_with fail
      refine HS1.out.mono ?_
      rintro e w' ⟨rfl, hw'⟩
      replace hw' := hw'.symm
      subst hw'
      go_wp2_with fail
      refine HN1.out.mono ?_
      rintro e w1 ⟨g, fm, vm, dv, rfl, f1, b1⟩
      replace f1 := Lib.hid f1
      replace b1 := Lib.hid b1
      clear HN1 HS1
      go_wp2_with fail
      go_loopg [9] n (fun q v9 wx => ∃ (i : Nat) (F : List (ByteArray × Nat × RT)) (V : List (ByteArray × Nat × Int)), q = n - i ∧ i ≤ n ∧ v9 = .int .i64 i ∧ Hid (FAt wx B g fm vm dv [] F V) ∧ Hid (ApSt A i F V) ∧ Hid (Below B w wx))
      case atStart => exact ⟨0, [], [], rfl, Nat.zero_le _, rfl, f1, Lib.hid (apSt_zero A), b1⟩
      case round =>
        obtain ⟨i, F, V, hq, hi, rfl, hf, hS, hbw⟩ := hrel
        replace hq := hq.symm
        subst hq
        have hsB := hrw.out wr hbw.out
        have hcell := hcl.out
        by_cases hin : i < n
        · have hin' : (i : Int) < n := by omega
          have f4 : Hid (n - (i + 1) < n - i) := Lib.hid (by omega)
          have g1 : IntKind.i64.wrap ((i : Int) + 1) = (i : Int) + 1 := IntWalk.i64_in _ (by omega)
          obtain ⟨s, hs⟩ : ∃ x, A[i]? = some x := ⟨_, List.getElem?_eq_getElem (by rw [HN.out]; omega)⟩
          obtain ⟨rb, ro, rfl, y0⟩ := hcell i hin s hs
          have HNm := Lib.hid (fun W => name_any i (by omega) W)
          have HC : Hid (∀ W, Below wr.heap.size wr W → Calls Tryd.prog 11 #[.pointer (some ⟨g, 0, none⟩), .string (nameB i), .string s] W fun e w' => Created B g fm vm dv [] F V (nameB i) s.data.toList W e w') := Lib.hid fun W hW =>
            create_yes W (hf.out.moved hW) (Nat.le_trans hsB hW.size) (nameB i) s (by rw [name_size]; omega) (name_valid i (by omega)) (hS.out.none_ i (Nat.le_refl _) (by omega)) (by rw [hS.out.len]; omega) (by have := hsz.out s (List.mem_of_getElem? hs); omega) (by rw [hS.out.cnt i (by omega)]; split <;> omega)
          replace hs := Lib.hid hs
          have x0 := y0.out wr hbw.out
          have x1 : wr.drew.cell? ⟨rb, ro + i, none⟩ = some (.string s) := x0
          have hd0 := Lib.hid (Below.refl wr.heap.size wr).drew
          go_wp2_with fail
          go_region_held3 (fun x : World => x.cell? ⟨rb, ro + i, none⟩ = some (.string s)) (first | with_reducible exact x0 | with_reducible exact x1 | with_reducible exact x2 | with_reducible exact x3) (first
            | (go_at_call 15; (with_reducible refine (HNm.out _).mono ?_); rintro e w2 ⟨rfl, b2⟩; replace b2 := hd0.out.trans b2; have x2 := y0.out w2 (hbw.out.trans (b2.mono hsB)); have HC2 := Lib.hid (HC.out w2 b2); replace b2 := Lib.hid b2)
            | (go_at_call 11; (with_reducible refine HC2.out.mono ?_); rintro e w3 ⟨rfl, p3, t3, q3, ht3, f3, c3, _⟩; have x3 := y0.out w3 (hbw.out.trans ((b2.out.mono hsB).trans c3))))
          clear x0 x1 hd0 HC HNm
          have hf3 := Lib.hid f3
          have hb3 := Lib.hid (hbw.out.trans ((b2.out.mono hsB).trans c3))
          replace ht3 := Lib.hid ht3
          clear f3 c3
          go_wp2_with fail
          go_roundg (n - (i + 1))
          case measure => exact f4.out
          case rel => exact ⟨i + 1, _, _, rfl, by omega, rfl, hf3, Lib.hid (apSt_succ hS.out (by omega) hs.out ht3.out), hb3⟩
        · obtain rfl : i = n := by omega
          have hin' : ¬ (i : Int) < (i : Int) := by omega
          obtain ⟨sk, hsk⟩ : ∃ x, A[k]? = some x := ⟨_, List.getElem?_eq_getElem hkA.out⟩
          obtain ⟨rb, ro, rfl, y0⟩ := hcell k hkn sk hsk
          obtain ⟨b0, t0, hf0, ht0⟩ := hS.out.have_ k sk hkn hsk
          have hRP := hf.out.rope hf0
          have hgood : Hid t0.Good := Lib.hid hRP.1.1
          have hRA : RAt wr B t0 b0 := by
            obtain ⟨g', e, h⟩ := hRP.1.2
            cases e
            exact h
          have hskz := hsz.out sk (List.mem_of_getElem? hsk)
          have hskl : sk.data.toList.length = sk.size := by rw [Lib.size_eq]
          have hMl : M.data.toList.length = M.size := by rw [Lib.size_eq]
          have S0 : Hid (ApW A k B g fm vm dv b0 t0 w sk.data.toList 1 wr) := Lib.hid ⟨hsB, ⟨F, V, hf.out, apC_of (by rw [HN.out]; exact hS.out) hA60.out hsk⟩, hRA, hbw.out⟩
          have HNk := Lib.hid (fun W => name_any k (by omega) W)
          have HGk : Hid (∀ W, Below wr.heap.size wr W → Calls Tryd.prog 17 #[.pointer (some ⟨g, 0, none⟩), .string (nameB k)] W fun e w' => e = .returned (.tuple #[.pointer (some ⟨b0, 0, none⟩), .bool true]) ∧ w' = W) := Lib.hid fun W hW => by
            have h := get_any W (hf.out.moved hW) (nameB k) (by rw [name_size]; decide)
            rw [hf0] at h
            exact h
          have HI1 : Hid (∀ W, ApW A k B g fm vm dv b0 t0 w sk.data.toList 1 W → Calls Tryd.prog 18 #[.pointer (some ⟨g, 0, none⟩), .string (nameB k), .int .i64 0, .string M] W fun e w' => e = .returned (.int .i64 0) ∧ ApW A k B g fm vm dv b0 t0 w (M.data.toList ++ sk.data.toList) 2 w') := Lib.hid fun W h => by
            have h := h.insert hA60.out hkA.out 0 M (Nat.zero_le _) (by omega) (by decide)
            rw [List.take_zero, List.nil_append, List.drop_zero] at h
            exact h
          have HD : Hid (∀ W, ApW A k B g fm vm dv b0 t0 w (M.data.toList ++ sk.data.toList) 2 W → Calls Tryd.prog 19 #[.pointer (some ⟨g, 0, none⟩), .string (nameB k), .int .i64 0, .int .i64 M.size] W fun e w' => e = .returned (.int .i64 0) ∧ ApW A k B g fm vm dv b0 t0 w sk.data.toList 3 w') := Lib.hid fun W h => by
            have h := h.delete hA60.out hkA.out 0 M.size (Nat.zero_le _) (by rw [List.length_append]; omega) (by rw [List.length_append]; omega) (by decide)
            rw [List.take_zero, List.nil_append, ← hMl, List.drop_left] at h
            rw [hMl] at h
            exact h
          have HI2 : Hid (∀ W, ApW A k B g fm vm dv b0 t0 w sk.data.toList 3 W → Calls Tryd.prog 18 #[.pointer (some ⟨g, 0, none⟩), .string (nameB k), .int .i64 sk.size, .string M] W fun e w' => e = .returned (.int .i64 0) ∧ ApW A k B g fm vm dv b0 t0 w (sk.data.toList ++ M.data.toList) 4 w') := Lib.hid fun W h => by
            have h := h.insert hA60.out hkA.out sk.size M (by omega) (by omega) (by decide)
            rw [List.take_of_length_le (by omega), List.drop_of_length_le (by omega), List.append_nil] at h
            exact h
          have HO : Hid (∀ W l c, ApW A k B g fm vm dv b0 t0 w l c W → Calls Tryd.prog 20 #[.pointer (some ⟨b0, 0, none⟩)] W fun e w' => e = .returned (.string sk) ∧ Below W.heap.size W w') := Lib.hid fun W l c h => by
            have hr : RP W B (some ⟨b0, 0, none⟩) (some t0) := ⟨hgood.out, b0, rfl, h.old⟩
            have h := text_any W hr (by rw [textO_some, ht0]; omega)
            rw [textO_some, ht0, bytes_back] at h
            exact h
          replace hskl := Lib.hid hskl
          replace hMl := Lib.hid hMl
          clear hf hS hf0 ht0 hRP hRA hbw hsB
          replace hsk := Lib.hid hsk
          go_wp2_with fail
          refine (HR.out _).mono ?_
          rintro e w' ⟨rfl, hw'⟩
          replace hw' := hw'.symm
          subst hw'
          go_wp2_with fail
          refine (HNk.out _).mono ?_
          rintro e w2 ⟨rfl, b2⟩
          have HGk2 := Lib.hid (HGk.out w2 b2)
          have S2 := Lib.hid (S0.out.moved b2)
          clear b2 HGk
          go_wp2_with fail
          refine HGk2.out.mono ?_
          rintro e w' ⟨rfl, hw'⟩
          replace hw' := hw'.symm
          subst hw'
          clear HGk2
          have S := Lib.hid (S2.out.moved (Below.refl _ w2).drew)
          have x0 := y0.out w2 S2.out.below
          have x1 : w2.drew.cell? ⟨rb, ro + k, none⟩ = some (.string sk) := x0
          clear S0 S2
          go_wp2_with fail
          go_region_held3 (fun x : World => x.cell? ⟨rb, ro + k, none⟩ = some (.string sk)) (first | with_reducible exact x0 | with_reducible exact x1 | with_reducible exact x2) (first
            | (go_at_call 15; (with_reducible refine (HNk.out _).mono ?_); rintro e w3 ⟨rfl, b3⟩; replace S := Lib.hid (S.out.moved b3); have x2 := y0.out w3 S.out.below; clear b3)
            | (go_at_call 18; (first | (with_reducible refine (HI1.out _ S.out).mono ?_) | (with_reducible refine (HI2.out _ S.out).mono ?_)); rintro e w3 ⟨rfl, S'⟩; replace S := Lib.hid S'; clear S'; have x2 := y0.out w3 S.out.below)
            | (go_at_call 19; (with_reducible refine (HD.out _ S.out).mono ?_); rintro e w3 ⟨rfl, S'⟩; replace S := Lib.hid S'; clear S'; have x2 := y0.out w3 S.out.below))
          clear x0 x1 HI1 HD HI2 HNk HR
          rename World => wz
          have x9 := Lib.hid x2
          clear x2
          go_wp2_with fail
          go_loopg [13, 14, 15, 16, 17] i (fun q v13 v14 v15 v16 v17 wx => ∃ j : Nat, q = i - j ∧ j ≤ i ∧ v13 = .int .i64 j ∧ Hid (ApW A k B g fm vm dv b0 t0 w (sk.data.toList ++ M.data.toList) 4 wx))
          case atStart => exact ⟨0, rfl, Nat.zero_le _, rfl, S⟩
          case round =>
            obtain ⟨j, hq, hj, rfl, hS⟩ := hrel
            replace hq := hq.symm
            subst hq
            clear S
            by_cases hji : j < i
            · have hji' : (j : Int) < i := by omega
              have f5 : Hid (i - (j + 1) < i - j) := Lib.hid (by omega)
              have g2 : IntKind.i64.wrap ((j : Int) + 1) = (j : Int) + 1 := IntWalk.i64_in _ (by omega)
              obtain ⟨s, hs⟩ : ∃ x, A[j]? = some x := ⟨_, List.getElem?_eq_getElem (by rw [HN.out]; omega)⟩
              obtain ⟨rb', ro', e1, y1⟩ := hcell j hji s hs
              simp only [Option.some.injEq, Addr.mk.injEq, and_true] at e1
              obtain ⟨rfl, rfl⟩ := e1
              have hss := hsz.out s (List.mem_of_getElem? hs)
              have hcat : s.size + M.size ≤ 9223372036854775807 := by omega
              have HNj := Lib.hid (name_any j (by omega) wr)
              have HGj : Hid (∀ W, Below wr.heap.size wr W → ∃ b, Calls Tryd.prog 17 #[.pointer (some ⟨g, 0, none⟩), .string (nameB j)] W (fun e w' => e = .returned (.tuple #[.pointer (some ⟨b, 0, none⟩), .bool true]) ∧ w' = W) ∧ Calls Tryd.prog 20 #[.pointer (some ⟨b, 0, none⟩)] W (fun e w' => e = .returned (.string (if j = k then s ++ M else s)) ∧ Below W.heap.size W w')) := Lib.hid fun W hW => by
                obtain ⟨b, t, hg, hr, ht⟩ := (hS.out.moved hW).get hs
                refine ⟨b, hg, ?_⟩
                have e3 : j = k → s = sk := by
                  rintro rfl
                  have := hs.symm.trans hsk.out
                  simpa using this
                have hsl : s.data.toList.length = s.size := by rw [Lib.size_eq]
                have h := text_any W hr (by
                  rw [textO_some, ht]
                  split
                  · rw [List.length_append, hskl.out, hMl.out]; omega
                  · omega)
                rw [textO_some, ht] at h
                by_cases e : j = k
                · rw [if_pos e] at h ⊢
                  rw [e3 e]
                  rw [bytes_app rfl] at h
                  exact h
                · rw [if_neg e] at h ⊢
                  rw [bytes_back] at h
                  exact h
              have HVj : Hid (∀ W, Below wr.heap.size wr W → Calls Tryd.prog 21 #[.pointer (some ⟨g, 0, none⟩), .string (nameB j)] W fun e w' => e = .returned (.int .i64 (if j = k then 4 else 1)) ∧ w' = W) := Lib.hid fun W hW => (hS.out.moved hW).version (by rw [HN.out]; omega)
              have y2 : Hid (∀ W, Below wr.heap.size wr W → W.cell? ⟨rb, ro + j, none⟩ = some (.string s)) := Lib.hid fun W hW => y1.out W (hS.out.moved hW).below
              have hmv : Hid (∀ W, Below wr.heap.size wr W → ApW A k B g fm vm dv b0 t0 w (sk.data.toList ++ M.data.toList) 4 W) := Lib.hid fun W hW => hS.out.moved hW
              clear hS
              go_wp2_with fail
              refine HNj.out.mono ?_
              rintro e w2 ⟨rfl, b2⟩
              obtain ⟨b, HGx, HTx⟩ := HGj.out w2 b2
              replace HGx := Lib.hid HGx
              replace HTx := Lib.hid HTx
              have y3 := y2.out w2 b2
              replace b2 := Lib.hid b2
              clear HGj
              go_wp2_with fail
              refine HGx.out.mono ?_
              rintro e w' ⟨rfl, hw'⟩
              replace hw' := hw'.symm
              subst hw'
              by_cases hjk : j = k
              all_goals
                first
                  | (subst hjk; rw [if_pos rfl] at HTx HVj)
                  | (rw [if_neg hjk] at HTx HVj; have hjk' : ¬ (j : Int) = (k : Int) := (by omega); replace hjk := Lib.hid hjk)
                go_wp2_with fail
                refine HTx.out.mono ?_
                rintro e w3 ⟨rfl, b3⟩
                have b23 := b2.out.trans (b3.mono b2.out.size)
                have HNj3 := Lib.hid (name_any j (by omega) w3)
                clear b3 HTx
                replace b23 := Lib.hid b23
                go_wp2_with fail
                refine HNj3.out.mono ?_
                rintro e w4 ⟨rfl, b4⟩
                have b24 := b23.out.trans (b4.mono b23.out.size)
                have HV4 := Lib.hid (HVj.out w4 b24)
                have hm4 := Lib.hid (hmv.out w4 b24)
                clear b4 b24 HVj HNj3
                go_wp2_with fail
                refine HV4.out.mono ?_
                rintro e w' ⟨rfl, hw'⟩
                replace hw' := hw'.symm
                subst hw'
                go_wp2_with fail
                go_roundg (i - (j + 1))
                case measure => exact f5.out
                case rel => exact ⟨j + 1, rfl, by omega, rfl, hm4⟩
            · obtain rfl : j = i := by omega
              have hji' : ¬ (j : Int) < (j : Int) := by omega
              have HOx := Lib.hid (HO.out _ _ _ (hS.out.moved (Below.refl _ wr).drew))
              have x0 := y0.out wr hS.out.below
              have x1 : wr.drew.cell? ⟨rb, ro + k, none⟩ = some (.string sk) := x0
              have hB1 := Lib.hid hS.out.below
              have hs1 := Lib.hid hS.out.size
              clear hS
              go_wp2_with fail
              go_region_held3 (fun x : World => x.cell? ⟨rb, ro + k, none⟩ = some (.string sk)) (first | with_reducible exact x0 | with_reducible exact x1 | with_reducible exact x2) (first
                | (go_at_call 20; (with_reducible refine HOx.out.mono ?_); rintro e w3 ⟨rfl, b3⟩; have b4 := Lib.hid (hB1.out.trans (((Below.refl _ wr).drew.trans b3).mono hs1.out)); have x2 := y0.out w3 b4.out; have HA := Lib.hid (awake_any w3))
                | (go_at_call 9; (with_reducible refine HA.out.mono ?_); rintro e w5 ⟨rfl, b5⟩; have b6 := b4.out.trans (b5.mono (hrw.out w3 b4.out)); have x2 := y0.out w5 b6))
              go_wp2
              go_ret
              exact ⟨rfl, b6⟩
end Go.Proofs.YtekbilieddficaaDoor
