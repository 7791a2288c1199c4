/- Texts of this seat's proofs, laid into one file. -/
import Derived.Test.YtfaoamdlknlgpaaGreatArgsQuotesDoneG35
/- args: the document's Unquote. -/
namespace Go.Proofs.YtfaoamdlknlgpaaGreat
open Go.RowKit
set_option linter.unusedVariables false

def unqV (o : Option (List UInt8)) : Value := match o with | some Y => .tuple #[.string ⟨Y.toArray⟩, .bool true] | none => .tuple #[.string ⟨#[]⟩, .bool false]

theorem inR_bad {c : UInt8} (r : List UInt8) (h : c = 34 ∨ c = 10) : inR (c :: r) = none := by
  cases r with
  | nil => unfold inR; rw [if_pos (by rcases h with h | h <;> simp [h])]
  | cons d r => unfold inR; rw [if_pos h]
theorem inR_plain {c : UInt8} (r : List UInt8) (h1 : c ≠ 34) (h2 : c ≠ 10) (h3 : c ≠ 92) : inR (c :: r) = (inR r).map (c :: ·) := by
  cases r with
  | nil => unfold inR; rw [if_neg (by simp [h1, h2, h3])]; rfl
  | cons d r => conv => lhs; unfold inR
                rw [if_neg (by simp [h1, h2]), if_pos h3]
theorem inR_end : inR [92] = none := rfl
theorem inR_esc {d : UInt8} (r : List UInt8) (h : d = 34 ∨ d = 92) : inR (92 :: d :: r) = (inR r).map (d :: ·) := by
  conv => lhs; unfold inR
  rw [if_neg (by decide), if_neg (by simp), if_pos h]
theorem inR_nl (r : List UInt8) : inR (92 :: 10 :: r) = none := by
  unfold inR
  rw [if_neg (by decide), if_neg (by simp), if_neg (by decide), if_pos rfl]
theorem inR_two {d : UInt8} (r : List UInt8) (h1 : d ≠ 34) (h2 : d ≠ 92) (h3 : d ≠ 10) : inR (92 :: d :: r) = (inR r).map (92 :: d :: ·) := by
  conv => lhs; unfold inR
  rw [if_neg (by decide), if_neg (by simp), if_neg (by simp [h1, h2]), if_neg h3]

theorem map_app (o : Option (List UInt8)) (Y Z : List UInt8) : ((o.map fun x => Z ++ x).map fun x => Y ++ x) = o.map fun x => (Y ++ Z) ++ x := by
  cases o <;> simp

set_option maxRecDepth 100000 in
set_option maxHeartbeats 4000000 in
theorem rUnquote_any (s : ByteArray) (hs : s.size ≤ 1000000) (w : World) :
    Calls Tryz.prog 15 #[.string s] w fun e w' => e = .returned (unqV (unqR s.data.toList)) ∧ Below w.heap.size w w' := by
  have HA := rAhead_any s hs w
  cases ha : aheadL s.data.toList with
  | none =>
    have hr : unqR s.data.toList = none := by unfold unqR; rw [ha]; rfl
    rw [ha] at HA
    replace HA := Lib.hid HA
    unfold aheadV at HA
    rw [hr]
    clear ha hr
    go_enter Tryz.func15, Tryz.ntmps15
    go_wp2_with fail
    refine HA.out.mono ?_
    rintro e w1 ⟨rfl, b1⟩
    replace b1 := Lib.hid b1
    go_wp2
    go_ret2
    exact ⟨rfl, b1.out⟩
  | some n =>
    obtain ⟨p, X, hp, hpl, hAf, hin⟩ := ahead_form ha
    have hr : unqR s.data.toList = inR X := by unfold unqR; rw [ha, ← hin]; rfl
    rw [ha] at HA
    replace HA : Calls Tryz.prog 43 #[.string s, .int .u8 34] w fun e w' => e = .returned (.int .i64 (n : Nat)) ∧ Below w.heap.size w w' := HA
    replace HA := Lib.hid HA
    rw [hr]
    have hsz : s.size = n + X.length + 2 := by
      rw [← sz_list, hAf]; simp; omega
    obtain ⟨I, hI⟩ : ∃ I, I = s.extract (n + 1) (s.size - 1) := ⟨_, rfl⟩
    have hIX : I.data.toList = X := by
      rw [hI, show s.size - 1 = (n + 1) + (s.size - 1 - (n + 1)) by omega, ext_list, ← hin]
      unfold insideL
      rw [sz_list]
    have hIs : I.size = X.length := by rw [← sz_list, hIX]
    obtain ⟨m, hm⟩ : ∃ m, m = X.length := ⟨_, rfl⟩
    have g1 : IntKind.i64.wrap ((n : Int) + 1) = (n : Int) + 1 := IntWalk.i64_in _ (by omega)
    have g2 : IntKind.i64.wrap ((s.size : Int) - 1) = (s.size : Int) - 1 := IntWalk.i64_in _ (by omega)
    have g3 : ((s.size : Int) - 1).toNat = s.size - 1 := by omega
    have g4 : (n : Int) + 1 ≤ (s.size : Int) - 1 := by omega
    have g5 : (s.size : Int) - 1 ≤ (s.size : Int) := by omega
    have g6 : ((n : Int) + 1).toNat = n + 1 := by omega
    have g7 : ¬ (n : Int) < 0 := by omega
    have hm6 : m ≤ 1000000 := by omega
    have hIm : I.size = m := by omega
    have HI : Hid (s.extract (n + 1) (s.size - 1) = I) := Lib.hid hI.symm
    have hIXh := Lib.hid hIX
    obtain ⟨R, hR⟩ : ∃ R, R = inR X := ⟨_, rfl⟩
    rw [← hR]
    have hXm := Lib.hid hm.symm
    have hR0 : Hid ((inR (X.drop 0)).map (fun x => ([] : List UInt8) ++ x) = R) := Lib.hid (by rw [hR, List.drop_zero]; cases inR X <;> rfl)
    clear hR hm hIs hIX hsz hin hAf hpl hp hr ha
    replace hI := hI.symm
    go_enter Tryz.func15, Tryz.ntmps15
    go_wp2_with fail
    refine HA.out.mono ?_
    rintro e w1 ⟨rfl, b1⟩
    replace b1 := Lib.hid b1
    go_wp2_with fail
    clear HA g1 g2 g3 g4 g5 g6 g7
    go_loopg [6, 7, 30, 54, 59, 74] m (fun q v6 v7 v30 v54 v59 v74 wx => ∃ (i : Nat) (Y : List UInt8), q = m - i ∧ i ≤ m ∧ v7 = .int .i64 i ∧ Hid (Own wx w.heap.size 5 1 v6 (byC Y)) ∧ Hid (Y.length ≤ i) ∧ Hid ((inR (X.drop i)).map (fun x => Y ++ x) = R) ∧ Hid (Below w.heap.size w wx))
    case atStart => exact ⟨0, [], rfl, Nat.zero_le _, rfl, Lib.hid (Own.nil _ _ _ _), Lib.hid (Nat.zero_le _), hR0, b1⟩
    case round =>
      clear hR0 b1
      obtain ⟨i, Y, hq, hi, rfl, ho, hYi, hR, hb⟩ := hrel
      replace hq := hq.symm
      subst hq
      have hsB := hb.out.size
      have hlen : Hid ((byC Y).length + 3 ≤ 1000000000) := Lib.hid (by rw [byC_len]; have := hYi.out; omega)
      by_cases hin : i < m
      · have hin' : (i : Int) < m := by omega
        have f4 : Hid (m - (i + 1) < m - i) := Lib.hid (by omega)
        have f5 : Hid (i + 1 < m → m - (i + 2) < m - i) := Lib.hid (by omega)
        have g1 : IntKind.i64.wrap ((i : Int) + 1) = (i : Int) + 1 := IntWalk.i64_in _ (by omega)
        have g2 : IntKind.i64.wrap ((i : Int) + 1 + 1) = (i : Int) + 1 + 1 := IntWalk.i64_in _ (by omega)
        obtain ⟨c, hc⟩ : ∃ c, X[i]? = some c := ⟨_, List.getElem?_eq_getElem (by rw [hXm.out]; exact hin)⟩
        have hci : (I[i]'(by omega)) = c := by
          rw [byte_chAt, hIXh.out]; unfold chAt; rw [List.getD_eq_getElem?_getD, hc]; rfl
        have hd : X.drop i = c :: X.drop (i + 1) := by
          rw [List.drop_eq_getElem_cons (by rw [hXm.out]; exact hin)]; congr 1; exact (List.getElem?_eq_some_iff.1 hc).2
        have hst := hR.out
        rw [hd] at hst
        clear hc hR
        by_cases c34 : c = 34
        · subst c34
          rw [inR_bad _ (.inl rfl)] at hst
          have l34 : ((UInt8.toNat 34 : Nat) : Int) = 34 := rfl
          have hRn : Hid (R = none) := Lib.hid hst.symm
          clear hst
          go_wp2
          go_ret2
          exact ⟨by rw [hRn.out]; rfl, hb.out⟩
        obtain ⟨c34a, c34b⟩ := u8_int (n := 34) (by decide) c34
        replace c34a : ¬ (c.toNat : Int) = 34 := c34a
        replace c34b : ((c.toNat : Int) == 34) = false := c34b
        by_cases c10 : c = 10
        · subst c10
          rw [inR_bad _ (.inr rfl)] at hst
          have l10 : ((UInt8.toNat 10 : Nat) : Int) = 10 := rfl
          have hRn : Hid (R = none) := Lib.hid hst.symm
          clear hst
          go_wp2
          go_ret2
          exact ⟨by rw [hRn.out]; rfl, hb.out⟩
        obtain ⟨c10a, c10b⟩ := u8_int (n := 10) (by decide) c10
        replace c10a : ¬ (c.toNat : Int) = 10 := c10a
        replace c10b : ((c.toNat : Int) == 10) = false := c10b
        by_cases c92 : c = 92
        · subst c92
          have l92 : ((UInt8.toNat 92 : Nat) : Int) = 92 := rfl
          by_cases hi1 : i + 1 < m
          · have hi1' : (i : Int) + 1 < m := by omega
            have hi1n : ¬ (i : Int) + 1 = m := by omega
            have hi1b : ((i : Int) + 1 == (m : Int)) = false := beq_false_of_ne hi1n
            have hiz : (0 : Int) ≤ (i : Int) + 1 := by omega
            have hit : ((i : Int) + 1).toNat = i + 1 := by omega
            obtain ⟨d, hdd⟩ : ∃ d, X[i + 1]? = some d := ⟨_, List.getElem?_eq_getElem (by rw [hXm.out]; exact hi1)⟩
            have hdi : (I[i + 1]'(by omega)) = d := by
              rw [byte_chAt, hIXh.out]; unfold chAt; rw [List.getD_eq_getElem?_getD, hdd]; rfl
            have hd2 : X.drop (i + 1) = d :: X.drop (i + 2) := by
              rw [List.drop_eq_getElem_cons (by rw [hXm.out]; exact hi1)]; congr 1; exact (List.getElem?_eq_some_iff.1 hdd).2
            rw [hd2] at hst
            clear hdd hd2 hd
            by_cases d34 : d = 34
            · subst d34
              have l34 : ((UInt8.toNat 34 : Nat) : Int) = 34 := rfl
              rw [inR_esc _ (.inl rfl)] at hst
              have hst' : Hid ((inR (X.drop (i + 2))).map (fun x => (Y ++ [34]) ++ x) = R) := Lib.hid (by rw [← hst, ← map_app]; rfl)
              clear hst
              go_wp2_with (at_builtin; first
                | (refine wpList_append1 Eb5 rfl rfl ho.out rfl rfl (news := [.int .u8 34]) (by simp) rfl (by simp [Value.oneCell']) (by have := hlen.out; omega) (by decide) hsB ?_; intro v0 w2 hown0 hg0; have hb0 := bapp hb.out ho.out hg0 hsB; have hs0 := hb0.size))
              go_roundg (m - (i + 2))
              case measure => exact f5.out hi1
              case rel => exact ⟨i + 2, Y ++ [34], rfl, by omega, by simp; omega, Lib.hid (by simpa [byC] using hown0), Lib.hid (by have := hYi.out; rw [List.length_append]; simp; omega), hst', Lib.hid hb0⟩
            obtain ⟨d34a, d34b⟩ := u8_int (n := 34) (by decide) d34
            replace d34a : ¬ (d.toNat : Int) = 34 := d34a
            replace d34b : ((d.toNat : Int) == 34) = false := d34b
            by_cases d92 : d = 92
            · subst d92
              rw [inR_esc _ (.inr rfl)] at hst
              have hst' : Hid ((inR (X.drop (i + 2))).map (fun x => (Y ++ [92]) ++ x) = R) := Lib.hid (by rw [← hst, ← map_app]; rfl)
              clear hst
              go_wp2_with (at_builtin; first
                | (refine wpList_append1 Eb5 rfl rfl ho.out rfl rfl (news := [.int .u8 92]) (by simp) rfl (by simp [Value.oneCell']) (by have := hlen.out; omega) (by decide) hsB ?_; intro v0 w2 hown0 hg0; have hb0 := bapp hb.out ho.out hg0 hsB; have hs0 := hb0.size))
              go_roundg (m - (i + 2))
              case measure => exact f5.out hi1
              case rel => exact ⟨i + 2, Y ++ [92], rfl, by omega, by simp; omega, Lib.hid (by simpa [byC] using hown0), Lib.hid (by have := hYi.out; rw [List.length_append]; simp; omega), hst', Lib.hid hb0⟩
            obtain ⟨d92a, d92b⟩ := u8_int (n := 92) (by decide) d92
            replace d92a : ¬ (d.toNat : Int) = 92 := d92a
            replace d92b : ((d.toNat : Int) == 92) = false := d92b
            by_cases d10 : d = 10
            · subst d10
              rw [inR_nl] at hst
              have l10 : ((UInt8.toNat 10 : Nat) : Int) = 10 := rfl
              have hRn : Hid (R = none) := Lib.hid hst.symm
              clear hst
              go_wp2
              go_ret2
              exact ⟨by rw [hRn.out]; rfl, hb.out⟩
            rw [inR_two _ d34 d92 d10] at hst
            obtain ⟨d10a, d10b⟩ := u8_int (n := 10) (by decide) d10
            replace d10a : ¬ (d.toNat : Int) = 10 := d10a
            replace d10b : ((d.toNat : Int) == 10) = false := d10b
            have hst' : Hid ((inR (X.drop (i + 2))).map (fun x => (Y ++ [92, d]) ++ x) = R) := Lib.hid (by rw [← hst, ← map_app]; rfl)
            clear hst
            replace d34 := Lib.hid d34
            replace d92 := Lib.hid d92
            replace d10 := Lib.hid d10
            go_wp2_with (at_builtin; first
              | (refine wpList_append1 Eb5 rfl rfl ho.out rfl rfl (news := [.int .u8 92]) (by simp) rfl (by simp [Value.oneCell']) (by have := hlen.out; omega) (by decide) hsB ?_; intro v0 w2 hown0 hg0; have hb0 := bapp hb.out ho.out hg0 hsB; have hs0 := hb0.size)
              | (refine wpList_append1 Eb5 rfl rfl hown0 rfl rfl (news := [.int .u8 d.toNat]) (by simp) rfl (by simp [Value.oneCell']) (by rw [List.length_append]; have := hlen.out; simp; omega) (by decide) hs0 ?_; intro v1 w3 hown1 hg1; have hb1 := bapp hb0 hown0 hg1 hs0; have hs1 := hb1.size))
            go_roundg (m - (i + 2))
            case measure => exact f5.out hi1
            case rel => exact ⟨i + 2, Y ++ [92, d], rfl, by omega, by simp; omega, Lib.hid (by simpa [byC] using hown1), Lib.hid (by have := hYi.out; rw [List.length_append]; simp; omega), hst', Lib.hid hb1⟩
          · have hi1n : (i : Int) + 1 = m := by omega
            have hi1b : ((i : Int) + 1 == (m : Int)) = true := by rw [hi1n]; simp
            rw [List.drop_eq_nil_of_le (by rw [hXm.out]; omega), inR_end] at hst
            have hRn : Hid (R = none) := Lib.hid hst.symm
            clear hst
            go_wp2
            go_ret2
            exact ⟨by rw [hRn.out]; rfl, hb.out⟩
        rw [inR_plain _ c34 c10 c92] at hst
        obtain ⟨c92a, c92b⟩ := u8_int (n := 92) (by decide) c92
        replace c92a : ¬ (c.toNat : Int) = 92 := c92a
        replace c92b : ((c.toNat : Int) == 92) = false := c92b
        have hst' : Hid ((inR (X.drop (i + 1))).map (fun x => (Y ++ [c]) ++ x) = R) := Lib.hid (by rw [← hst, ← map_app]; rfl)
        clear hst hd
        replace c34 := Lib.hid c34
        replace c92 := Lib.hid c92
        replace c10 := Lib.hid c10
        go_wp2_with (at_builtin; first
          | (refine wpList_append1 Eb5 rfl rfl ho.out rfl rfl (news := [.int .u8 c.toNat]) (by simp) rfl (by simp [Value.oneCell']) (by have := hlen.out; omega) (by decide) hsB ?_; intro v0 w2 hown0 hg0; have hb0 := bapp hb.out ho.out hg0 hsB; have hs0 := hb0.size))
        go_roundg (m - (i + 1))
        case measure => exact f4.out
        case rel => exact ⟨i + 1, Y ++ [c], rfl, by omega, by simp, Lib.hid (by simpa [byC] using hown0), Lib.hid (by have := hYi.out; rw [List.length_append]; simp; omega), hst', Lib.hid hb0⟩
      · obtain rfl : i = m := by omega
        have hin' : ¬ (i : Int) < (i : Int) := by omega
        have hRY : Hid (R = some Y) := Lib.hid (by
          have := hR.out
          rw [List.drop_eq_nil_of_le (by rw [hXm.out]; exact Nat.le_refl _)] at this
          rw [← this]; simp [inR])
        have hcv := run_str_own (P := Tryz.prog) (l := Y) (by simpa [byC] using ho.out) 58 9 Tryz.underlying58 Tryz.underlying5 Tryz.underlying9
        go_wp2
        go_ret2
        exact ⟨by rw [hRY.out]; rfl, hb.out⟩
end Go.Proofs.YtfaoamdlknlgpaaGreat

/- args: the letters ahead of a string; the program's Unquote. -/
namespace Go.Proofs.YtfaoamdlknlgpaaGreat
open Go.RowKit
set_option linter.unusedVariables false

/-- a list's place at which a string's letters stand -/
theorem pref_idx {p : List UInt8} (h : p ∈ prefs) : ∃ k, k < 5 ∧ prefs[k]? = some p := by
  obtain ⟨k, hk, e⟩ := List.mem_iff_getElem.1 h
  exact ⟨k, by simpa [prefs] using hk, by rw [List.getElem?_eq_getElem hk, e]⟩

/-- ahead of it no other letters fit -/
theorem pref_no {p X : List UInt8} {k i : Nat} (hk : prefs[k]? = some p) (hi : i < k) {q : List UInt8} (hq : prefs[i]? = some q) :
    Lib.hasPrefix (p ++ 34 :: X) q = true → ∃ c r, Lib.trimPrefix (p ++ 34 :: X) q = c :: r ∧ c ≠ 34 ∧ c ≠ 39 := by
  have hk5 : k < 5 := by have := (List.getElem?_eq_some_iff.1 hk).1; simpa [prefs] using this
  match k, hk5 with
  | 0, _ => omega
  | 1, _ =>
    simp [prefs] at hk; subst hk
    match i, hi with
    | 0, _ => simp [prefs] at hq; subst hq; intro _; exact ⟨76, _, (by simp [Lib.trimPrefix, Lib.hasPrefix]; rfl), by decide, by decide⟩
  | 2, _ =>
    simp [prefs] at hk; subst hk
    match i, hi with
    | 0, _ => simp [prefs] at hq; subst hq; intro _; exact ⟨117, _, (by simp [Lib.trimPrefix, Lib.hasPrefix]; rfl), by decide, by decide⟩
    | 1, _ => simp [prefs] at hq; subst hq; intro h; simp [Lib.hasPrefix] at h
  | 3, _ =>
    simp [prefs] at hk; subst hk
    match i, hi with
    | 0, _ => simp [prefs] at hq; subst hq; intro _; exact ⟨85, _, (by simp [Lib.trimPrefix, Lib.hasPrefix]; rfl), by decide, by decide⟩
    | 1, _ => simp [prefs] at hq; subst hq; intro h; simp [Lib.hasPrefix] at h
    | 2, _ => simp [prefs] at hq; subst hq; intro h; simp [Lib.hasPrefix] at h
  | 4, _ =>
    simp [prefs] at hk; subst hk
    match i, hi with
    | 0, _ => simp [prefs] at hq; subst hq; intro _; exact ⟨117, _, (by simp [Lib.trimPrefix, Lib.hasPrefix]; rfl), by decide, by decide⟩
    | 1, _ => simp [prefs] at hq; subst hq; intro h; simp [Lib.hasPrefix] at h
    | 2, _ => simp [prefs] at hq; subst hq; intro _; exact ⟨56, _, (by simp [Lib.trimPrefix, Lib.hasPrefix]; rfl), by decide, by decide⟩
    | 3, _ => simp [prefs] at hq; subst hq; intro h; simp [Lib.hasPrefix] at h

theorem pref_yes {p X : List UInt8} : Lib.hasPrefix (p ++ 34 :: X) p = true ∧ Lib.trimPrefix (p ++ 34 :: X) p = 34 :: X := by
  constructor <;> simp [Lib.hasPrefix, Lib.trimPrefix]

set_option maxRecDepth 100000 in
set_option maxHeartbeats 4000000 in
theorem pLetters_any (s p : ByteArray) (X : List UInt8) (hp : p.data.toList ∈ prefs) (hA : s.data.toList = p.data.toList ++ 34 :: X) (w : World) :
    Calls Tryz.prog 40 #[.string s] w fun e w' => e = .returned (.tuple #[.string p, .bool true]) ∧ Below w.heap.size w w' := by
  obtain ⟨k, hk5, hk⟩ := pref_idx hp
  have hrow0 : Hid (Row (w.alloc (.cells #[.string ⟨#[]⟩, .string ⟨#[76]⟩, .string ⟨#[117]⟩, .string ⟨#[85]⟩, .string ⟨#[117, 56]⟩] 9)) 1 (some ⟨w.heap.size, 0, none⟩) (prefsB.map fun p => [.string p])) := Lib.hid (row_new w (css := prefsB.map fun p => [.string p]) (by simp [prefsB]) 9 (by simp [prefsB]) rfl)
  have hb0 : Hid (Below w.heap.size w (w.alloc (.cells #[.string ⟨#[]⟩, .string ⟨#[76]⟩, .string ⟨#[117]⟩, .string ⟨#[85]⟩, .string ⟨#[117, 56]⟩] 9))) := Lib.hid ((Below.refl _ w).alloc (Nat.le_refl _) _)
  have HC := Lib.hid (fun q W => Tryz.strings_CutPrefix s q W)
  replace hk := Lib.hid hk
  replace hA := Lib.hid hA
  clear hp
  go_enter Tryz.func40, Tryz.ntmps40
  go_wp2_with fail
  go_loopg [5, 6, 7, 10] 5 (fun q v5 v6 v7 v10 wx => ∃ i : Nat, q = 5 - i ∧ i ≤ k ∧ v10 = .int .i64 i ∧ Hid (Row wx 1 (some ⟨w.heap.size, 0, none⟩) (prefsB.map fun p => [.string p])) ∧ Hid (Below w.heap.size w wx))
  case atStart => exact ⟨0, rfl, Nat.zero_le _, rfl, hrow0, hb0⟩
  case round =>
    clear hrow0 hb0
    obtain ⟨i, hq, hi, rfl, hrow, hb⟩ := hrel
    replace hq := hq.symm
    subst hq
    have hin : i < 5 := by omega
    have hin' : (i : Int) < 5 := by omega
    have f4 : Hid (5 - (i + 1) < 5 - i) := Lib.hid (by omega)
    have g1 : IntKind.i64.wrap ((i : Int) + 1) = (i : Int) + 1 := IntWalk.i64_in _ (by omega)
    obtain ⟨q, hq⟩ : ∃ p, prefsB[i]? = some p := ⟨_, List.getElem?_eq_getElem hin⟩
    have hq2 : prefs[i]? = some q.data.toList := by rw [← prefsB_map, List.getElem?_map, hq]; rfl
    have x0 : wr.cell? ⟨w.heap.size, i, none⟩ = some (.string q) := by
      obtain ⟨b', o', e, hat⟩ := hrow.out (by simp [prefsB])
      simp only [Option.some.injEq, Addr.mk.injEq, and_true] at e
      obtain ⟨rfl, rfl⟩ := e
      have := hat i [.string q] (by rw [List.getElem?_map, hq]; rfl) 0 _ rfl
      simpa using this
    have HQ := HC.out q wr
    rw [hA.out] at HQ
    clear hq
    by_cases hik : i < k
    · have hno := pref_no (X := X) hk.out hik hq2
      cases hpf : Lib.hasPrefix (p.data.toList ++ 34 :: X) q.data.toList with
      | false =>
        rw [hpf] at HQ
        replace HQ := Lib.hid HQ
        clear hno hpf hq2
        go_wp2_with fail
        refine HQ.out.mono ?_
        rintro e w' ⟨rfl, hw'⟩
        replace hw' := hw'.symm
        subst hw'
        go_wp2_with fail
        go_roundg (5 - (i + 1))
        case measure => exact f4.out
        case rel => exact ⟨i + 1, rfl, by omega, by simp, hrow, hb⟩
      | true =>
        obtain ⟨c, r, htr, hc1, hc2⟩ := hno hpf
        rw [hpf, htr] at HQ
        obtain ⟨S, hS⟩ : ∃ S : ByteArray, S = ⟨(c :: r).toArray⟩ := ⟨_, rfl⟩
        rw [← hS] at HQ
        have hSz : 0 < S.size := by rw [hS]; simp [ByteArray.size]
        have hSz' : (0 : Int) < S.size := by omega
        have hS0 : (S[0]'hSz) = c := by rw [byte_chAt, hS]; rfl
        have hSe : (S.toList == (⟨#[]⟩ : ByteArray).toList) = false := by rw [beq_list, hS]; rfl
        have hSe2 : (S.toList == []) = false := by rw [Lib.toList_data, hS]; rfl
        obtain ⟨n1, n2⟩ := u8_int (n := 34) (by decide) hc1
        replace n1 : ¬ (c.toNat : Int) = 34 := n1
        replace n2 : ((c.toNat : Int) == 34) = false := n2
        obtain ⟨n3, n4⟩ := u8_int (n := 39) (by decide) hc2
        replace n3 : ¬ (c.toNat : Int) = 39 := n3
        replace n4 : ((c.toNat : Int) == 39) = false := n4
        replace HQ := Lib.hid HQ
        clear hno hpf hq2 htr hS hc1 hc2
        go_wp2_with fail
        refine HQ.out.mono ?_
        rintro e w' ⟨rfl, hw'⟩
        replace hw' := hw'.symm
        subst hw'
        go_wp2_with fail
        go_roundg (5 - (i + 1))
        case measure => exact f4.out
        case rel => exact ⟨i + 1, rfl, by omega, by simp, hrow, hb⟩
    · obtain rfl : i = k := by omega
      have hqp : q = p := by
        have := hk.out
        rw [hq2] at this
        have h2 := Option.some.inj this
        cases q; cases p; simpa [Array.toList_inj] using h2
      subst hqp
      obtain ⟨h1, h2⟩ := pref_yes (p := q.data.toList) (X := X)
      rw [h1, h2] at HQ
      obtain ⟨S, hS⟩ : ∃ S : ByteArray, S = ⟨(34 :: X).toArray⟩ := ⟨_, rfl⟩
      rw [← hS] at HQ
      have hSz : 0 < S.size := by rw [hS]; simp [ByteArray.size]
      have hSz' : (0 : Int) < S.size := by omega
      have hS0 : (S[0]'hSz) = 34 := by rw [byte_chAt, hS]; rfl
      have hSe : (S.toList == (⟨#[]⟩ : ByteArray).toList) = false := by rw [beq_list, hS]; rfl
      have hSe2 : (S.toList == []) = false := by rw [Lib.toList_data, hS]; rfl
      have l34 : ((UInt8.toNat 34 : Nat) : Int) = 34 := rfl
      replace HQ := Lib.hid HQ
      clear h1 h2 hS hq2
      go_wp2_with fail
      refine HQ.out.mono ?_
      rintro e w' ⟨rfl, hw'⟩
      replace hw' := hw'.symm
      subst hw'
      go_wp2
      go_ret2
      exact ⟨rfl, hb.out⟩
end Go.Proofs.YtfaoamdlknlgpaaGreat
