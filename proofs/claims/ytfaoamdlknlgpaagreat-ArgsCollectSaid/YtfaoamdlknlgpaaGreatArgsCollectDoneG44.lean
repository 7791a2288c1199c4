/- Texts of this seat's proofs, laid into one file. -/
import Derived.Test.YtfaoamdlknlgpaaGreatArgsCollectDoneG43
import Derived.Test.YtfaoamdlknlgpaaGreatArgsCollectDoneG26
import Derived.Test.YtfaoamdlknlgpaaGreatArgsCollectDoneG37
/- args: the letters ahead of a string; the program's Unquote. -/
namespace Go.Proofs.YtfaoamdlknlgpaaGreat
open Go.RowKit
set_option linter.unusedVariables false

/-- a list's place at which a string's letters stand -/
theorem pref_idx {p : List UInt8} (h : p ∈ prefs) : ∃ k, k < 5 ∧ prefs[k]? = some p := by
  obtain ⟨k, hk, e⟩ := List.mem_iff_getElem.1 h
  exact ⟨k, by simpa [prefs] using hk, by rw [List.getElem?_eq_getElem hk, e]⟩

/-- ahead of it no other letters fit -/
theorem pref_no {p X : List UInt8} {k i : Nat} (hk : prefs[k]? = some p) (hi : i < k) {q : List UInt8} (hq : prefs[i]? = some q) :
    Lib.hasPrefix (p ++ 34 :: X) q = true → ∃ c r, Lib.trimPrefix (p ++ 34 :: X) q = c :: r ∧ c ≠ 34 ∧ c ≠ 39 := by
  have hk5 : k < 5 := by have := (List.getElem?_eq_some_iff.1 hk).1; simpa [prefs] using this
  match k, hk5 with
  | 0, _ => omega
  | 1, _ =>
    simp [prefs] at hk; subst hk
    match i, hi with
    | 0, _ => simp [prefs] at hq; subst hq; intro _; exact ⟨76, _, (by simp [Lib.trimPrefix, Lib.hasPrefix]; rfl), by decide, by decide⟩
  | 2, _ =>
    simp [prefs] at hk; subst hk
    match i, hi with
    | 0, _ => simp [prefs] at hq; subst hq; intro _; exact ⟨117, _, (by simp [Lib.trimPrefix, Lib.hasPrefix]; rfl), by decide, by decide⟩
    | 1, _ => simp [prefs] at hq; subst hq; intro h; simp [Lib.hasPrefix] at h
  | 3, _ =>
    simp [prefs] at hk; subst hk
    match i, hi with
    | 0, _ => simp [prefs] at hq; subst hq; intro _; exact ⟨85, _, (by simp [Lib.trimPrefix, Lib.hasPrefix]; rfl), by decide, by decide⟩
    | 1, _ => simp [prefs] at hq; subst hq; intro h; simp [Lib.hasPrefix] at h
    | 2, _ => simp [prefs] at hq; subst hq; intro h; simp [Lib.hasPrefix] at h
  | 4, _ =>
    simp [prefs] at hk; subst hk
    match i, hi with
    | 0, _ => simp [prefs] at hq; subst hq; intro _; exact ⟨117, _, (by simp [Lib.trimPrefix, Lib.hasPrefix]; rfl), by decide, by decide⟩
    | 1, _ => simp [prefs] at hq; subst hq; intro h; simp [Lib.hasPrefix] at h
    | 2, _ => simp [prefs] at hq; subst hq; intro _; exact ⟨56, _, (by simp [Lib.trimPrefix, Lib.hasPrefix]; rfl), by decide, by decide⟩
    | 3, _ => simp [prefs] at hq; subst hq; intro h; simp [Lib.hasPrefix] at h

theorem pref_yes {p X : List UInt8} : Lib.hasPrefix (p ++ 34 :: X) p = true ∧ Lib.trimPrefix (p ++ 34 :: X) p = 34 :: X := by
  constructor <;> simp [Lib.hasPrefix, Lib.trimPrefix]

set_option maxRecDepth 100000 in
set_option maxHeartbeats 4000000 in
theorem pLetters_any (s p : ByteArray) (X : List UInt8) (hp : p.data.toList ∈ prefs) (hA : s.data.toList = p.data.toList ++ 34 :: X) (w : World) :
    Calls Tryz.prog 40 #[.string s] w fun e w' => e = .returned (.tuple #[.string p, .bool true]) ∧ Below w.heap.size w w' := by
  obtain ⟨k, hk5, hk⟩ := pref_idx hp
  have hrow0 : Hid (Row (w.alloc (.cells #[.string ⟨#[]⟩, .string ⟨#[76]⟩, .string ⟨#[117]⟩, .string ⟨#[85]⟩, .string ⟨#[117, 56]⟩] 9)) 1 (some ⟨w.heap.size, 0, none⟩) (prefsB.map fun p => [.string p])) := Lib.hid (row_new w (css := prefsB.map fun p => [.string p]) (by simp [prefsB]) 9 (by simp [prefsB]) rfl)
  have hb0 : Hid (Below w.heap.size w (w.alloc (.cells #[.string ⟨#[]⟩, .string ⟨#[76]⟩, .string ⟨#[117]⟩, .string ⟨#[85]⟩, .string ⟨#[117, 56]⟩] 9))) := Lib.hid ((Below.refl _ w).alloc (Nat.le_refl _) _)
  have HC := Lib.hid (fun q W => Tryz.strings_CutPrefix s q W)
  replace hk := Lib.hid hk
  replace hA := Lib.hid hA
  clear hp
  go_enter Tryz.func40, Tryz.ntmps40
  go_wp2_with fail
  go_loopg [5, 6, 7, 10] 5 (fun q v5 v6 v7 v10 wx => ∃ i : Nat, q = 5 - i ∧ i ≤ k ∧ v10 = .int .i64 i ∧ Hid (Row wx 1 (some ⟨w.heap.size, 0, none⟩) (prefsB.map fun p => [.string p])) ∧ Hid (Below w.heap.size w wx))
  case atStart => exact ⟨0, rfl, Nat.zero_le _, rfl, hrow0, hb0⟩
  case round =>
    clear hrow0 hb0
    obtain ⟨i, hq, hi, rfl, hrow, hb⟩ := hrel
    replace hq := hq.symm
    subst hq
    have hin : i < 5 := by omega
    have hin' : (i : Int) < 5 := by omega
    have f4 : Hid (5 - (i + 1) < 5 - i) := Lib.hid (by omega)
    have g1 : IntKind.i64.wrap ((i : Int) + 1) = (i : Int) + 1 := IntWalk.i64_in _ (by omega)
    obtain ⟨q, hq⟩ : ∃ p, prefsB[i]? = some p := ⟨_, List.getElem?_eq_getElem hin⟩
    have hq2 : prefs[i]? = some q.data.toList := by rw [← prefsB_map, List.getElem?_map, hq]; rfl
    have x0 : wr.cell? ⟨w.heap.size, i, none⟩ = some (.string q) := by
      obtain ⟨b', o', e, hat⟩ := hrow.out (by simp [prefsB])
      simp only [Option.some.injEq, Addr.mk.injEq, and_true] at e
      obtain ⟨rfl, rfl⟩ := e
      have := hat i [.string q] (by rw [List.getElem?_map, hq]; rfl) 0 _ rfl
      simpa using this
    have HQ := HC.out q wr
    rw [hA.out] at HQ
    clear hq
    by_cases hik : i < k
    · have hno := pref_no (X := X) hk.out hik hq2
      cases hpf : Lib.hasPrefix (p.data.toList ++ 34 :: X) q.data.toList with
      | false =>
        rw [hpf] at HQ
        replace HQ := Lib.hid HQ
        clear hno hpf hq2
        go_wp2_with fail
        refine HQ.out.mono ?_
        rintro e w' ⟨rfl, hw'⟩
        replace hw' := hw'.symm
        subst hw'
        go_wp2_with fail
        go_roundg (5 - (i + 1))
        case measure => exact f4.out
        case rel => exact ⟨i + 1, rfl, by omega, by simp, hrow, hb⟩
      | true =>
        obtain ⟨c, r, htr, hc1, hc2⟩ := hno hpf
        rw [hpf, htr] at HQ
        obtain ⟨S, hS⟩ : ∃ S : ByteArray, S = ⟨(c :: r).toArray⟩ := ⟨_, rfl⟩
        rw [← hS] at HQ
        have hSz : 0 < S.size := by rw [hS]; simp [ByteArray.size]
        have hSz' : (0 : Int) < S.size := by omega
        have hS0 : (S[0]'hSz) = c := by rw [byte_chAt, hS]; rfl
        have hSe : (S.toList == (⟨#[]⟩ : ByteArray).toList) = false := by rw [beq_list, hS]; rfl
        have hSe2 : (S.toList == []) = false := by rw [Lib.toList_data, hS]; rfl
        obtain ⟨n1, n2⟩ := u8_int (n := 34) (by decide) hc1
        replace n1 : ¬ (c.toNat : Int) = 34 := n1
        replace n2 : ((c.toNat : Int) == 34) = false := n2
        obtain ⟨n3, n4⟩ := u8_int (n := 39) (by decide) hc2
        replace n3 : ¬ (c.toNat : Int) = 39 := n3
        replace n4 : ((c.toNat : Int) == 39) = false := n4
        replace HQ := Lib.hid HQ
        clear hno hpf hq2 htr hS hc1 hc2
        go_wp2_with fail
        refine HQ.out.mono ?_
        rintro e w' ⟨rfl, hw'⟩
        replace hw' := hw'.symm
        subst hw'
        go_wp2_with fail
        go_roundg (5 - (i + 1))
        case measure => exact f4.out
        case rel => exact ⟨i + 1, rfl, by omega, by simp, hrow, hb⟩
    · obtain rfl : i = k := by omega
      have hqp : q = p := by
        have := hk.out
        rw [hq2] at this
        have h2 := Option.some.inj this
        cases q; cases p; simpa [Array.toList_inj] using h2
      subst hqp
      obtain ⟨h1, h2⟩ := pref_yes (p := q.data.toList) (X := X)
      rw [h1, h2] at HQ
      obtain ⟨S, hS⟩ : ∃ S : ByteArray, S = ⟨(34 :: X).toArray⟩ := ⟨_, rfl⟩
      rw [← hS] at HQ
      have hSz : 0 < S.size := by rw [hS]; simp [ByteArray.size]
      have hSz' : (0 : Int) < S.size := by omega
      have hS0 : (S[0]'hSz) = 34 := by rw [byte_chAt, hS]; rfl
      have hSe : (S.toList == (⟨#[]⟩ : ByteArray).toList) = false := by rw [beq_list, hS]; rfl
      have hSe2 : (S.toList == []) = false := by rw [Lib.toList_data, hS]; rfl
      have l34 : ((UInt8.toNat 34 : Nat) : Int) = 34 := rfl
      replace HQ := Lib.hid HQ
      clear h1 h2 hS hq2
      go_wp2_with fail
      refine HQ.out.mono ?_
      rintro e w' ⟨rfl, hw'⟩
      replace hw' := hw'.symm
      subst hw'
      go_wp2
      go_ret2
      exact ⟨rfl, hb.out⟩
end Go.Proofs.YtfaoamdlknlgpaaGreat

/- args: the program's Unquote. -/
namespace Go.Proofs.YtfaoamdlknlgpaaGreat
open Go.RowKit
set_option linter.unusedVariables false

theorem unesc_plain {c : UInt8} (r : List UInt8) (h : c ≠ 92) : unesc (c :: r) = c :: unesc r := by
  cases r with
  | nil => rfl
  | cons d r => conv => lhs; unfold unesc
                rw [if_neg (fun e => h e.1)]
theorem unesc_esc {d : UInt8} (r : List UInt8) (h : d = 34 ∨ d = 92) : unesc (92 :: d :: r) = d :: unesc r := by
  conv => lhs; unfold unesc
  rw [if_pos ⟨rfl, h⟩]
theorem unesc_not {d : UInt8} (r : List UInt8) (h1 : d ≠ 34) (h2 : d ≠ 92) : unesc (92 :: d :: r) = 92 :: unesc (d :: r) := by
  conv => lhs; unfold unesc
  rw [if_neg (by simp [h1, h2])]

theorem unesc_len : ∀ (X : List UInt8), (unesc X).length ≤ X.length
  | [] => Nat.le_refl _
  | [c] => Nat.le_refl _
  | c :: d :: r => by
    have h1 := unesc_len r
    have h2 := unesc_len (d :: r)
    unfold unesc
    split
    · simp only [List.length_cons] at *; omega
    · simp only [List.length_cons] at *; omega

set_option maxRecDepth 100000 in
set_option maxHeartbeats 4000000 in
theorem pUnquote_any (s : ByteArray) (hs : s.size ≤ 1000) (w : World) :
    Calls Tryz.prog 14 #[.string s] w fun e w' => e = .returned (unqV (unqP s.data.toList)) ∧ Below w.heap.size w w' := by
  obtain ⟨W1, hW1⟩ : ∃ W1, W1 = w.alloc (.cells #[.pointer none, .slice none 0 0] 74) := ⟨_, rfl⟩
  have hbl0 := bld_new w
  rw [← hW1] at hbl0
  have hb0 : Below w.heap.size w W1 := by rw [hW1]; exact (Below.refl _ w).alloc (Nat.le_refl _) _
  have HO : Calls Tryz.prog 39 #[.string s] W1 fun e w' => e = .returned (.tuple #[.agg (oneTok s.data.toList).toArray, .bool (oneK s.data.toList).isSome]) ∧ Below W1.heap.size W1 w' :=
    (lexOne_any s hs W1).mono fun e w' ⟨h1, h2⟩ => ⟨one_plain h1, h2⟩
  by_cases hk : oneK s.data.toList = some 4
  case neg =>
    have hr : unqP s.data.toList = none := if_neg hk
    rw [hr]
    cases hk2 : oneK s.data.toList with
    | none =>
      have ht : oneTok s.data.toList = zeroTok := by unfold oneTok; rw [hk2]
      rw [ht, hk2, hW1] at HO
      rw [hW1] at hb0
      unfold zeroTok at HO
      replace HO := Lib.hid HO
      replace hb0 := Lib.hid hb0
      clear hk hk2 ht hr hbl0 hW1
      go_enter Tryz.func14, Tryz.ntmps14
      go_wp2_with fail
      refine HO.out.mono ?_
      rintro e w2 ⟨rfl, b2⟩
      have hb2 := Lib.hid (hb0.out.trans (b2.mono hb0.out.size))
      clear b2
      go_wp2
      go_ret2
      exact ⟨rfl, hb2.out.alloc hb2.out.size _⟩
    | some k =>
      have hk4 : k ≠ 4 := fun e => hk (by rw [hk2, e])
      have hk4b : ((k : Int) == 4) = false := beq_false_of_ne (by omega)
      have hk4i : ¬ (k : Int) = 4 := by omega
      have ht : oneTok s.data.toList = [.int .i64 k, .string ⟨s.data.toList.toArray⟩, .bool false, .string ⟨#[]⟩, .int .i64 0, .int .i64 0, .bool false, .slice none 0 0] := by unfold oneTok; rw [hk2]
      rw [ht, hk2, hW1] at HO
      rw [hW1] at hb0
      replace HO := Lib.hid HO
      replace hb0 := Lib.hid hb0
      clear hk hk2 ht hr hbl0 hW1 hk4
      go_enter Tryz.func14, Tryz.ntmps14
      go_wp2_with fail
      refine HO.out.mono ?_
      rintro e w2 ⟨rfl, b2⟩
      have hb2 := Lib.hid (hb0.out.trans (b2.mono hb0.out.size))
      clear b2
      go_wp2
      go_ret2
      exact ⟨rfl, hb2.out.alloc hb2.out.size _⟩
  case pos =>
    obtain ⟨p, X, hp, hAf, hi, hl⟩ := one_back hk
    have hn : (lettersL s.data.toList 0).toNat = p.length := by rw [hl]; rfl
    have hr : unqP s.data.toList = some (unesc X) := by
      unfold unqP
      rw [if_pos hk, hn]
      obtain ⟨p', X', hp', hpl, hA', hin⟩ := ahead_form (A := s.data.toList) (n := p.length) (by rw [hAf]; exact ahead_of hp)
      rw [hin]
      rw [hAf] at hA'
      have h1 := List.append_inj hA' hpl.symm
      have h2 := List.cons.inj h1.2
      rw [List.append_cancel_right h2.2]
    rw [hr]
    have ht : oneTok s.data.toList = [.int .i64 4, .string ⟨s.data.toList.toArray⟩, .bool false, .string ⟨#[]⟩, .int .i64 0, .int .i64 0, .bool false, .slice none 0 0] := by unfold oneTok; rw [hk]; rfl
    rw [ht, hk] at HO
    obtain ⟨P, hP⟩ : ∃ P : ByteArray, P.data.toList = p := ⟨⟨p.toArray⟩, rfl⟩
    have HL := Lib.hid (fun W => pLetters_any s P (X ++ [34]) (by rw [hP]; exact hp) (by rw [hP]; exact hAf) W)
    obtain ⟨n, hnn⟩ : ∃ n, n = p.length := ⟨_, rfl⟩
    have hPs : P.size = n := by rw [← sz_list, hP, hnn]
    have hsz : s.size = n + X.length + 2 := by
      rw [← sz_list, hAf, hnn]; simp; omega
    obtain ⟨I, hI⟩ : ∃ I, I = s.extract (n + 1) (s.size - 1) := ⟨_, rfl⟩
    have hIX : I.data.toList = X := by
      rw [hI, show s.size - 1 = (n + 1) + X.length by omega, ext_list, hAf, hnn]
      have hdd : (p ++ 34 :: (X ++ [34])).drop (p.length + 1) = X ++ [34] := by
        rw [show p ++ 34 :: (X ++ [34]) = (p ++ [34]) ++ (X ++ [34]) by simp, show p.length + 1 = (p ++ [34]).length by simp, List.drop_left]
      rw [hdd, List.take_left]
    have hIs : I.size = X.length := by rw [← sz_list, hIX]
    obtain ⟨m, hm⟩ : ∃ m, m = X.length := ⟨_, rfl⟩
    have g1 : IntKind.i64.wrap ((n : Int) + 1) = (n : Int) + 1 := IntWalk.i64_in _ (by omega)
    have g2 : IntKind.i64.wrap ((s.size : Int) - 1) = (s.size : Int) - 1 := IntWalk.i64_in _ (by omega)
    have g3 : ((s.size : Int) - 1).toNat = s.size - 1 := by omega
    have g4 : (n : Int) + 1 ≤ (s.size : Int) - 1 := by omega
    have g5 : (s.size : Int) - 1 ≤ (s.size : Int) := by omega
    have g6 : ((n : Int) + 1).toNat = n + 1 := by omega
    have hm6 : m ≤ 1000 := by omega
    have hIm : I.size = m := by omega
    have hIXh := Lib.hid hIX
    obtain ⟨R, hR⟩ : ∃ R, R = unesc X := ⟨_, rfl⟩
    rw [← hR]
    have hXm := Lib.hid hm.symm
    have hR0 : Hid ([] ++ unesc (X.drop 0) = R) := Lib.hid (by rw [hR, List.drop_zero]; rfl)
    have hbl0' : Hid (∀ x, Below W1.heap.size W1 x → Bld x w.heap.size w.heap.size []) := Lib.hid fun x hx => hbl0.below hx
    rw [hW1] at HO hb0 hbl0'
    replace HO := Lib.hid HO
    replace hb0 := Lib.hid hb0
    clear hR hm hIs hIX hsz hAf hp hr hk ht hn hl hi hnn hP hbl0 hW1 W1
    replace hI := hI.symm
    go_enter Tryz.func14, Tryz.ntmps14
    go_wp2_with fail
    refine HO.out.mono ?_
    rintro e w2 ⟨rfl, b2⟩
    have hbl2 := hbl0'.out w2 b2
    have hb2 := Lib.hid (hb0.out.trans (b2.mono hb0.out.size))
    have hb3 := Lib.hid (hb2.out.alloc hb2.out.size (.cells #[.int .i64 4, .string ⟨s.data.toList.toArray⟩, .bool false, .string ⟨#[]⟩, .int .i64 0, .int .i64 0, .bool false, .slice none 0 0] 34))
    have hbl3 := Lib.hid (hbl2.alloc (.cells #[.int .i64 4, .string ⟨s.data.toList.toArray⟩, .bool false, .string ⟨#[]⟩, .int .i64 0, .int .i64 0, .bool false, .slice none 0 0] 34))
    clear b2 hbl2 hbl0' HO hb0
    go_wp2_with fail
    refine (HL.out _).mono ?_
    rintro e w4 ⟨rfl, b4⟩
    have hb4 := Lib.hid (hb3.out.trans (b4.mono hb3.out.size))
    have hbl4 := Lib.hid (hbl3.out.below b4)
    clear b4 hb3 hbl3 hb2 HL
    go_wp2_with fail
    clear g1 g2 g3 g4 g5 g6
    go_loopg [10] m (fun q v10 wx => ∃ (i : Nat) (Y : List UInt8), q = m - i ∧ i ≤ m ∧ v10 = .int .i64 i ∧ Hid (Bld wx w.heap.size w.heap.size Y) ∧ Hid (Y.length ≤ i) ∧ Hid (Y ++ unesc (X.drop i) = R) ∧ Hid (Below w.heap.size w wx))
    case atStart => exact ⟨0, [], rfl, Nat.zero_le _, rfl, hbl4, Lib.hid (Nat.zero_le _), hR0, hb4⟩
    case round =>
      clear hR0 hb4 hbl4
      obtain ⟨i, Y, hq, hi, rfl, hbl, hYi, hR, hb⟩ := hrel
      replace hq := hq.symm
      subst hq
      have hsB := hb.out.size
      have hY9 : Hid (Y.length ≤ 1000000000) := Lib.hid (by have := hYi.out; omega)
      by_cases hin : i < m
      · have hin' : (i : Int) < m := by omega
        have f4 : Hid (m - (i + 1) < m - i) := Lib.hid (by omega)
        have f5 : Hid (i + 1 < m → m - (i + 2) < m - i) := Lib.hid (by omega)
        have g1 : IntKind.i64.wrap ((i : Int) + 1) = (i : Int) + 1 := IntWalk.i64_in _ (by omega)
        have g2 : IntKind.i64.wrap ((i : Int) + 1 + 1) = (i : Int) + 1 + 1 := IntWalk.i64_in _ (by omega)
        obtain ⟨c, hc⟩ : ∃ c, X[i]? = some c := ⟨_, List.getElem?_eq_getElem (by rw [hXm.out]; exact hin)⟩
        have hci : (I[i]'(by omega)) = c := by
          rw [byte_chAt, hIXh.out]; unfold chAt; rw [List.getD_eq_getElem?_getD, hc]; rfl
        have hd : X.drop i = c :: X.drop (i + 1) := by
          rw [List.drop_eq_getElem_cons (by rw [hXm.out]; exact hin)]; congr 1; exact (List.getElem?_eq_some_iff.1 hc).2
        have hst := hR.out
        rw [hd] at hst
        have HW := Lib.hid (fun x => bld_byte hbl.out hY9.out hsB x)
        clear hc hR hbl hd
        by_cases c92 : c = 92
        · subst c92
          have l92 : ((UInt8.toNat 92 : Nat) : Int) = 92 := rfl
          by_cases hi1 : i + 1 < m
          · have hi1' : (i : Int) + 1 < m := by omega
            have hiz : (0 : Int) ≤ (i : Int) + 1 := by omega
            have hit : ((i : Int) + 1).toNat = i + 1 := by omega
            obtain ⟨d, hdd⟩ : ∃ d, X[i + 1]? = some d := ⟨_, List.getElem?_eq_getElem (by rw [hXm.out]; exact hi1)⟩
            have hdi : (I[i + 1]'(by omega)) = d := by
              rw [byte_chAt, hIXh.out]; unfold chAt; rw [List.getD_eq_getElem?_getD, hdd]; rfl
            have hd2 : X.drop (i + 1) = d :: X.drop (i + 2) := by
              rw [List.drop_eq_getElem_cons (by rw [hXm.out]; exact hi1)]; congr 1; exact (List.getElem?_eq_some_iff.1 hdd).2
            rw [hd2] at hst
            clear hdd
            by_cases d34 : d = 34
            · subst d34
              have l34 : ((UInt8.toNat 34 : Nat) : Int) = 34 := rfl
              rw [unesc_esc _ (.inl rfl)] at hst
              have hst' : Hid ((Y ++ [34]) ++ unesc (X.drop (i + 2)) = R) := Lib.hid (by rw [← hst]; simp)
              clear hst hd2
              have HW1 := HW.out 34
              rw [show ((UInt8.toNat 34 : Nat) : Int) = 34 from rfl] at HW1
              replace HW1 := Lib.hid HW1
              go_wp2_with fail
              refine HW1.out.mono ?_
              rintro e w5 ⟨rfl, hbl5, hk5⟩
              have hb5 := Lib.hid (hb.out.trans hk5.below)
              replace hbl5 := Lib.hid hbl5
              clear hk5 HW1 HW
              go_wp2_with fail
              go_roundg (m - (i + 2))
              case measure => exact f5.out hi1
              case rel => exact ⟨i + 2, Y ++ [34], rfl, by omega, by simp; omega, hbl5, Lib.hid (by have := hYi.out; rw [List.length_append]; simp; omega), hst', hb5⟩
            obtain ⟨d34a, d34b⟩ := u8_int (n := 34) (by decide) d34
            replace d34a : ¬ (d.toNat : Int) = 34 := d34a
            replace d34b : ((d.toNat : Int) == 34) = false := d34b
            by_cases d92 : d = 92
            · subst d92
              rw [unesc_esc _ (.inr rfl)] at hst
              have hst' : Hid ((Y ++ [92]) ++ unesc (X.drop (i + 2)) = R) := Lib.hid (by rw [← hst]; simp)
              clear hst hd2
              have HW1 := HW.out 92
              rw [show ((UInt8.toNat 92 : Nat) : Int) = 92 from rfl] at HW1
              replace HW1 := Lib.hid HW1
              go_wp2_with fail
              refine HW1.out.mono ?_
              rintro e w5 ⟨rfl, hbl5, hk5⟩
              have hb5 := Lib.hid (hb.out.trans hk5.below)
              replace hbl5 := Lib.hid hbl5
              clear hk5 HW1 HW
              go_wp2_with fail
              go_roundg (m - (i + 2))
              case measure => exact f5.out hi1
              case rel => exact ⟨i + 2, Y ++ [92], rfl, by omega, by simp; omega, hbl5, Lib.hid (by have := hYi.out; rw [List.length_append]; simp; omega), hst', hb5⟩
            obtain ⟨d92a, d92b⟩ := u8_int (n := 92) (by decide) d92
            replace d92a : ¬ (d.toNat : Int) = 92 := d92a
            replace d92b : ((d.toNat : Int) == 92) = false := d92b
            rw [unesc_not _ d34 d92, ← hd2] at hst
            have hst' : Hid ((Y ++ [92]) ++ unesc (X.drop (i + 1)) = R) := Lib.hid (by rw [← hst]; simp)
            clear hst hd2
            replace d34 := Lib.hid d34
            replace d92 := Lib.hid d92
            have HW1 := HW.out 92
            rw [show ((UInt8.toNat 92 : Nat) : Int) = 92 from rfl] at HW1
            replace HW1 := Lib.hid HW1
            go_wp2_with fail
            refine HW1.out.mono ?_
            rintro e w5 ⟨rfl, hbl5, hk5⟩
            have hb5 := Lib.hid (hb.out.trans hk5.below)
            replace hbl5 := Lib.hid hbl5
            clear hk5 HW1 HW
            go_wp2_with fail
            go_roundg (m - (i + 1))
            case measure => exact f4.out
            case rel => exact ⟨i + 1, Y ++ [92], rfl, by omega, by simp, hbl5, Lib.hid (by have := hYi.out; rw [List.length_append]; simp; omega), hst', hb5⟩
          · have hi1n : ¬ (i : Int) + 1 < m := by omega
            have hst' : Hid ((Y ++ [92]) ++ unesc (X.drop (i + 1)) = R) := Lib.hid (by
              rw [List.drop_eq_nil_of_le (by rw [hXm.out]; omega)] at hst ⊢
              rw [← hst]; simp [unesc])
            clear hst
            have HW1 := HW.out 92
            rw [show ((UInt8.toNat 92 : Nat) : Int) = 92 from rfl] at HW1
            replace HW1 := Lib.hid HW1
            go_wp2_with fail
            refine HW1.out.mono ?_
            rintro e w5 ⟨rfl, hbl5, hk5⟩
            have hb5 := Lib.hid (hb.out.trans hk5.below)
            replace hbl5 := Lib.hid hbl5
            clear hk5 HW1 HW
            go_wp2_with fail
            go_roundg (m - (i + 1))
            case measure => exact f4.out
            case rel => exact ⟨i + 1, Y ++ [92], rfl, by omega, by simp, hbl5, Lib.hid (by have := hYi.out; rw [List.length_append]; simp; omega), hst', hb5⟩
        rw [unesc_plain _ c92] at hst
        obtain ⟨c92a, c92b⟩ := u8_int (n := 92) (by decide) c92
        replace c92a : ¬ (c.toNat : Int) = 92 := c92a
        replace c92b : ((c.toNat : Int) == 92) = false := c92b
        have hst' : Hid ((Y ++ [c]) ++ unesc (X.drop (i + 1)) = R) := Lib.hid (by rw [← hst]; simp)
        clear hst
        replace c92 := Lib.hid c92
        have HW1 := HW.out c
        replace HW1 := Lib.hid HW1
        go_wp2_with fail
        refine HW1.out.mono ?_
        rintro e w5 ⟨rfl, hbl5, hk5⟩
        have hb5 := Lib.hid (hb.out.trans hk5.below)
        replace hbl5 := Lib.hid hbl5
        clear hk5 HW1 HW
        go_wp2_with fail
        go_roundg (m - (i + 1))
        case measure => exact f4.out
        case rel => exact ⟨i + 1, Y ++ [c], rfl, by omega, by simp, hbl5, Lib.hid (by have := hYi.out; rw [List.length_append]; simp; omega), hst', hb5⟩
      · obtain rfl : i = m := by omega
        have hin' : ¬ (i : Int) < (i : Int) := by omega
        have hRY : Hid (Y = R) := Lib.hid (by
          have := hR.out
          rw [List.drop_eq_nil_of_le (by rw [hXm.out]; exact Nat.le_refl _)] at this
          simpa [unesc] using this)
        have HD := Lib.hid (bld_done hbl.out hsB)
        go_wp2_with fail
        refine HD.out.mono ?_
        rintro e w4 ⟨rfl, _, hk4⟩
        have hb4 := Lib.hid (hb.out.trans hk4.below)
        clear hk4
        go_wp2
        go_ret2
        exact ⟨by rw [← hRY.out]; rfl, hb4.out⟩
end Go.Proofs.YtfaoamdlknlgpaaGreat

/- oxbowlaw10's awake. -/
namespace Go.Proofs.YtfaoamdlknlgpaaGreat
open Go.RowKit
set_option linter.unusedVariables false

/-- what the document fixes, in plain Lean -/
def aw1 : List (List Tf) × List Tf × Nat := colP ((toksL (bs [40, 97, 44, 40, 98, 44, 99, 41, 41, 100]).data.toList).map nilTf)
def aw2 : List (List Tf) × List Tf × Nat := colP ((toksL (bs [40, 97]).data.toList).map nilTf)
theorem aw1_ok : (decide (aw1.1.length = 2) && decide ((aw1.1.map List.length) = [1, 5]) && decide (aw1.2.1.length = 1) && decide (aw1.2.2 = 9)) = true := by kernel_rfl
theorem aw2_ok : decide (aw2.2.2 = 0) = true := by kernel_rfl
theorem aw3_ok : decide (unqP (quoteL [120, 34, 121]) = some [120, 34, 121]) = true := by kernel_rfl
theorem aw4_ok : decide (strzL (toksL (bs [97, 32, 32, 43, 32, 34, 98, 34]).data.toList) = [34, 97, 32, 43, 32, 92, 34, 98, 92, 34, 34]) = true := by kernel_rfl
theorem aw5_ok : (toksL (bs [97, 32, 32, 43, 32, 34, 98, 34]).data.toList).all (fun t => decide (t.text.size ≤ 1000)) = true := by kernel_rfl

theorem collP1 {B : Nat} {e : Ending} {w' : World} (h : CollPost aw1 B e w') : ∃ b o cap la lc ca cc, e = .returned (.tuple #[.slice (some ⟨b, o, none⟩) 2 cap, .slice ca 1 cc, .int .i64 9, .bool true]) ∧ w'.cell? ⟨b, o + 1, none⟩ = some (.slice la 5 lc) := by
  have hf := aw1_ok
  simp only [Bool.and_eq_true, decide_eq_true_eq] at hf
  obtain ⟨⟨⟨h1, h2⟩, h3⟩, h4⟩ := hf
  obtain ⟨v2, v3, rfl, ho2, ho3⟩ := h
  obtain ⟨ao, cap, rfl⟩ := ho2.slice h1
  obtain ⟨ca, cc, rfl⟩ := ho3.slice h3
  obtain ⟨X, hX⟩ : ∃ X, aw1.1[1]? = some X := ⟨_, List.getElem?_eq_getElem (by omega)⟩
  have hXl : X.length = 5 := by
    have : (aw1.1.map List.length)[1]? = some 5 := by rw [h2]; rfl
    rw [List.getElem?_map, hX] at this
    simpa using this
  obtain ⟨b, o, la, lc, rfl, hc, _⟩ := ho2.cell hX
  rw [hXl] at hc
  refine ⟨b, o, cap, la, lc, ca, cc, ?_, hc⟩
  rw [h4]
  rfl

theorem collP2 {B : Nat} {e : Ending} {w' : World} (h : CollPost aw2 B e w') : ∃ v2 v3, e = .returned (.tuple #[v2, v3, .int .i64 0, .bool false]) := by
  have hf := aw2_ok
  simp only [decide_eq_true_eq] at hf
  obtain ⟨v2, v3, rfl, ho2, ho3⟩ := h
  refine ⟨v2, v3, ?_⟩
  rw [hf]
  rfl

set_option maxHeartbeats 4000000 in
set_option maxRecDepth 100000 in
theorem awake10_any (w : World) :
    Calls Tryz.prog 13 #[] w fun e w' => e = .returned (.bool true) ∧ Below w.heap.size w w' := by
  have HU : ∀ W, Calls Tryz.prog 14 #[.string ⟨(quoteL (bs [120, 34, 121]).data.toList).toArray⟩] W fun e w' => e = .returned (.tuple #[.string (bs [120, 34, 121]), .bool true]) ∧ Below W.heap.size W w' := fun W => by
    have h := pUnquote_any ⟨(quoteL (bs [120, 34, 121]).data.toList).toArray⟩ (by decide) W
    have h3 := aw3_ok
    simp only [decide_eq_true_eq] at h3
    rw [show (⟨(quoteL (bs [120, 34, 121]).data.toList).toArray⟩ : ByteArray).data.toList = quoteL [120, 34, 121] by simp, h3] at h
    exact h
  have HQ := fun W => pQuoted_any (bs [120, 34, 121]) (by decide) W
  obtain ⟨qs, hqs⟩ : ∃ qs, qs = (⟨(quoteL (bs [120, 34, 121]).data.toList).toArray⟩ : ByteArray) := ⟨_, rfl⟩
  rw [← hqs] at HU HQ
  clear hqs
  replace HU := Lib.hid HU
  replace HQ := Lib.hid HQ
  go_enter Tryz.func13, Tryz.ntmps13
  go_wp2_with fail
  refine (toks10_row (bs [40, 97, 44, 40, 98, 44, 99, 41, 41, 100]) (by decide) w).mono ?_
  rintro e w1 ⟨l1, n1, ao1, cap1, rfl, hb1, hl1, hr1⟩
  have HC1 : Hid (Calls Tryz.prog 22 #[.slice ao1 n1 cap1] w1 fun e w' => CollPost aw1 w1.heap.size e w' ∧ Below w1.heap.size w1 w') := Lib.hid (by
    obtain ⟨h1, h2, h3, h4⟩ := hr1.out
    subst h1
    have he : colP (l1.map nilTf) = aw1 := by rw [hl1.out, aw1]
    have h := collectN_any l1 ao1 cap1 (Nat.le_trans h2 (by decide)) h3 w1 h4
    rw [he] at h
    exact h)
  clear hl1 hr1
  go_wp2_with fail
  refine HC1.out.mono ?_
  rintro e w2 ⟨hp2, hb2⟩
  obtain ⟨lb, lo, lcp, la, lc, ca, cc, rfl, hc2⟩ := collP1 hp2
  have hB2 := hb1.trans (hb2.mono hb1.size)
  clear hp2 hb1 hb2 HC1
  go_wp2_with fail
  refine (toks10_row (bs [40, 97]) (by decide) w2).mono ?_
  rintro e w3 ⟨l3, n3, ao3, cap3, rfl, hb3, hl3, hr3⟩
  have HC3 : Hid (Calls Tryz.prog 22 #[.slice ao3 n3 cap3] w3 fun e w' => CollPost aw2 w3.heap.size e w' ∧ Below w3.heap.size w3 w') := Lib.hid (by
    obtain ⟨h1, h2, h3, h4⟩ := hr3.out
    subst h1
    have he : colP (l3.map nilTf) = aw2 := by rw [hl3.out, aw2]
    have h := collectN_any l3 ao3 cap3 (Nat.le_trans h2 (by decide)) h3 w3 h4
    rw [he] at h
    exact h)
  clear hl3 hr3
  have hc3 := kept_cell hb3 hc2
  clear hc2
  have hB3 := hB2.trans (hb3.mono hB2.size)
  clear hb3 hB2
  go_wp2_with fail
  refine HC3.out.mono ?_
  rintro e w4 ⟨hp4, hb4⟩
  obtain ⟨x2, x3, rfl⟩ := collP2 hp4
  have hc4 := kept_cell hb4 hc3
  have hB4 := hB3.trans (hb4.mono hB3.size)
  clear hc3 hp4 hb4 hB3 HC3
  go_wp2_with fail
  refine (HQ.out w4).mono ?_
  rintro e w5 ⟨rfl, hb5⟩
  have hc5 := kept_cell hb5 hc4
  have hB5 := hB4.trans (hb5.mono hB4.size)
  clear hc4 hb5 hB4
  go_wp2_with fail
  refine (HU.out w5).mono ?_
  rintro e w6 ⟨rfl, hb6⟩
  have hc6 := kept_cell hb6 hc5
  have hB6 := hB5.trans (hb6.mono hB5.size)
  clear hc5 hb6 hB5
  go_wp2_with fail
  refine (toks10_row (bs [97, 32, 32, 43, 32, 34, 98, 34]) (by decide) w6).mono ?_
  rintro e w7 ⟨l7, n7, ao7, cap7, rfl, hb7, hl7, hr7⟩
  have HS7 : Hid (Calls Tryz.prog 16 #[.slice ao7 n7 cap7] w7 fun e w' => e = .returned (.string (bs [34, 97, 32, 43, 32, 92, 34, 98, 92, 34, 34])) ∧ Below w7.heap.size w7 w') := Lib.hid (by
    obtain ⟨h1, h2, h3, h4⟩ := hr7.out
    subst h1
    have hm : (l7.map nilTv).length = l7.length := by simp
    have h := pStringize_any (l7.map nilTv) ao7 cap7 (by rw [hm]; exact Nat.le_trans h2 (by decide)) (by rw [hm]; exact h3) (fun p hp => by
      obtain ⟨t, ht, rfl⟩ := List.mem_map.1 hp
      have h5 := aw5_ok
      rw [← hl7.out, List.all_eq_true] at h5
      have h6 := h5 t ht
      rw [decide_eq_true_eq] at h6
      exact h6) w7 h4 (fun p hp => by
      obtain ⟨t, ht, rfl⟩ := List.mem_map.1 hp
      exact ⟨none, 0, 0, rfl⟩)
    have h6 := aw4_ok
    rw [← hl7.out, decide_eq_true_eq] at h6
    rw [hm, show (l7.map nilTv).map (·.1) = l7 by rw [List.map_map]; exact List.map_id _, h6] at h
    exact h)
  clear hl7 hr7
  have hB7 := hB6.trans (hb7.mono hB6.size)
  clear hb7 hB6 hc6
  go_wp2_with fail
  refine HS7.out.mono ?_
  rintro e w8 ⟨rfl, hb8⟩
  go_wp2
  go_ret
  exact ⟨rfl, hB7.trans (hb8.mono hB7.size)⟩
end Go.Proofs.YtfaoamdlknlgpaaGreat
