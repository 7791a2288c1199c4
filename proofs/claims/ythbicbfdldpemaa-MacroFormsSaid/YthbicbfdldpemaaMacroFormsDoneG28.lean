/- Texts of this seat's proofs, laid into one file. -/
import Derived.Test.YthbicbfdldpemaaMacroFormsDoneG13
import Derived.Test.YthbicbfdldpemaaMacroFormsDoneG19
import Derived.Test.YthbicbfdldpemaaMacroFormsDoneG20
import Derived.Test.YthbicbfdldpemaaMacroFormsDoneG27
/- MacroForms: word, Texts, Text. -/
namespace Go.Proofs.Ythbicbfdldpemaa
open Go.RowKit
set_option linter.unusedVariables false

def wordB (s : ByteArray) : Bool := decide ((s.data.toList ≠ [] ∧ ∀ c ∈ s.data.toList, 97 ≤ c ∧ c ≤ 122) ∧ s.size ≤ 20 ∧ s.data.toList ≠ defN)

theorem wordB_iff {s : ByteArray} (h : wordB s = true) : Wd s.data.toList ∧ s.size ≤ 20 ∧ s.data.toList ≠ defN := by
  unfold wordB at h
  rw [decide_eq_true_eq] at h
  exact h

set_option maxRecDepth 100000 in
set_option maxHeartbeats 4000000 in
theorem word_any (s : ByteArray) (hs : s.size ≤ 9223372036854775807) (w : World) : Calls Try.prog 12 #[.string s] w fun e w' => e = .returned (.bool (wordB s)) ∧ w' = w := by
  obtain ⟨R, hR⟩ : ∃ R, R = wordB s := ⟨_, rfl⟩
  have HR : Hid (R = wordB s) := Lib.hid hR
  rw [← hR]
  clear hR
  go_enter Try.func12, Try.ntmps12
  go_wp2_with fail
  go_loopg [3] s.size (fun u v wr => ∃ k : Nat, u = s.size - k ∧ k ≤ s.size ∧ v = .int .i64 k ∧ wr = w ∧ Hid (∀ j, j < k → 97 ≤ chAt s.data.toList j ∧ chAt s.data.toList j ≤ 122))
  case atStart => exact ⟨0, rfl, Nat.zero_le _, rfl, rfl, Lib.hid (by intro j h; omega)⟩
  case round =>
    obtain ⟨k, rfl, hk, rfl, hwr, hch⟩ := hrel
    replace hwr := hwr.symm
    subst hwr
    by_cases hkw : k < s.size
    · have f2 : (k : Int) < (s.size : Int) := by omega
      have hck : chAt s.data.toList k = s[k]'hkw := get_byte hkw
      have hbad : ¬ (97 ≤ s[k]'hkw ∧ s[k]'hkw ≤ 122) → Hid (R = false) := fun hb => Lib.hid (by
        rw [HR.out]
        unfold wordB
        rw [decide_eq_false_iff_not]
        intro h
        apply hb
        rw [← hck]
        have hl : k < s.data.toList.length := by rw [← Lib.size_eq]; exact hkw
        rw [chAt_lt (List.getElem?_eq_getElem hl)]
        exact h.1.2 _ (List.getElem_mem hl))
      by_cases hlo : (s[k]'hkw).toNat < 97
      · have d1 : ((s[k]'hkw).toNat : Int) < 97 := by omega
        have hf := hbad (fun h => by have := h.1; rw [UInt8.le_iff_toNat_le] at this; simp at this; omega)
        clear hbad hck
        go_wp2
        go_ret
        exact ⟨by rw [hf.out]; rfl, rfl⟩
      · have d1 : ¬ ((s[k]'hkw).toNat : Int) < 97 := by omega
        by_cases hhi : 122 < (s[k]'hkw).toNat
        · have d2 : (122 : Int) < ((s[k]'hkw).toNat : Int) := by omega
          have hf := hbad (fun h => by have := h.2; rw [UInt8.le_iff_toNat_le] at this; simp at this; omega)
          clear hbad hck
          go_wp2
          go_ret
          exact ⟨by rw [hf.out]; rfl, rfl⟩
        · have d2 : ¬ (122 : Int) < ((s[k]'hkw).toNat : Int) := by omega
          have hnext : Hid (∀ j, j < k + 1 → 97 ≤ chAt s.data.toList j ∧ chAt s.data.toList j ≤ 122) := Lib.hid (by
            intro j hj
            by_cases h : j = k
            · rw [h, hck, UInt8.le_iff_toNat_le, UInt8.le_iff_toNat_le]
              exact ⟨by simpa using hlo, by simpa using hhi⟩
            · exact hch.out j (by omega))
          clear hck hbad
          go_wp2_with fail
          go_roundg (s.size - (k + 1))
          case measure => omega
          case rel => exact ⟨k + 1, rfl, by omega, by go_num, rfl, hnext⟩
    · have f2 : ¬ (k : Int) < (s.size : Int) := by omega
      have hall : ∀ c ∈ s.data.toList, 97 ≤ c ∧ c ≤ 122 := by
        intro c hc
        obtain ⟨j, hj, rfl⟩ := List.mem_iff_getElem.1 hc
        have := hch.out j (by rw [← Lib.size_eq] at hj; omega)
        rw [chAt_lt (List.getElem?_eq_getElem hj)] at this
        exact this
      have hR2 : R = (decide (s.data.toList ≠ []) && decide (s.size ≤ 20) && decide (s.data.toList ≠ defN)) := by
        rw [HR.out]
        unfold wordB
        by_cases h1 : s.data.toList = []
        · simp [h1]
        · by_cases h2 : s.size ≤ 20
          · by_cases h3 : s.data.toList = defN
            · simp [h2, h3]
            · rw [decide_eq_true (show (s.data.toList ≠ [] ∧ ∀ c ∈ s.data.toList, 97 ≤ c ∧ c ≤ 122) ∧ s.size ≤ 20 ∧ s.data.toList ≠ defN from ⟨⟨h1, hall⟩, h2, h3⟩), decide_eq_true h1, decide_eq_true h2, decide_eq_true h3]
              rfl
          · simp [h2]
      replace hR2 := Lib.hid hR2
      clear hall
      cases h0 : s.toList.isEmpty with
      | true =>
        go_wp2
        go_ret
        refine ⟨?_, rfl⟩
        rw [hR2.out]
        rw [Lib.toList_data] at h0
        rw [List.isEmpty_iff.1 h0]
        simp
      | false =>
        by_cases h20 : s.size ≤ 20
        · have f3 : (s.size : Int) ≤ 20 := by omega
          cases hd : (s.toList == [100, 101, 102, 105, 110, 101, 100]) with
          | true =>
            go_wp2
            go_ret
            refine ⟨?_, rfl⟩
            rw [hR2.out]
            rw [Lib.toList_data, beq_iff_eq] at hd
            rw [show s.data.toList = defN from hd]
            simp
          | false =>
            go_wp2
            go_ret
            refine ⟨?_, rfl⟩
            rw [hR2.out]
            rw [Lib.toList_data] at hd h0
            have g1 : s.data.toList ≠ [] := by intro h; rw [h] at h0; cases h0
            have g2 : s.data.toList ≠ defN := by intro h; rw [h] at hd; exact absurd hd (by decide)
            simp [g1, g2, h20]
        · have f3 : ¬ (s.size : Int) ≤ 20 := by omega
          go_wp2
          go_ret
          refine ⟨?_, rfl⟩
          rw [hR2.out]
          simp [h20]

set_option maxRecDepth 100000 in
theorem textsX_yes (A : List ByteArray) (a1 a2 : Option Addr) (c d : Nat) (hl : A.length ≤ 1000000) (w : World) (h1 : Row w 1 a1 (A.map fun p => [.string p])) (h2 : Row w 1 a2 (A.map fun p => [.string p])) (hc : A.length ≤ c) (hd : A.length ≤ d) :
    Calls Try.prog 16 #[.slice a1 A.length c, .slice a2 A.length d] w fun e w' => e = .returned (.bool true) ∧ Below w.heap.size w w' := by
  obtain ⟨n, hn⟩ : ∃ n, n = A.length := ⟨_, rfl⟩
  have HN : Hid (A.length = n) := Lib.hid hn.symm
  rw [← hn] at hl hc hd ⊢
  clear hn
  go_enter Try.func16, Try.ntmps16
  go_wp2_with fail
  go_loopg [5] n (fun u i wr => ∃ k : Nat, u = n - k ∧ k ≤ n ∧ i = .int .i64 k ∧ Below w.heap.size w wr)
  case atStart => exact ⟨0, rfl, Nat.zero_le _, rfl, Below.refl _ _⟩
  case round =>
    obtain ⟨k, rfl, hk, rfl, hb⟩ := hrel
    by_cases hlt : k < n
    · obtain ⟨s, hp⟩ : ∃ p, A[k]? = some p := ⟨A[k]'(by rw [HN.out]; exact hlt), by simp⟩
      obtain ⟨rb, o, rfl, hat⟩ := (h1.below hb) (by intro h; simp at h; subst h; simp at hp)
      obtain ⟨rb2, o2, rfl, hat2⟩ := (h2.below hb) (by intro h; simp at h; subst h; simp at hp)
      have t0 := str_cell hat hp
      have s0 := str_cell hat2 hp
      have e1 : (k : Int) < n := by omega
      clear hat hat2 hp
      go_wp2_with fail
      go_quiet (fail)
      have hb2 := hb.trans ((drewN_below' wr nq).mono hb.size)
      go_wp2_with fail
      go_roundg (n - (k + 1))
      case measure => omega
      case rel => exact ⟨k + 1, rfl, by omega, by go_num, hb2⟩
    · have e1 : ¬ (k : Int) < n := by omega
      go_wp2
      go_ret
      exact ⟨rfl, hb⟩

theorem tell_app : ∀ (A B : List Tq), tellL (A ++ B) = tellL A ++ tellL B
  | [], B => rfl
  | q :: A, B => by simp [tellL, tell_app A B]

set_option maxRecDepth 100000 in
set_option maxHeartbeats 4000000 in
theorem rText_any (P : List (Tm × Value)) (hv : ∀ p ∈ P, p.2 = .slice none 0 0) (T : List Tq) (hA : Are (P.map (·.1)) T) (hf : unspQ T = T) (hsz : (tellL T).length ≤ 1000) (ao : Option Addr) (cap : Nat) (hcap : P.length ≤ cap) (hn : P.length ≤ 1000000) (w : World) (hrow : Row w 8 ao (P.map tvC)) :
    Calls Try.prog 17 #[.slice ao P.length cap] w fun e w' => e = .returned (.string ⟨(tellL T).toArray⟩) ∧ w' = w := by
  obtain ⟨n, hn'⟩ : ∃ n, n = P.length := ⟨_, rfl⟩
  have HN : Hid (P.length = n) := Lib.hid hn'.symm
  have HTn : Hid (T.length = n) := Lib.hid (by
    have := congrArg List.length hA
    simp only [List.length_map] at this
    rw [hn', ← this])
  rw [← hn'] at hcap hn ⊢
  clear hn'
  replace hv := Lib.hid hv
  replace hA := Lib.hid hA
  replace hf := Lib.hid hf
  replace hsz := Lib.hid hsz
  go_enter Try.func17, Try.ntmps17
  go_wp2_with fail
  go_loopg [3, 4] n (fun u v3 v4 wr => ∃ (k : Nat) (sb : ByteArray), u = n - k ∧ k ≤ n ∧ v3 = .string sb ∧ v4 = .int .i64 k ∧ wr = w ∧ Hid (sb.data.toList = tellL (T.take k)))
  case atStart => exact ⟨0, _, rfl, Nat.zero_le _, rfl, rfl, rfl, Lib.hid rfl⟩
  case round =>
    obtain ⟨k, sb, rfl, hk, rfl, rfl, hwr, hsb⟩ := hrel
    replace hwr := hwr.symm
    subst hwr
    by_cases hkn : k < n
    · have f1 : (k : Int) < n := by omega
      obtain ⟨⟨t, v⟩, hp⟩ : ∃ p, P[k]? = some p := ⟨P[k]'(by rw [HN.out]; exact hkn), by simp⟩
      obtain ⟨q, hq⟩ : ∃ q, T[k]? = some q := ⟨T[k]'(by rw [HTn.out]; exact hkn), by simp⟩
      have hv0 := hv.out _ (List.mem_of_getElem? hp)
      simp only at hv0
      subst hv0
      have hAk := congrArg (fun l => l[k]?) hA.out
      simp only [List.getElem?_map, hp, hq, Option.map_some, Option.some.injEq, Prod.mk.injEq] at hAk
      obtain ⟨rb, o, rfl, hat⟩ := hrow (by intro h; simp at h; subst h; simp at hp)
      obtain ⟨t0, t1, t2, t3, t4, t5, t6, t7⟩ := tok8 (tok_at hat hp)
      have htake : T.take (k + 1) = T.take k ++ [q] := by rw [List.take_add_one, hq]; rfl
      obtain ⟨tb, htb⟩ : ∃ tb : ByteArray, tb = bs q.2.1 := ⟨_, rfl⟩
      have htl : tb.data.toList = q.2.1 := by rw [htb]
      rw [hAk.2.1, ← htb] at t1
      rw [hAk.2.2] at t2
      have hbig : sb.size + 1 + tb.size ≤ 1001 := by
        have h1 := hsz.out
        rw [← List.take_append_drop (k + 1) T, tell_app, htake, tell_app, List.length_append, List.length_append, ← hsb.out, ← Lib.size_eq] at h1
        have h2 : tb.size = q.2.1.length := by rw [Lib.size_eq, htl]
        simp only [tellL, List.length_append, List.append_nil] at h1
        omega
      have hz1 : sb.size + 1 ≤ 9223372036854775807 := by omega
      have hz2 : sb.size + 1 + tb.size ≤ 9223372036854775807 := by omega
      have hz3 : sb.size + tb.size ≤ 9223372036854775807 := by omega
      have hz4 : (sb ++ (⟨#[32]⟩ : ByteArray)).size + tb.size ≤ 9223372036854775807 := by rw [ByteArray.size_append]; exact hz2
      obtain ⟨sp, hsp⟩ : ∃ sp, sp = q.2.2 := ⟨_, rfl⟩
      rw [← hsp] at t2
      have hq0 : k = 0 → sp = false := by
        intro h
        subst h
        have h1 := hf.out
        cases hT : T with
        | nil => rw [hT] at hq; simp at hq
        | cons x T' =>
          rw [hT] at hq h1
          simp only [List.getElem?_cons_zero, Option.some.injEq] at hq
          subst hq
          simp only [unspQ, List.cons.injEq] at h1
          have := congrArg (fun y : Tq => y.2.2) h1.1
          rw [hsp]
          exact this.symm
      have hnext1 : sp = true → Hid ((sb ++ (⟨#[32]⟩ : ByteArray) ++ tb).data.toList = tellL (T.take (k + 1))) := fun h => Lib.hid (by
        rw [data_appY, data_appY, hsb.out, htake, tell_app, htl]
        simp [tellL, ← hsp, h])
      have hnext0 : sp = false → Hid ((sb ++ tb).data.toList = tellL (T.take (k + 1))) := fun h => Lib.hid (by
        rw [data_appY, hsb.out, htake, tell_app, htl]
        simp [tellL, ← hsp, h])
      replace htb := Lib.hid htb
      replace hsp := Lib.hid hsp
      clear hat hp hq hAk htake htl
      by_cases h0 : 0 < k
      · have f2 : (0 : Int) < k := by omega
        clear hq0
        cases sp with
        | true =>
          have hnx := hnext1 rfl
          clear hnext0 hnext1
          go_wp2_with fail
          go_roundg (n - (k + 1))
          case measure => omega
          case rel => exact ⟨k + 1, _, rfl, by omega, rfl, by go_num, rfl, hnx⟩
        | false =>
          have hnx := hnext0 rfl
          clear hnext0 hnext1
          go_wp2_with fail
          go_roundg (n - (k + 1))
          case measure => omega
          case rel => exact ⟨k + 1, _, rfl, by omega, rfl, by go_num, rfl, hnx⟩
      · have f2 : ¬ (0 : Int) < k := by omega
        have hs := hq0 (by omega)
        subst hs
        have hnx := hnext0 rfl
        clear hnext0 hnext1 hq0
        go_wp2_with fail
        go_roundg (n - (k + 1))
        case measure => omega
        case rel => exact ⟨k + 1, _, rfl, by omega, rfl, by go_num, rfl, hnx⟩
    · have f1 : ¬ (k : Int) < n := by omega
      have hfin : sb = ⟨(tellL T).toArray⟩ := ext_toList (by
        rw [hsb.out, List.take_of_length_le (by rw [HTn.out]; omega)])
      subst hfin
      go_wp2
      go_ret
      exact ⟨rfl, rfl⟩
end Go.Proofs.Ythbicbfdldpemaa

/- MacroForms: what its texts are, in one place. -/
namespace Go.Proofs.Ythbicbfdldpemaa
open Go.RowKit
set_option linter.unusedVariables false

theorem toksL_M (s : List UInt8) : toksL s = toksM s := by
  unfold toksL toksM toksOf
  cases (linesL s).1 <;> rfl

/-- the parameters that were told -/
structure ParsAt (ps : List ByteArray) (i : Nat) (sb : ByteArray) : Prop where
  text : sb.data.toList = joinP ((ps.take i).map (·.data.toList))
  words : ∀ p ∈ ps.take i, wordB p = true
  nodup : (ps.take i).Nodup
  size : sb.size ≤ 22 * i

theorem ParsAt.next {ps : List ByteArray} {i : Nat} {sb p : ByteArray} (h : ParsAt ps i sb) (hp : ps[i]? = some p) (hw : wordB p = true) (hn : ∀ k q, k < i → ps[k]? = some q → q ≠ p) (sb' : ByteArray) (hs : sb' = if i = 0 then p else sb ++ (⟨#[44, 32]⟩ : ByteArray) ++ p) : ParsAt ps (i + 1) sb' := by
  have hlt := (List.getElem?_eq_some_iff.1 hp).1
  have ht : ps.take (i + 1) = ps.take i ++ [p] := by rw [List.take_add_one, hp]; rfl
  have hsz := (wordB_iff hw).2.1
  refine ⟨?_, ?_, ?_, ?_⟩
  · rw [ht, List.map_append, List.map_cons, List.map_nil, joinP_snoc]
    by_cases h0 : i = 0
    · subst h0
      rw [if_pos rfl] at hs
      rw [hs]
      simp
    · rw [if_neg h0] at hs
      rw [if_neg (by intro e; have := congrArg List.length e; rw [List.length_map, List.length_take] at this; simp only [List.length_nil] at this; omega), hs, data_appY, data_appY, h.text]
      simp
  · intro q hq
    rw [ht] at hq
    rcases List.mem_append.1 hq with hq | hq
    · exact h.words q hq
    · simp only [List.mem_singleton] at hq; subst hq; exact hw
  · rw [ht, List.nodup_append]
    refine ⟨h.nodup, by simp, ?_⟩
    intro a ha b hb
    simp only [List.mem_singleton] at hb
    subst hb
    obtain ⟨k, hk, rfl⟩ := List.mem_iff_getElem.1 ha
    rw [List.length_take] at hk
    exact hn k _ (by omega) (by rw [List.getElem_take, List.getElem?_eq_getElem (by omega)])
  · have := h.size
    by_cases h0 : i = 0
    · rw [if_pos h0] at hs; rw [hs]; omega
    · rw [if_neg h0] at hs
      rw [hs, ByteArray.size_append, ByteArray.size_append]
      have : (⟨#[44, 32]⟩ : ByteArray).size = 2 := rfl
      omega

theorem bodyB_of {c : UInt8} (h : ¬ ((c.toNat < 97 ∨ 122 < c.toNat) ∧ c ≠ 32 ∧ c ≠ 43 ∧ (c.toNat < 48 ∨ 57 < c.toNat))) : BodyB c := by
  unfold BodyB
  rw [UInt8.le_iff_toNat_le, UInt8.le_iff_toNat_le, UInt8.le_iff_toNat_le, UInt8.le_iff_toNat_le]
  simp only [UInt8.reduceToNat]
  by_cases h1 : c = 32
  · exact .inr (.inr (.inl h1))
  · by_cases h2 : c = 43
    · exact .inr (.inr (.inr h2))
    · have h3 : ¬ ((c.toNat < 97 ∨ 122 < c.toNat) ∧ (c.toNat < 48 ∨ 57 < c.toNat)) := fun g => h ⟨g.1, h1, h2, g.2⟩
      omega


theorem bodyEq_are : ∀ {A B : List Tm} {T : List Tq}, Are A T → Are B T → bodyEq A B = true
  | [], B, T, h1, h2 => by
    have hT : T = [] := by simpa [Are] using h1.symm
    subst hT
    have : B = [] := by simpa [Are] using h2
    subst this
    rfl
  | a :: A, B, T, h1, h2 => by
    cases T with
    | nil => simp [Are] at h1
    | cons q T =>
      obtain ⟨a', A', e, k1, t1, s1, g1⟩ := h1.cons
      simp only [List.cons.injEq] at e
      obtain ⟨rfl, rfl⟩ := e
      obtain ⟨b, B', rfl, k2, t2, s2, g2⟩ := h2.cons
      simp [bodyEq, alikeP, k1, k2, t1, t2, s1, s2, bodyEq_are g1 g2]

theorem bs_data (p : ByteArray) : bs p.data.toList = p := rfl

/-- all that the law's texts are -/
structure Pack (name sb body : ByteArray) (ps : List ByteArray) (m m2 m3 : Mac) (x4 x5 : Bad) (tb : ByteArray) (U : List Tq) : Prop where
  r1 : parseL (toksL (name ++ ⟨#[40]⟩ ++ sb ++ ⟨#[41, 32]⟩ ++ body : ByteArray).data.toList) = .inl m
  nm : m.name = name
  fn : m.fn = true
  va : m.va = false
  pr : m.params = ps
  bd : Are m.body U
  un : unspQ U = U
  ln : m.body.length = (toksL body.data.toList).length
  lb : m.body.length ≤ 1000
  r2 : parseL (toksL (name ++ ⟨#[32, 40, 32]⟩ ++ sb ++ ⟨#[32, 41, 32]⟩ ++ body : ByteArray).data.toList) = .inl m2
  f2 : m2.fn = false
  l2 : 2 ≤ m2.body.length
  tl : tb.data.toList = tellL U
  ts : tb.size ≤ 400
  r3 : parseL (toksL (name ++ ⟨#[40]⟩ ++ sb ++ ⟨#[41, 32]⟩ ++ tb : ByteArray).data.toList) = .inl m3
  sm : sameP m m3 = true
  p3 : m3.params.length = ps.length
  b3 : m3.body.length = m.body.length
  r4 : parseL (toksL (name ++ ⟨#[40]⟩ ++ sb ++ ⟨#[41, 32, 35, 35, 32]⟩ ++ body ++ ⟨#[120]⟩ : ByteArray).data.toList) = .inr x4
  c4 : x4.code = 5
  r5 : parseL (toksL (name ++ ⟨#[40]⟩ ++ sb ++ ⟨#[41, 32, 35, 57, 32]⟩ ++ body : ByteArray).data.toList) = .inr x5
  c5 : x5.code = 5

theorem are_len {M : List Tm} {T : List Tq} (h : Are M T) : M.length = T.length := by
  have := congrArg List.length h
  simpa using this

theorem unspQ_len (T : List Tq) : (unspQ T).length = T.length := by cases T <;> rfl
theorem unspQ_idem (T : List Tq) : unspQ (unspQ T) = unspQ T := by cases T <;> rfl

theorem mf_pack (name sb body : ByteArray) (ps : List ByteArray) (hn : Wd name.data.toList ∧ name.size ≤ 20 ∧ name.data.toList ≠ defN) (hP : ParsAt ps ps.length sb) (hb : ∀ c ∈ body.data.toList, BodyB c) (hbz : body.size ≤ 200) :
    ∃ m m2 m3 x4 x5 tb U, Pack name sb body ps m m2 m3 x4 x5 tb U := by
  obtain ⟨T, hT⟩ := bt_any body.data.toList.length body.data.toList true (Nat.le_refl _) hb
  have hall : ps.take ps.length = ps := List.take_of_length_le (Nat.le_refl _)
  have hsb := hP.text
  have hw := hP.words
  have hnd0 := hP.nodup
  rw [hall] at hsb hw hnd0
  have hwd : ∀ p ∈ ps.map (·.data.toList), Wd p := by
    intro p hp
    obtain ⟨q, hq, rfl⟩ := List.mem_map.1 hp
    exact (wordB_iff (hw q hq)).1
  have hpb : (ps.map (·.data.toList)).map bs = ps := by
    rw [List.map_map]
    exact List.map_id _
  have hnd : ((ps.map (·.data.toList)).map bs).Nodup := by rw [hpb]; exact hnd0
  have hform : ∀ (x : ByteArray) (X : List UInt8), (name ++ ⟨#[40]⟩ ++ sb ++ x : ByteArray).data.toList = name.data.toList ++ (40 :: (joinP (ps.map (·.data.toList)) ++ x.data.toList)) := by
    intro x X
    rw [data_appY, data_appY, data_appY, hsb]
    simp
  have hfS : ∀ X : List UInt8, formS name.data.toList (ps.map (·.data.toList)) X = name.data.toList ++ (40 :: (joinP (ps.map (·.data.toList)) ++ (41 :: X))) := by
    intro X
    unfold formS
    rw [parText_join]
    simp
  obtain ⟨m, r1, nm, fn, va, pr, bd⟩ := form_good hn.1 hn.2.2 hwd hnd hT
  obtain ⟨m2, r2, f2, l2⟩ := form_open (body := body.data.toList) hn.1 hn.2.2 hwd hb
  obtain ⟨T', hT', hTU⟩ := hT.told
  obtain ⟨m3, r3, nm3, fn3, va3, pr3, bd3⟩ := form_good hn.1 hn.2.2 hwd hnd hT'
  rw [hTU] at bd3
  obtain ⟨x4, r4, c4⟩ := form_paste (body := body.data.toList ++ [120]) hn.1 hn.2.2 hwd hnd (by
    intro c hc
    rcases List.mem_append.1 hc with hc | hc
    · exact hb c hc
    · simp only [List.mem_singleton] at hc; subst hc; exact .inl ⟨by decide, by decide⟩)
  obtain ⟨x5, r5, c5⟩ := form_hash (body := body.data.toList) hn.1 hn.2.2 hwd hnd hb
  have hlen := toks_len hT
  have hml : m.body.length = T.length := by rw [are_len bd, unspQ_len]
  have htl : (toksL body.data.toList).length ≤ 201 := by
    have := toksL_len body.data.toList
    rw [← Lib.size_eq] at this
    omega
  have hts : (bs (tellL (unspQ T))).size ≤ 400 := by
    have h1 := hT.size
    have h2 := tell_unsp T
    rw [← Lib.size_eq] at h1
    have h3 : (bs (tellL (unspQ T))).size = (tellL (unspQ T)).length := rfl
    omega
  rw [hpb] at pr pr3
  have hlnm : m.body.length = (toksL body.data.toList).length := by rw [hml, toksL_M, hlen]
  have e1 : ∀ X : ByteArray, (name ++ ⟨#[40]⟩ ++ sb ++ ⟨#[41, 32]⟩ ++ X : ByteArray).data.toList = formS name.data.toList (ps.map (·.data.toList)) (32 :: X.data.toList) := by
    intro X
    rw [data_appY, hform _ [], hfS]
    simp
  refine ⟨m, m2, m3, x4, x5, bs (tellL (unspQ T)), unspQ T, ?_⟩
  constructor
  · rw [e1, toksL_M]; exact r1
  · exact nm
  · exact fn
  · exact va
  · exact pr
  · exact bd
  · exact unspQ_idem T
  · exact hlnm
  · omega
  · have : (name ++ ⟨#[32, 40, 32]⟩ ++ sb ++ ⟨#[32, 41, 32]⟩ ++ body : ByteArray).data.toList = openS name.data.toList (ps.map (·.data.toList)) body.data.toList := by
      rw [data_appY, data_appY, data_appY, data_appY, hsb]
      unfold openS
      simp
    rw [this, toksL_M]
    exact r2
  · exact f2
  · exact l2
  · rfl
  · exact hts
  · rw [e1, toksL_M]; exact r3
  · unfold sameP
    rw [nm, nm3, fn, fn3, va, va3, pr, pr3, bodyEq_are bd bd3]
    simp
  · rw [pr3]
  · rw [are_len bd3, are_len bd]
  · have : (name ++ ⟨#[40]⟩ ++ sb ++ ⟨#[41, 32, 35, 35, 32]⟩ ++ body ++ ⟨#[120]⟩ : ByteArray).data.toList = formS name.data.toList (ps.map (·.data.toList)) (32 :: 35 :: 35 :: 32 :: (body.data.toList ++ [120])) := by
      rw [data_appY, data_appY, hform _ [], hfS]
      simp
    rw [this, toksL_M]
    exact r4
  · exact c4
  · have : (name ++ ⟨#[40]⟩ ++ sb ++ ⟨#[41, 32, 35, 57, 32]⟩ ++ body : ByteArray).data.toList = formS name.data.toList (ps.map (·.data.toList)) (32 :: 35 :: 57 :: 32 :: body.data.toList) := by
      rw [data_appY, hform _ [], hfS]
      simp
    rw [this, toksL_M]
    exact r5
  · exact c5
end Go.Proofs.Ythbicbfdldpemaa

/- MacroForms: two small facts for the walk's end. -/
namespace Go.Proofs.Ythbicbfdldpemaa
open Go.RowKit
set_option linter.unusedVariables false

theorem mf_dg {w : World} {B g cap : Nat} {c f t : Int} {file : ByteArray} (h : Own w B 38 4 (.slice (some ⟨g, 0, none⟩) 1 cap) [dgV c file f t]) : w.cell? ⟨g, 0, none⟩ = some (.int .i64 c) := by
  obtain ⟨b, o, e, hat⟩ := h.here (by simp)
  simp only [Option.some.injEq, Addr.mk.injEq, and_true] at e
  obtain ⟨rfl, rfl⟩ := e
  have := hat.cell (i := 0) (cs := dgV c file f t) rfl (j := 0) (u := .int .i64 c) rfl
  simpa using this

theorem mf_same (m m3 : Mac) (name : ByteArray) (pa ba pb bb : Value) (x : World) (hn : m.name = name) (hf : m.fn = true) (hv : m.va = false) (hs : sameP m m3 = true) (ha : MacAt x m pa ba) (hb : MacAt x m3 pb bb) :
    Calls Try.prog 18 #[.agg #[.string name, .bool true, .bool false, pa, ba, .string m.file, .int .i64 m.f, .int .i64 m.t], .agg #[.string m3.name, .bool m3.fn, .bool m3.va, pb, bb, .string m3.file, .int .i64 m3.f, .int .i64 m3.t]] x fun e w' => e = .returned (.bool true) ∧ Below x.heap.size x w' := by
  have h := mSame_any m m3 pa ba pb bb x ha hb
  rw [hn, hf, hv, hs] at h
  unfold mcC at h
  exact h

end Go.Proofs.Ythbicbfdldpemaa
