/- Texts of this seat's proofs, laid into one file. -/
import Derived.Test.YtfaoamdlknlgpaaGreatSubstHashDoneG42
import Derived.Test.YtfaoamdlknlgpaaGreatSubstHashDoneG36
import Derived.Test.YtfaoamdlknlgpaaGreatSubstHashDoneG14
import Derived.Test.YtfaoamdlknlgpaaGreatSubstHashDoneG31
import Derived.Test.YtfaoamdlknlgpaaGreatSubstHashDoneG41
/- The document's Text; the law's made, and its sameness of two lists of yes and no. -/
namespace Go.Proofs.YtfaoamdlknlgpaaGreat
open Go.RowKit
set_option linter.unusedVariables false

/-- tokens as a text, with blanks -/
def txtF : Nat → List Tm → List UInt8
  | _, [] => []
  | i, t :: r => spT i t ++ t.text.data.toList ++ txtF (i + 1) r

theorem txtF_app : ∀ (T : List Tm) (i : Nat) (t : Tm), txtF i (T ++ [t]) = txtF i T ++ (spT (i + T.length) t ++ t.text.data.toList)
  | [], i, t => by simp [txtF]
  | x :: r, i, t => by
    show spT i x ++ x.text.data.toList ++ txtF (i + 1) (r ++ [t]) = spT i x ++ x.text.data.toList ++ txtF (i + 1) r ++ _
    rw [txtF_app r (i + 1) t, List.length_cons, show i + (r.length + 1) = i + 1 + r.length by omega]
    simp

theorem txtF_take {T : List Tm} {i : Nat} {t : Tm} (h : T[i]? = some t) : txtF 0 (T.take (i + 1)) = txtF 0 (T.take i) ++ (spT i t ++ t.text.data.toList) := by
  have hi := (List.getElem?_eq_some_iff.1 h).1
  have : T.take (i + 1) = T.take i ++ [t] := by rw [List.take_add_one, h]; rfl
  rw [this, txtF_app, List.length_take, Nat.zero_add, Nat.min_eq_left (Nat.le_of_lt hi)]

theorem txtF_len : ∀ (T : List Tm) (i : Nat), (∀ t ∈ T, t.text.size ≤ 1000) → (txtF i T).length ≤ 1001 * T.length
  | [], i, _ => by simp [txtF]
  | t :: r, i, h => by
    have h1 := txtF_len r (i + 1) (fun u hu => h u (by simp [hu]))
    have h2 := h t (by simp)
    have h3 : (spT i t).length ≤ 1 := by unfold spT; split <;> simp
    have h4 : t.text.data.toList.length = t.text.size := sz_list _
    simp only [txtF, List.length_append, List.length_cons]
    omega

set_option maxRecDepth 100000 in
theorem rTextF_any (T : List (Tm × Value)) (ao : Option Addr) (cap : Nat) (hn : T.length ≤ 1000) (hcap : T.length ≤ cap) (htx : ∀ p ∈ T, p.1.text.size ≤ 1000) (w : World) (hrow : Row w 8 ao (T.map tvC)) :
    Calls Tryz.prog 57 #[.slice ao T.length cap] w fun e w' => e = .returned (.string ⟨(txtF 0 (T.map (·.1))).toArray⟩) ∧ Below w.heap.size w w' := by
  obtain ⟨n, hnn⟩ : ∃ n, n = T.length := ⟨_, rfl⟩
  have HN : Hid (T.length = n) := Lib.hid hnn.symm
  rw [← hnn] at hn hcap ⊢
  clear hnn
  have htx' : Hid (∀ i, (txtF 0 ((T.map (·.1)).take i)).length ≤ 1001 * n) := Lib.hid fun i => by
    have h1 := txtF_len ((T.map (·.1)).take i) 0 (fun t ht => by
      obtain ⟨p, hp, rfl⟩ := List.mem_map.1 (List.mem_of_mem_take ht)
      exact htx p hp)
    have h2 : ((T.map (·.1)).take i).length ≤ n := by rw [List.length_take, List.length_map, HN.out]; omega
    omega
  replace htx := Lib.hid htx
  replace hrow := Lib.hid hrow
  go_enter Tryz.func57, Tryz.ntmps57
  go_wp2_with fail
  go_loopg [3, 4] n (fun q v3 v4 wx => ∃ (i : Nat) (S : ByteArray), q = n - i ∧ i ≤ n ∧ v4 = .int .i64 i ∧ v3 = .string S ∧ Hid (S.data.toList = txtF 0 ((T.map (·.1)).take i)) ∧ Hid (Below w.heap.size w wx))
  case atStart => exact ⟨0, ⟨#[]⟩, rfl, Nat.zero_le _, rfl, rfl, Lib.hid rfl, Lib.hid (Below.refl _ _)⟩
  case round =>
    obtain ⟨i, S, hq, hi, rfl, rfl, hS, hb⟩ := hrel
    replace hq := hq.symm
    subst hq
    have hSz : S.size ≤ 1001000 := by rw [← sz_list, hS.out]; have := htx'.out i; omega
    by_cases hin : i < n
    · have hin' : (i : Int) < n := by omega
      have f4 : Hid (n - (i + 1) < n - i) := Lib.hid (by omega)
      have g1 : IntKind.i64.wrap ((i : Int) + 1) = (i : Int) + 1 := IntWalk.i64_in _ (by omega)
      obtain ⟨⟨⟨kind, text, sp, file, tf, tt, made⟩, v⟩, hp⟩ : ∃ p, T[i]? = some p := ⟨_, List.getElem?_eq_getElem (by rw [HN.out]; exact hin)⟩
      obtain ⟨rb, o, rfl, hat⟩ := (hrow.out.below hb.out) (by intro h; simp at h; subst h; simp at hp)
      obtain ⟨t0, t1, t2, t3, t4, t5, t6, t7⟩ := tok8 (tok_at hat hp)
      have hts := htx.out _ (List.mem_of_getElem? hp)
      simp only at hts t0 t1 t2 t3 t4 t5 t6 t7
      have hst := txtF_take (T := T.map (·.1)) (i := i) (t := ⟨kind, text, sp, file, tf, tt, made⟩) (by rw [List.getElem?_map, hp]; rfl)
      simp only at hst
      clear hat hp t3 t4 t5 t6 t7
      by_cases hi0 : i = 0
      · have q0 : ¬ (0 : Int) < (i : Int) := by omega
        have hst' : Hid (txtF 0 ((T.map (·.1)).take (i + 1)) = txtF 0 ((T.map (·.1)).take i) ++ text.data.toList) := Lib.hid (by
          rw [hst]
          unfold spT
          rw [if_neg (by omega)]
          rfl)
        replace hi0 := Lib.hid hi0
        clear hst
        have z3 : ¬ 9223372036854775807 < S.size + text.size := by omega
        go_wp2_with fail
        go_roundg (n - (i + 1))
        case measure => exact f4.out
        case rel => exact ⟨i + 1, S ++ text, rfl, by omega, by simp, rfl, Lib.hid (by rw [hst'.out, cat_list, hS.out]), hb⟩
      · have q0 : (0 : Int) < (i : Int) := by omega
        have q0i : 0 < i := by omega
        cases sp with
        | false =>
          have hst' : Hid (txtF 0 ((T.map (·.1)).take (i + 1)) = txtF 0 ((T.map (·.1)).take i) ++ text.data.toList) := Lib.hid (by
            rw [hst]
            unfold spT
            rw [if_neg (by simp)]
            rfl)
          replace hi0 := Lib.hid hi0
          clear hst
          have z3 : ¬ 9223372036854775807 < S.size + text.size := by omega
          go_wp2_with fail
          go_roundg (n - (i + 1))
          case measure => exact f4.out
          case rel => exact ⟨i + 1, S ++ text, rfl, by omega, by simp, rfl, Lib.hid (by rw [hst'.out, cat_list, hS.out]), hb⟩
        | true =>
          have hst' : Hid (txtF 0 ((T.map (·.1)).take (i + 1)) = txtF 0 ((T.map (·.1)).take i) ++ ([32] ++ text.data.toList)) := Lib.hid (by
            rw [hst]
            unfold spT
            rw [if_pos ⟨q0i, rfl⟩])
          replace hi0 := Lib.hid hi0
          clear hst
          obtain ⟨S2, hS2⟩ : ∃ S2 : ByteArray, S2 = S ++ ⟨#[32]⟩ := ⟨_, rfl⟩
          have hS2s : S2.size = S.size + 1 := by rw [hS2]; simp; rfl
          have hS2l : Hid (S2.data.toList = S.data.toList ++ [32]) := Lib.hid (by rw [hS2, cat_list])
          have z1 : ¬ 9223372036854775807 < S.size + ByteArray.size ⟨#[32]⟩ := by
            have : ByteArray.size ⟨#[32]⟩ = 1 := rfl
            omega
          have z2 : ¬ 9223372036854775807 < S.size + 1 := by omega
          have z3 : ¬ 9223372036854775807 < S2.size + text.size := by omega
          go_upto_region 7 with fail
          rw [← hS2]
          replace hS2 := Lib.hid hS2
          go_wp2_with fail
          go_roundg (n - (i + 1))
          case measure => exact f4.out
          case rel => exact ⟨i + 1, S2 ++ text, rfl, by omega, by simp, rfl, Lib.hid (by rw [hst'.out, cat_list, hS2l.out, hS.out]; simp), hb⟩
    · obtain rfl : i = n := by omega
      have hin' : ¬ (i : Int) < i := by omega
      have hS' := hS.out
      rw [List.take_of_length_le (by rw [List.length_map, HN.out]; omega)] at hS'
      replace hS' := Lib.hid hS'
      go_wp2
      go_ret
      refine ⟨?_, hb.out⟩
      rw [← hS'.out]
      have hSS : (⟨S.data.toList.toArray⟩ : ByteArray) = S := by cases S; simp
      rw [hSS]
      rfl

set_option maxRecDepth 100000 in
theorem made11_any (name : ByteArray) (fn va : Bool) (pv bv : Value) (file : ByteArray) (f t : Int) (hpv : ∃ a n c, pv = .slice a n c) (hbv : ∃ a n c, bv = .slice a n c) (w : World) :
    Calls Tryz.prog 38 #[.agg #[.string name, .bool fn, .bool va, pv, bv, .string file, .int .i64 f, .int .i64 t]] w fun e w' => e = .returned (.agg #[.string name, .bool fn, .bool va, pv, bv, .string file, .int .i64 f, .int .i64 t]) ∧ Below w.heap.size w w' := by
  obtain ⟨pa, pn, pc, rfl⟩ := hpv
  obtain ⟨ba, bn, bc, rfl⟩ := hbv
  go_enter Tryz.func38, Tryz.ntmps38
  go_wp2
  refine bodyPost_ret (results_cell_row rfl _ _ (w.heap.size + 1) 53 _ (0, 0) _ rfl (two_new w _ _ _ _).2 Tryz.underlying53 rfl (by kernel_rfl)) rfl ?_
  exact ⟨rfl, ((Below.refl _ w).alloc (Nat.le_refl _) _).alloc (by simp) _⟩

set_option maxRecDepth 100000 in
theorem same11_any (l : List Bool) (a1 a2 : Option Addr) (c1 c2 : Nat) (hl : l.length ≤ 1000) (w : World) (h1 : Row w 1 a1 (l.map boolC)) (h2 : Row w 1 a2 (l.map boolC)) :
    Calls Tryz.prog 58 #[.slice a1 l.length c1, .slice a2 l.length c2] w fun e w' => e = .returned (.bool true) ∧ Below w.heap.size w w' := by
  obtain ⟨n, hnn⟩ : ∃ n, n = l.length := ⟨_, rfl⟩
  have HN : Hid (l.length = n) := Lib.hid hnn.symm
  rw [← hnn] at hl ⊢
  clear hnn
  replace h1 := Lib.hid h1
  replace h2 := Lib.hid h2
  go_enter Tryz.func58, Tryz.ntmps58
  go_wp2_with fail
  go_loopg [5] n (fun q v5 wx => ∃ i : Nat, q = n - i ∧ i ≤ n ∧ v5 = .int .i64 i ∧ Hid (Below w.heap.size w wx))
  case atStart => exact ⟨0, rfl, Nat.zero_le _, rfl, Lib.hid (Below.refl _ _)⟩
  case round =>
    obtain ⟨i, rfl, hi, rfl, hb⟩ := hrel
    by_cases hin : i < n
    · have hin' : (i : Int) < n := by omega
      have f4 : Hid (n - (i + 1) < n - i) := Lib.hid (by omega)
      have g1 : IntKind.i64.wrap ((i : Int) + 1) = (i : Int) + 1 := IntWalk.i64_in _ (by omega)
      obtain ⟨b, hp⟩ : ∃ b, l[i]? = some b := ⟨_, List.getElem?_eq_getElem (by rw [HN.out]; exact hin)⟩
      obtain ⟨b1, o1, rfl, hat1⟩ := (h1.out.below hb.out) (by intro h; simp at h; subst h; simp at hp)
      obtain ⟨b2, o2, rfl, hat2⟩ := (h2.out.below hb.out) (by intro h; simp at h; subst h; simp at hp)
      have t1 := hat1.cell (i := i) (cs := [.bool b]) (by rw [List.getElem?_map, hp]; rfl) (j := 0) rfl
      have t2 := hat2.cell (i := i) (cs := [.bool b]) (by rw [List.getElem?_map, hp]; rfl) (j := 0) rfl
      simp only [Nat.mul_one, Nat.add_zero] at t1 t2
      have hbb : (b != b) = false := by cases b <;> rfl
      clear hat1 hat2 hp
      go_wp2_with fail
      go_quiet (fail)
      go_wp2_with fail
      go_roundg (n - (i + 1))
      case measure => exact f4.out
      case rel => exact ⟨i + 1, rfl, by omega, by simp, Lib.hid (below_drewN hb.out _)⟩
    · have hin' : ¬ (i : Int) < n := by omega
      go_wp2
      go_ret
      exact ⟨rfl, hb.out⟩
end Go.Proofs.YtfaoamdlknlgpaaGreat

/- The document's Parse of a text's tokens; lists of arguments made in place. -/
namespace Go.Proofs.YtfaoamdlknlgpaaGreat
open Go.RowKit
set_option linter.unusedVariables false

theorem firstBad_none {fn va : Bool} {ps : List ByteArray} {body : List Tm} : ∀ {l : List Tm} {i : Nat}, firstBad fn va ps body i l = none → ∀ (k : Nat) t, l[k]? = some t → badAt fn va ps body (i + k) t = false := by
  intro l
  induction l with
  | nil => intro i _ k t h; simp at h
  | cons a r ih =>
    intro i h k t hk
    simp only [firstBad] at h
    cases hb : badAt fn va ps body i a with
    | true => rw [hb] at h; simp at h
    | false =>
      rw [hb] at h
      simp only [Bool.false_eq_true, if_false] at h
      cases k with
      | zero => simp only [List.getElem?_cons_zero, Option.some.injEq] at hk; subst hk; exact hb
      | succ k =>
        have := ih h k t (by simpa using hk)
        rwa [show i + 1 + k = i + (k + 1) by omega] at this

theorem body_parts {m m' : Mac} (h : bodyL m = .inl m') : m' = m ∧ ∀ (i : Nat) t, m.body[i]? = some t → badAt m.fn m.va m.params m.body i t = false := by
  unfold bodyL at h
  cases hf : firstBad m.fn m.va m.params m.body 0 m.body with
  | some t => rw [hf] at h; cases h
  | none =>
    rw [hf] at h
    simp only [Sum.inl.injEq] at h
    refine ⟨h.symm, fun i t hi => ?_⟩
    have := firstBad_none hf i t hi
    rwa [Nat.zero_add] at this

theorem parse_parts {L : List Tm} {m : Mac} (hm : parseL L = .inl m) (hfn : m.fn = true) (hva : m.va = false) (hne : m.body ≠ []) :
    ∃ tk p R r, L = tk :: p :: R ∧ tk.kind = 1 ∧ fixedP tk.text = false ∧ isP p (bs [40]) = true ∧ p.sp = false ∧ paramsTop R = some (r, false, m.params) ∧ r ≠ [] ∧ m = ⟨tk.text, true, false, m.params, unsp r, tk.file, tk.f, tk.t⟩ ∧ ∀ (i : Nat) t, (unsp r)[i]? = some t → badAt true false m.params (unsp r) i t = false := by
  cases L with
  | nil => cases hm
  | cons tk rest =>
    simp only [parseL] at hm
    split at hm
    · rename_i hk
      split at hm
      · cases hm
      · rename_i hfx
        cases rest with
        | nil =>
          obtain ⟨e, _⟩ := body_parts hm
          rw [e] at hfn
          cases hfn
        | cons p R =>
          simp only at hm
          split at hm
          · rename_i hp
            simp only [Bool.and_eq_true, Bool.not_eq_true'] at hp
            cases hpt : paramsTop R with
            | none => rw [hpt] at hm; cases hm
            | some q =>
              obtain ⟨r, va, ps⟩ := q
              rw [hpt] at hm
              obtain ⟨e, hb⟩ := body_parts hm
              subst e
              simp only at hva
              subst hva
              refine ⟨tk, p, R, r, rfl, hk, by simpa using hfx, hp.1, hp.2, hpt, ?_, rfl, hb⟩
              intro e
              apply hne
              rw [e]
              rfl
          · obtain ⟨e, _⟩ := body_parts hm
            rw [e] at hfn
            cases hfn
    · cases hm

theorem rParseM_any (L : List Tm) (m : Mac) (hm : parseL L = .inl m) (hfn : m.fn = true) (hva : m.va = false) (hne : m.body ≠ []) (ao : Option Addr) (cap : Nat) (hn : L.length ≤ 1000000) (hcap : L.length ≤ cap) (w : World) (hrow : Row w 8 ao ((L.map nilTv).map tvC)) :
    Calls Tryz.prog 36 #[.slice ao L.length cap] w fun e w' => (∃ psv bov, e = .returned (.tuple #[.agg (mcC m.name m.fn m.va psv bov m.file m.f m.t).toArray, .slice none 0 0]) ∧ MacO w' w.heap.size m psv bov) ∧ Below w.heap.size w w' := by
  obtain ⟨tk, p, R, r, rfl, h1, h2, h3, h4, h5, h6, h7, h8⟩ := parse_parts hm hfn hva hne
  rw [List.length_cons, List.length_cons] at hn hcap ⊢
  have := rParse_any tk p R ao cap hn hcap w hrow h1 h2 h3 h4 r m.params h5 h6 h8
  rw [← h7] at this
  rw [hfn, hva]
  refine this.mono fun e w' ⟨⟨psv, bov, he, ho⟩, hb⟩ => ⟨⟨psv, bov, ?_, ho⟩, hb⟩
  rw [he, h7]

/-- what a definition of the call's own is, as a definition's cells -/
theorem MacO.parts {w : World} {B : Nat} {m : Mac} {psv bov : Value} (h : MacO w B m psv bov) : ∃ pa pc ba bc, psv = .slice pa m.params.length pc ∧ bov = .slice ba m.body.length bc ∧ m.body.length ≤ bc ∧ Row w 1 pa (m.params.map fun p => [.string p]) ∧ Row w 8 ba ((m.body.map nilTv).map tvC) := by
  obtain ⟨pa, pc, rfl, _, _, h1, _⟩ := h.ps.rown (n := m.params.length) (by simp)
  obtain ⟨ba, bc, rfl, h2, _, h3, _⟩ := h.body.rown (n := m.body.length) (by simp)
  exact ⟨pa, pc, ba, bc, rfl, rfl, h2, h1, h3⟩

/-- a text's tokens can be read -/
theorem toksRd_nil {w : World} {l : List Tm} {n cap : Nat} {ao : Option Addr} (hn : l.length = n) (hcap : n ≤ cap) (hrow : Row w 8 ao ((l.map nilTv).map tvC)) : ToksRd w (.slice ao n cap) (l.map nilTf) := by
  subst hn
  exact ⟨ao, cap, l.map nilTv, by simp, by simpa using hcap, hrow, by simp, fun i p x hp hx => nil_slots hp hx⟩

theorem argsOk_nil {l : List Tm} (h : l.length ≤ 1000 ∧ ∀ t ∈ l, t.text.size ≤ 1000) : (l.map nilTf).length ≤ 1000 ∧ ∀ x ∈ l.map nilTf, x.1.text.size ≤ 1000 ∧ SitesOk x.2 := by
  refine ⟨by simpa using h.1, fun x hx => ?_⟩
  obtain ⟨t, ht, rfl⟩ := List.mem_map.1 hx
  exact ⟨h.2 t ht, by simp [nilTf, SitesOk]⟩
end Go.Proofs.YtfaoamdlknlgpaaGreat

/- What the document fixes of chapter 11: the law's awake. -/
namespace Go.Proofs.YtfaoamdlknlgpaaGreat
open Go.RowKit
set_option linter.unusedVariables false

/-- lists of arguments that are made in place -/
theorem lsRd_lit {w : World} {g cap : Nat} {vs : List Value} {T : TypeId} {fz : Nat × Nat} {XX : List (List Tf)} (h : w.heap[g]? = some (.cells vs.toArray T fz)) (hl : vs.length = XX.length) (hcap : XX.length ≤ cap) (hX : ∀ (i : Nat) u X, vs[i]? = some u → XX[i]? = some X → ToksRd w u X) : LsRd w (.slice (some ⟨g, 0, none⟩) XX.length cap) XX := by
  refine ⟨some ⟨g, 0, none⟩, cap, vs, rfl, hcap, fun _ => ⟨g, 0, rfl, fun i cs hi j u hj => ?_⟩, hl, hX⟩
  rw [List.getElem?_map] at hi
  cases hv : vs[i]? with
  | none => rw [hv] at hi; cases hi
  | some v =>
    rw [hv] at hi
    simp only [Option.map_some, Option.some.injEq] at hi
    subst hi
    cases j with
    | zero =>
      simp only [List.getElem?_cons_zero, Option.some.injEq] at hj
      subst hj
      rw [Lib.cell_of_heap h]
      simpa using hv
    | succ j => simp at hj

theorem lsRd_two {w : World} {g : Nat} {v1 v2 : Value} {T : TypeId} {fz : Nat × Nat} {X1 X2 : List Tf} (h : w.heap[g]? = some (.cells #[v1, v2] T fz)) (h1 : ToksRd w v1 X1) (h2 : ToksRd w v2 X2) : LsRd w (.slice (some ⟨g, 0, none⟩) 2 2) [X1, X2] :=
  lsRd_lit (vs := [v1, v2]) (XX := [X1, X2]) h rfl (Nat.le_refl _) (by
    intro i u X hu hX
    match i with
    | 0 => simp at hu hX; subst hu hX; exact h1
    | 1 => simp at hu hX; subst hu hX; exact h2
    | i + 2 => simp at hu)

/-! ## in plain Lean -/

def awText : ByteArray := bs [70, 40, 97, 44, 98, 41, 32, 97, 35, 35, 98, 32, 35, 97, 32, 98]
def awRR : List (List Tf) := [(toksL (bs [120]).data.toList).map nilTf, (toksL (bs [49]).data.toList).map nilTf]
def awFF : List (List Tf) := [(toksL (bs [88]).data.toList).map nilTf, (toksL (bs [50]).data.toList).map nilTf]
def awS : List (List Value) := [siC (bs [70]) ⟨#[]⟩ 0 0 false]
def awFin (m : Mac) : Option ZS := piecesZ m awRR awFF awS m.body.length 0 ⟨[], [], none, []⟩

def chkM (c : Mac → Bool) (r : Mac ⊕ Bad) : Bool := match r with
  | .inl m => m.fn && !m.va && !m.body.isEmpty && c m
  | .inr _ => false
theorem chkM_get {c : Mac → Bool} {r : Mac ⊕ Bad} (h : chkM c r = true) : ∃ m, r = .inl m ∧ m.fn = true ∧ m.va = false ∧ m.body ≠ [] ∧ c m = true := by
  cases r with
  | inr _ => cases h
  | inl m =>
    unfold chkM at h
    simp only [Bool.and_eq_true, Bool.not_eq_true'] at h
    exact ⟨m, rfl, h.1.1.1, h.1.1.2, fun e => by rw [e] at h; simp at h, h.2⟩

def awChk (m : Mac) : Bool := match awFin m with
  | some s => decide (s.ds.length = 0) && decide ((s.out ++ s.ahead).length = 3) && decide (txtF 0 ((s.out ++ s.ahead).map (·.t)) = [120, 49, 32, 34, 120, 34, 32, 50]) && (s.out ++ s.ahead).all (fun p => decide (p.t.text.size ≤ 1000)) && decide (m.params.length = 2) && decide (m.body.length ≤ 1000) && decide (wantsZ m 0 m.body (List.replicate m.params.length false, List.replicate m.params.length false) = ([true, true], [false, true]))
  | none => false
theorem aw_m : chkM awChk (parseL (toksL awText.data.toList)) = true := by kernel_rfl
theorem aw_args : (awRR ++ awFF).all (fun X => decide (X.length ≤ 1000) && X.all (fun x => decide (x.1.text.size ≤ 1000) && x.2.isEmpty)) = true := by kernel_rfl
theorem aw_p1 : oneK (bs [60] ++ bs [60, 61]).data.toList = some 5 := by kernel_rfl
theorem aw_p2 : oneK (bs [97] ++ bs [43]).data.toList = none := by kernel_rfl

theorem argsOk_all {L : List (List Tf)} (hl : L.length ≤ 1000000) (h : L.all (fun X => decide (X.length ≤ 1000) && X.all (fun x => decide (x.1.text.size ≤ 1000) && x.2.isEmpty)) = true) : ArgsOk L := by
  refine ⟨hl, fun X hX => ?_⟩
  rw [List.all_eq_true] at h
  have := h X hX
  rw [Bool.and_eq_true, decide_eq_true_eq, List.all_eq_true] at this
  refine ⟨this.1, fun x hx => ?_⟩
  have h2 := this.2 x hx
  rw [Bool.and_eq_true, decide_eq_true_eq, List.isEmpty_iff] at h2
  exact ⟨h2.1, by rw [h2.2]; exact ⟨Nat.zero_le _, by simp, by simp⟩⟩

theorem sitesOk_one (a b : ByteArray) (f t : Int) (m : Bool) : SitesOk (siC a b f t m :: []) := by
  refine ⟨by simp, ?_, ?_⟩
  · intro c hc
    simp only [List.mem_singleton] at hc
    subst hc
    rfl
  · intro u hu
    simp only [siC, List.flatten_cons, List.flatten_nil, List.append_nil, List.mem_cons, List.not_mem_nil, or_false] at hu
    rcases hu with rfl | rfl | rfl | rfl | rfl <;> rfl
end Go.Proofs.YtfaoamdlknlgpaaGreat

/- The law's awake of chapter 11, walked. -/
namespace Go.Proofs.YtfaoamdlknlgpaaGreat
open Go.RowKit
set_option linter.unusedVariables false

theorem toks_rd {l : List Tm} {n cap : Nat} {ao : Option Addr} {w w' : World} (h : l.length = n ∧ n ≤ cap ∧ Row w 8 ao ((l.map nilTv).map tvC)) (hb : Below w.heap.size w w') : ToksRd w' (.slice ao n cap) (l.map nilTf) :=
  toksRd_nil h.1 h.2.1 (h.2.2.below hb)

/-- a text's tokens, as they are read -/
theorem toks11_rd (s : ByteArray) (hs : s.size ≤ 100000) (w : World) :
    Calls Tryz.prog 35 #[.string s] w fun e w' => ∃ (n : Nat) (ao : Option Addr) (cap : Nat), e = .returned (.slice ao n cap) ∧ Below w.heap.size w w' ∧ Hid (ToksRd w' (.slice ao n cap) ((toksL s.data.toList).map nilTf) ∧ (toksL s.data.toList).length = n ∧ n ≤ cap ∧ n ≤ s.size + 1 ∧ Row w' 8 ao (((toksL s.data.toList).map nilTv).map tvC)) := by
  refine (toks11_row s hs w).mono ?_
  rintro e w' ⟨l, n, ao, cap, rfl, hb, hl, hr⟩
  obtain ⟨h1, h2, h3, h4⟩ := hr.out
  have hl' := hl.out
  subst hl'
  exact ⟨n, ao, cap, rfl, hb, Lib.hid ⟨toksRd_nil h1 h3 h4, h1, h3, h2, h4⟩⟩

/-- a definition, made again, and its body -/
structure MB (m : Mac) (pa : Option Addr) (pc : Nat) (ba : Option Addr) (bc : Nat) (w : World) : Prop where
  ps : Row w 1 pa (m.params.map fun p => [.string p])
  row : Row w 8 ba ((m.body.map nilTv).map tvC)
  cap : m.body.length ≤ bc

theorem MB.below {m : Mac} {pa : Option Addr} {pc : Nat} {ba : Option Addr} {bc : Nat} {w w' : World} (h : MB m pa pc ba bc w) (hb : Below w.heap.size w w') : MB m pa pc ba bc w' := ⟨h.ps.below hb, h.row.below hb, h.cap⟩

theorem body11_any (m : Mac) (pa : Option Addr) (pc : Nat) (ba : Option Addr) (bc : Nat) (RR FF : List (List Tf)) (rv fv : Value) (sm : ByteArray) (w : World) (hM : MB m pa pc ba bc w) (hpl : m.params.length ≤ 1000000) (hbl : m.body.length ≤ 1000000) (hR : LsRd w rv RR) (hF : LsRd w fv FF) (hRk : ArgsOk RR) (hFk : ArgsOk FF) (fin : ZS) (hfin : piecesZ m RR FF [siC sm ⟨#[]⟩ 0 0 false] m.body.length 0 ⟨[], [], none, []⟩ = some fin) :
    Calls Tryz.prog 37 #[.agg #[.string m.name, .bool m.fn, .bool m.va, .slice pa m.params.length pc, .slice ba m.body.length bc, .string m.file, .int .i64 m.f, .int .i64 m.t], rv, fv, .agg #[.string sm, .string ⟨#[]⟩, .int .i64 0, .int .i64 0, .bool false], .slice none 0 0] w fun e w' => (∃ v vf vd, e = .returned (.tuple #[v, vf, vd]) ∧ OwnT ((fin.out ++ fin.ahead).map tfZ) w.heap.size v w' ∧ Own w' w.heap.size 3 1 vf ((fin.out ++ fin.ahead).map parC) ∧ Own w' w.heap.size 68 4 vd (fin.ds.map badV)) ∧ Below w.heap.size w w' := by
  have hl : (m.body.map nilTv).length = m.body.length := by simp
  have := sBody_any m (m.body.map nilTv) pa pc ba bc RR FF rv fv (.slice none 0 0) sm ⟨#[]⟩ 0 0 false [] w hM.ps hpl hM.row (by rw [hl]; exact hbl) (by rw [hl]; exact hM.cap) (by intro p hp; obtain ⟨t, _, rfl⟩ := List.mem_map.1 hp; exact ⟨none, 0, 0, rfl⟩) (by rw [List.map_map]; exact List.map_id _) hR hF (SiteIn.nil _) (sitesOk_one _ _ _ _ _) hRk hFk fin hfin
  rw [hl] at this
  exact this

theorem wants11_any (m : Mac) (pa : Option Addr) (pc : Nat) (ba : Option Addr) (bc : Nat) (w : World) (hM : MB m pa pc ba bc w) (hpl : m.params.length ≤ 1000000) (hbl : m.body.length ≤ 1000000) (rs : List Bool × List Bool) (hrs : wantsZ m 0 m.body (List.replicate m.params.length false, List.replicate m.params.length false) = rs) :
    Calls Tryz.prog 56 #[.agg #[.string m.name, .bool m.fn, .bool m.va, .slice pa m.params.length pc, .slice ba m.body.length bc, .string m.file, .int .i64 m.f, .int .i64 m.t]] w fun e w' => (∃ vr vf, e = .returned (.tuple #[vr, vf]) ∧ Own w' w.heap.size 4 1 vr (rs.1.map boolC) ∧ Own w' w.heap.size 4 1 vf (rs.2.map boolC)) ∧ Below w.heap.size w w' := by
  have hl : (m.body.map nilTv).length = m.body.length := by simp
  have := sWants_any m (m.body.map nilTv) pa pc ba bc w hM.ps hpl hM.row (by rw [hl]; exact hbl) (by rw [hl]; exact hM.cap) (by intro p hp; obtain ⟨t, _, rfl⟩ := List.mem_map.1 hp; exact ⟨none, 0, 0, rfl⟩) (by rw [List.map_map]; exact List.map_id _)
  rw [hl, hrs] at this
  exact this

theorem paste11_any (xa xb : ByteArray) (o : Option Nat) (ho : oneK (xa ++ xb).data.toList = o) (hsz : xa.size + xb.size ≤ 1000) (w : World) :
    Calls Tryz.prog 33 #[.agg #[.int .i64 0, .string xa, .bool false, .string ⟨#[]⟩, .int .i64 0, .int .i64 0, .bool false, .slice none 0 0], .agg #[.int .i64 0, .string xb, .bool false, .string ⟨#[]⟩, .int .i64 0, .int .i64 0, .bool false, .slice none 0 0]] w fun e w' => (∃ (k : Int) (x : ByteArray) (md : Bool) (sa : Option Addr) (sn sc : Nat), e = .returned (.tuple #[.agg #[.int .i64 k, .string x, .bool false, .string ⟨#[]⟩, .int .i64 0, .int .i64 0, .bool md, .slice sa sn sc], .bool o.isSome]) ∧ (o.isSome = true → x = xa ++ xb ∧ md = true)) ∧ Below w.heap.size w w' := by
  refine (sPaste_any ⟨0, xa, false, ⟨#[]⟩, 0, 0, false⟩ ⟨0, xb, false, ⟨#[]⟩, 0, 0, false⟩ (.slice none 0 0) (.slice none 0 0) [] hsz w (SiteIn.nil _) ⟨none, 0, 0, rfl⟩).mono ?_
  rintro e w' ⟨h, hb⟩
  refine ⟨?_, hb⟩
  unfold PastePost at h
  rw [ho] at h
  cases o with
  | none => exact ⟨0, ⟨#[]⟩, false, none, 0, 0, h, by simp⟩
  | some k =>
    obtain ⟨v', h1, h2⟩ := h
    obtain ⟨sa, sc, rfl, _⟩ := h2.row
    exact ⟨k, _, true, sa, _, sc, h1, fun _ => ⟨rfl, rfl⟩⟩

theorem rTextO_any {X : List Tf} {B : Nat} {v : Value} {w : World} (h : OwnT X B v w) (hn : X.length ≤ 1000) (htx : ∀ x ∈ X, x.1.text.size ≤ 1000) :
    Calls Tryz.prog 57 #[v] w fun e w' => e = .returned (.string ⟨(txtF 0 (X.map (·.1))).toArray⟩) ∧ Below w.heap.size w w' := by
  obtain ⟨T, h1, h2, h3⟩ := h
  obtain ⟨ao, cap, rfl, h4, _, h5, _⟩ := h1.rown (n := T.length) (by simp)
  have hm : T.map (·.1) = X.map (·.1) := by
    apply List.ext_getElem?
    intro i
    rw [List.getElem?_map, List.getElem?_map]
    cases hT : T[i]? with
    | none =>
      rw [List.getElem?_eq_none (by rw [← h2]; exact List.getElem?_eq_none_iff.1 hT)]
      rfl
    | some p =>
      obtain ⟨x, hx⟩ : ∃ x, X[i]? = some x := ⟨_, List.getElem?_eq_getElem (by rw [← h2]; exact (List.getElem?_eq_some_iff.1 hT).1)⟩
      rw [hx]
      simp [(h3 i p x hT hx).1]
  have := rTextF_any T ao cap (by omega) h4 (by
    intro p hp
    have : p.1 ∈ X.map (·.1) := by rw [← hm]; exact List.mem_map.2 ⟨p, hp, rfl⟩
    obtain ⟨x, hx, e⟩ := List.mem_map.1 this
    rw [← e]
    exact htx x hx) w h5
  rw [hm] at this
  exact this

set_option maxHeartbeats 4000000 in
set_option maxRecDepth 100000 in
theorem awake11_any (w : World) :
    Calls Tryz.prog 32 #[] w fun e w' => e = .returned (.bool true) ∧ Below w.heap.size w w' := by
  obtain ⟨m, hm, hfn, hva, hne, hck⟩ := chkM_get aw_m
  obtain ⟨fin, hfin, hds, hout, htx, hsz, hpl, hbl, hwz⟩ : ∃ fin, awFin m = some fin ∧ fin.ds.length = 0 ∧ (fin.out ++ fin.ahead).length = 3 ∧ txtF 0 ((fin.out ++ fin.ahead).map (·.t)) = [120, 49, 32, 34, 120, 34, 32, 50] ∧ (∀ p ∈ fin.out ++ fin.ahead, p.t.text.size ≤ 1000) ∧ m.params.length = 2 ∧ m.body.length ≤ 1000 ∧ wantsZ m 0 m.body (List.replicate m.params.length false, List.replicate m.params.length false) = ([true, true], [false, true]) := by
    unfold awChk at hck
    cases h : awFin m with
    | none => rw [h] at hck; cases hck
    | some fin =>
      rw [h] at hck
      simp only [Bool.and_eq_true, decide_eq_true_eq, List.all_eq_true] at hck
      obtain ⟨⟨⟨⟨⟨⟨h1, h2⟩, h3⟩, h4⟩, h5⟩, h6⟩, h7⟩ := hck
      exact ⟨fin, rfl, h1, h2, h3, h4, h5, h6, h7⟩
  have hRk : ArgsOk awRR := argsOk_all (by decide) (by have := aw_args; rw [List.all_append, Bool.and_eq_true] at this; exact this.1)
  have hFk : ArgsOk awFF := argsOk_all (by decide) (by have := aw_args; rw [List.all_append, Bool.and_eq_true] at this; exact this.2)
  unfold awFin at hfin
  have HPar : Hid (∀ (x : World) (ao : Option Addr) (n cap : Nat), (toksL awText.data.toList).length = n → n ≤ cap → n ≤ 1000000 → Row x 8 ao (((toksL awText.data.toList).map nilTv).map tvC) → Calls Tryz.prog 36 #[.slice ao n cap] x fun e w' => (∃ pa pc ba bc, e = .returned (.tuple #[.agg #[.string m.name, .bool m.fn, .bool m.va, .slice pa m.params.length pc, .slice ba m.body.length bc, .string m.file, .int .i64 m.f, .int .i64 m.t], .slice none 0 0]) ∧ MB m pa pc ba bc w') ∧ Below x.heap.size x w') := Lib.hid fun x ao n cap h1 h2 h3 h4 => by
    subst h1
    refine (rParseM_any _ m hm hfn hva hne ao cap h3 h2 x h4).mono ?_
    rintro e w' ⟨⟨psv, bov, rfl, ho⟩, hb⟩
    obtain ⟨pa, pc, ba, bc, rfl, rfl, h5, h6, h7⟩ := ho.parts
    exact ⟨⟨pa, pc, ba, bc, rfl, h6, h7, h5⟩, hb⟩
  have HBo : Hid (∀ (x : World) (pa : Option Addr) (pc : Nat) (ba : Option Addr) (bc : Nat) (rv fv : Value), MB m pa pc ba bc x → LsRd x rv awRR → LsRd x fv awFF → Calls Tryz.prog 37 #[.agg #[.string m.name, .bool m.fn, .bool m.va, .slice pa m.params.length pc, .slice ba m.body.length bc, .string m.file, .int .i64 m.f, .int .i64 m.t], rv, fv, .agg #[.string (bs [70]), .string ⟨#[]⟩, .int .i64 0, .int .i64 0, .bool false], .slice none 0 0] x fun e w' => (∃ v vf vd, e = .returned (.tuple #[v, vf, vd]) ∧ OwnT ((fin.out ++ fin.ahead).map tfZ) x.heap.size v w' ∧ Own w' x.heap.size 3 1 vf ((fin.out ++ fin.ahead).map parC) ∧ Own w' x.heap.size 68 4 vd (fin.ds.map badV)) ∧ Below x.heap.size x w') := Lib.hid fun x pa pc ba bc rv fv h1 h2 h3 =>
    body11_any m pa pc ba bc awRR awFF rv fv (bs [70]) x h1 (by omega) (by omega) h2 h3 hRk hFk fin hfin
  have HWa : Hid (∀ (x : World) (pa : Option Addr) (pc : Nat) (ba : Option Addr) (bc : Nat), MB m pa pc ba bc x → Calls Tryz.prog 56 #[.agg #[.string m.name, .bool m.fn, .bool m.va, .slice pa m.params.length pc, .slice ba m.body.length bc, .string m.file, .int .i64 m.f, .int .i64 m.t]] x fun e w' => (∃ vr vf, e = .returned (.tuple #[vr, vf]) ∧ Own w' x.heap.size 4 1 vr ([true, true].map boolC) ∧ Own w' x.heap.size 4 1 vf ([false, true].map boolC)) ∧ Below x.heap.size x w') := Lib.hid fun x pa pc ba bc h1 =>
    wants11_any m pa pc ba bc x h1 (by omega) (by omega) _ hwz
  obtain ⟨mname, mfn, mva, mps, mbody, mfile, mf, mt⟩ := m
  simp only at HPar HBo HWa hbl hpl hne hfn hva
  rw [hpl] at HPar HBo HWa
  obtain ⟨bn, hbn⟩ : ∃ q, q = mbody.length := ⟨_, rfl⟩
  rw [← hbn] at HPar HBo HWa hbl
  replace hbn := Lib.hid hbn
  replace hfin := Lib.hid hfin
  replace hm := Lib.hid hm
  replace hwz := Lib.hid hwz
  replace hck := Lib.hid hck
  replace htx := Lib.hid htx
  replace hsz := Lib.hid hsz
  replace hds := Lib.hid hds
  replace hout := Lib.hid hout
  replace hne := Lib.hid hne
  replace hpl := Lib.hid hpl
  replace hfn := Lib.hid hfn
  replace hva := Lib.hid hva
  clear hRk hFk
  go_enter Tryz.func32, Tryz.ntmps32
  go_wp2_with fail
  refine (toks11_rd awText (by decide) w).mono ?_
  rintro e w1 ⟨n1, ao1, cap1, rfl, hb1, hr1⟩
  have HP1 := HPar.out w1 ao1 n1 cap1 hr1.out.2.1 hr1.out.2.2.1 (Nat.le_trans hr1.out.2.2.2.1 (by decide)) hr1.out.2.2.2.2
  replace HP1 := Lib.hid HP1
  go_wp2_with fail
  refine HP1.out.mono ?_
  rintro e w2 ⟨⟨pa, pc, ba, bc, rfl, hM2⟩, hb2⟩
  clear HPar HP1 hr1
  obtain ⟨W3, hW3⟩ : ∃ W3, W3 = w2.alloc (.cells #[.string mname, .bool mfn, .bool mva, .slice pa 2 pc, .slice ba bn bc, .string mfile, .int .i64 mf, .int .i64 mt] 47) := ⟨_, rfl⟩
  have b23 : Below w2.heap.size w2 W3 := by rw [hW3]; exact (Below.refl _ w2).alloc (Nat.le_refl _) _
  have hc3 : W3.heap[w2.heap.size]? = some (.cells #[.string mname, .bool mfn, .bool mva, .slice pa 2 pc, .slice ba bn bc, .string mfile, .int .i64 mf, .int .i64 mt] 47 (0, 0)) := by rw [hW3]; exact heap_alloc_new w2 _
  have b3 : Below w.heap.size w W3 := (hb1.trans (hb2.mono hb1.size)).trans (b23.mono (Nat.le_trans hb1.size hb2.size))
  have hM3 := hM2.below b23
  obtain ⟨gm, hgm⟩ : ∃ g, g = w2.heap.size := ⟨_, rfl⟩
  rw [← hgm] at hc3
  obtain ⟨k0, k1, k2, k3, k4, k5, k6, k7⟩ := cells8 hc3
  replace hc3 := Lib.hid hc3
  replace hM3 := Lib.hid hM3
  replace b3 := Lib.hid b3
  clear hM2 hb1 hb2 b23
  go_upto_region 2 with fail
  rw [← hW3, ← hgm]
  replace hW3 := Lib.hid hW3
  replace hgm := Lib.hid hgm
  go_wp2_with fail
  refine (made11_any mname mfn mva (.slice pa 2 pc) (.slice ba bn bc) mfile mf mt ⟨_, _, _, rfl⟩ ⟨_, _, _, rfl⟩ W3).mono ?_
  rintro e w4 ⟨rfl, hb4⟩
  go_wp2_with fail
  refine (toks11_rd (bs [120]) (by decide) w4).mono ?_
  rintro e w5 ⟨n5, ao5, cap5, rfl, hb5, hr5⟩
  go_wp2_with fail
  refine (toks11_rd (bs [49]) (by decide) w5).mono ?_
  rintro e w6 ⟨n6, ao6, cap6, rfl, hb6, hr6⟩
  obtain ⟨W7, hW7⟩ : ∃ W7, W7 = w6.alloc (.cells #[.slice ao5 n5 cap5, .slice ao6 n6 cap6] 22) := ⟨_, rfl⟩
  have b67 : Below w6.heap.size w6 W7 := by rw [hW7]; exact (Below.refl _ w6).alloc (Nat.le_refl _) _
  have hx7 : W7.heap[w6.heap.size]? = some (.cells #[.slice ao5 n5 cap5, .slice ao6 n6 cap6] 22 (0, 0)) := by rw [hW7]; exact heap_alloc_new w6 _
  have hL7 : Hid (LsRd W7 (.slice (some ⟨w6.heap.size, 0, none⟩) 2 2) awRR) := Lib.hid (lsRd_two hx7 ((hr5.out.1.below hb6).below b67) (hr6.out.1.below b67))
  have b37 : Hid (Below W3.heap.size W3 W7) := Lib.hid (((hb4.trans (hb5.mono hb4.size)).trans (hb6.mono (Nat.le_trans hb4.size hb5.size))).trans (b67.mono (Nat.le_trans hb4.size (Nat.le_trans hb5.size hb6.size))))
  obtain ⟨g7, hg7⟩ : ∃ g, g = w6.heap.size := ⟨_, rfl⟩
  rw [← hg7] at hL7
  clear hx7 hr5 hr6 hb4 hb5 hb6 b67
  go_wp2_with fail
  rw [← hW7, ← hg7]
  replace hW7 := Lib.hid hW7
  replace hg7 := Lib.hid hg7
  refine (toks11_rd (bs [88]) (by decide) W7).mono ?_
  rintro e w8 ⟨n8, ao8, cap8, rfl, hb8, hr8⟩
  go_wp2_with fail
  refine (toks11_rd (bs [50]) (by decide) w8).mono ?_
  rintro e w9 ⟨n9, ao9, cap9, rfl, hb9, hr9⟩
  obtain ⟨W10, hW10⟩ : ∃ W10, W10 = w9.alloc (.cells #[.slice ao8 n8 cap8, .slice ao9 n9 cap9] 22) := ⟨_, rfl⟩
  have b910 : Below w9.heap.size w9 W10 := by rw [hW10]; exact (Below.refl _ w9).alloc (Nat.le_refl _) _
  have hx10 : W10.heap[w9.heap.size]? = some (.cells #[.slice ao8 n8 cap8, .slice ao9 n9 cap9] 22 (0, 0)) := by rw [hW10]; exact heap_alloc_new w9 _
  have hL10 : LsRd W10 (.slice (some ⟨w9.heap.size, 0, none⟩) 2 2) awFF := lsRd_two hx10 ((hr8.out.1.below hb9).below b910) (hr9.out.1.below b910)
  have b710 : Below W7.heap.size W7 W10 := (hb8.trans (hb9.mono hb8.size)).trans (b910.mono (Nat.le_trans hb8.size hb9.size))
  have b310 := b37.out.trans (b710.mono b37.out.size)
  have HB10 := HBo.out W10 pa pc ba bc _ _ (hM3.out.below b310) (hL7.out.below b710) hL10
  obtain ⟨g10, hg10⟩ : ∃ g, g = w9.heap.size := ⟨_, rfl⟩
  rw [← hg10] at HB10
  replace HB10 := Lib.hid HB10
  replace b310 := Lib.hid b310
  clear hx10 hr8 hr9 hb8 hb9 b910 hL10 b710 HBo hL7 b37
  go_wp2_with fail
  rw [← hW10, ← hg10]
  replace hW10 := Lib.hid hW10
  replace hg10 := Lib.hid hg10
  refine HB10.out.mono ?_
  rintro e w11 ⟨⟨v, vf, vd, rfl, ho11, hf11, hd11⟩, hb11⟩
  obtain ⟨va, vc, rfl⟩ := ho11.slice (n := 3) (by rw [List.length_map]; exact hout.out)
  obtain ⟨fa, fc, rfl, _, _, _, _⟩ := hf11.rown (n := 3) (by rw [List.length_map]; exact hout.out)
  obtain ⟨da, dc, rfl, _, _, _, _⟩ := hd11.rown (n := 0) (by rw [List.length_map]; exact hds.out)
  have b311 : Hid (Below W3.heap.size W3 w11) := Lib.hid (b310.out.trans (hb11.mono b310.out.size))
  have HTx : Hid (∀ x, Below w11.heap.size w11 x → Calls Tryz.prog 57 #[.slice va 3 vc] x fun e w' => e = .returned (.string (bs [120, 49, 32, 34, 120, 34, 32, 50])) ∧ Below x.heap.size x w') := Lib.hid fun x hx => by
    have h := rTextO_any (ho11.below hx) (by rw [List.length_map, hout.out]; decide) (by
      intro y hy
      obtain ⟨p, hp, rfl⟩ := List.mem_map.1 hy
      exact hsz.out p hp)
    rw [List.map_map, show ((fun x : Tf => x.1) ∘ tfZ) = (fun p : Pz => p.t) from rfl, htx.out] at h
    exact h
  replace hf11 := Lib.hid hf11
  replace hd11 := Lib.hid hd11
  clear ho11 hb11 HB10
  have HP1 := Lib.hid (paste11_any (bs [60]) (bs [60, 61]) (some 5) aw_p1 (by decide) w11)
  go_wp2_with fail
  refine HP1.out.mono ?_
  rintro e w12 ⟨⟨tk, tx, tmd, ta, tn, tc, rfl, htt⟩, hb12⟩
  obtain ⟨rfl, rfl⟩ := htt rfl
  obtain ⟨W13, hW13⟩ : ∃ W13, W13 = w12.alloc (.cells #[.int .i64 tk, .string (bs [60] ++ bs [60, 61]), .bool false, .string ⟨#[]⟩, .int .i64 0, .int .i64 0, .bool true, .slice ta tn tc] 34) := ⟨_, rfl⟩
  have b1213 : Below w12.heap.size w12 W13 := by rw [hW13]; exact (Below.refl _ w12).alloc (Nat.le_refl _) _
  have hx13 : W13.heap[w12.heap.size]? = some (.cells #[.int .i64 tk, .string (bs [60] ++ bs [60, 61]), .bool false, .string ⟨#[]⟩, .int .i64 0, .int .i64 0, .bool true, .slice ta tn tc] 34 (0, 0)) := by rw [hW13]; exact heap_alloc_new w12 _
  have b1113 : Hid (Below w11.heap.size w11 W13) := Lib.hid (hb12.trans (b1213.mono hb12.size))
  obtain ⟨gt, hgt⟩ : ∃ g, g = w12.heap.size := ⟨_, rfl⟩
  rw [← hgt] at hx13
  replace hx13 := Lib.hid hx13
  clear hb12 b1213 HP1
  have HP2 := Lib.hid (paste11_any (bs [97]) (bs [43]) none aw_p2 (by decide) W13)
  go_upto_region 4 with fail
  rw [← hW13, ← hgt]
  replace hW13 := Lib.hid hW13
  replace hgt := Lib.hid hgt
  obtain ⟨tx, htx0⟩ : ∃ x, x = bs [60] ++ bs [60, 61] := ⟨_, rfl⟩
  rw [← htx0] at hx13 ⊢
  have htx1 : (tx.toList == [60, 60, 61]) = true := by rw [htx0, beq_text]; exact decide_eq_true rfl
  replace htx0 := Lib.hid htx0
  go_wp2_with fail
  refine HP2.out.mono ?_
  rintro e w14 ⟨⟨uk, ux, umd, ua, un, uc, rfl, _⟩, hb14⟩
  obtain ⟨W15, hW15⟩ : ∃ W15, W15 = w14.alloc (.cells #[.int .i64 uk, .string ux, .bool false, .string ⟨#[]⟩, .int .i64 0, .int .i64 0, .bool umd, .slice ua un uc] 34) := ⟨_, rfl⟩
  have b1315 : Below W13.heap.size W13 W15 := by rw [hW15]; exact hb14.alloc hb14.size _
  have b1115 : Hid (Below w11.heap.size w11 W15) := Lib.hid (b1113.out.trans (b1315.mono b1113.out.size))
  have b315 : Below W3.heap.size W3 W15 := b311.out.trans (b1115.out.mono b311.out.size)
  have hx15 := Lib.hid ((b1315.block _ (lt_of_block hx13.out)).trans hx13.out)
  have hc15 := (b315.block _ (lt_of_block hc3.out)).trans hc3.out
  have hM15 := hM3.out.below b315
  obtain ⟨k0, k1, k2, k3, k4, k5, k6, k7⟩ := cells8 hc15
  obtain ⟨gu, hgu⟩ : ∃ g, g = w14.heap.size := ⟨_, rfl⟩
  replace hc15 := Lib.hid hc15
  replace b315 := Lib.hid b315
  clear hb14 b1315 HP2
  go_upto_region 5 with fail
  rw [← hW15, ← hgu]
  replace hW15 := Lib.hid hW15
  replace hgu := Lib.hid hgu
  go_wp2_with fail
  refine (made11_any mname mfn mva (.slice pa 2 pc) (.slice ba bn bc) mfile mf mt ⟨_, _, _, rfl⟩ ⟨_, _, _, rfl⟩ W15).mono ?_
  rintro e w16 ⟨rfl, hb16⟩
  have HW16 := Lib.hid (HWa.out w16 pa pc ba bc (hM15.below hb16))
  replace hM15 := Lib.hid hM15
  go_wp2_with fail
  refine HW16.out.mono ?_
  rintro e w17 ⟨⟨vr, vq, rfl, hr17, hq17⟩, hb17⟩
  obtain ⟨ra, rc, rfl, _, _, _, _⟩ := hr17.rown (n := 2) rfl
  obtain ⟨qa, qc, rfl, _, _, _, _⟩ := hq17.rown (n := 2) rfl
  have b1517 : Below W15.heap.size W15 w17 := hb16.trans (hb17.mono hb16.size)
  have b1117 : Hid (Below w11.heap.size w11 w17) := Lib.hid (b1115.out.trans (b1517.mono b1115.out.size))
  have hx17 := Lib.hid ((b1517.block _ (lt_of_block hx15.out)).trans hx15.out)
  have b317 : Hid (Below W3.heap.size W3 w17) := Lib.hid (b315.out.trans (b1517.mono b315.out.size))
  have HT17 := HTx.out w17 b1117.out
  obtain ⟨sx, hsx⟩ : ∃ x, x = bs [120, 49, 32, 34, 120, 34, 32, 50] := ⟨_, rfl⟩
  rw [← hsx] at HT17
  have hsx1 : (sx.toList == [120, 49, 32, 34, 120, 34, 32, 50]) = true := by rw [hsx, beq_text]; exact decide_eq_true rfl
  replace hsx := Lib.hid hsx
  replace HT17 := Lib.hid HT17
  replace hr17 := Lib.hid hr17
  replace hq17 := Lib.hid hq17
  clear hb16 hb17 b1517 HW16 k0 k1 k2 k3 k4 k5 k6 k7
  go_wp2_with fail
  refine HT17.out.mono ?_
  rintro e w18 ⟨rfl, hb18⟩
  have b318 : Below W3.heap.size W3 w18 := b317.out.trans (hb18.mono b317.out.size)
  obtain ⟨x0, x1, x2, x3, x4, x5, x6, x7⟩ := cells8 ((hb18.block _ (lt_of_block hx17.out)).trans hx17.out)
  have hr18 := hr17.out.below hb18
  have hq18 := hq17.out.below hb18
  obtain ⟨W19, hW19⟩ : ∃ W19, W19 = w18.alloc (.cells #[.bool true, .bool true] 4) := ⟨_, rfl⟩
  have b1819 : Below w18.heap.size w18 W19 := by rw [hW19]; exact (Below.refl _ w18).alloc (Nat.le_refl _) _
  have hl19 : Row W19 1 (some ⟨w18.heap.size, 0, none⟩) ([true, true].map boolC) := by rw [hW19]; exact row_new w18 (sz := 1) (by simp [boolC]) _ (by simp [boolC]) rfl
  have HS19 := Lib.hid (same11_any [true, true] ra (some ⟨w18.heap.size, 0, none⟩) rc 2 (by decide) W19 (hr18.below b1819).here hl19)
  go_wp2_with fail
  rw [← hW19]
  replace hW19 := Lib.hid hW19
  refine HS19.out.mono ?_
  rintro e w20 ⟨rfl, hb20⟩
  have b1820 : Below w18.heap.size w18 w20 := b1819.trans (hb20.mono b1819.size)
  obtain ⟨W21, hW21⟩ : ∃ W21, W21 = w20.alloc (.cells #[.bool false, .bool true] 4) := ⟨_, rfl⟩
  have b2021 : Below w20.heap.size w20 W21 := by rw [hW21]; exact (Below.refl _ w20).alloc (Nat.le_refl _) _
  have hl21 : Row W21 1 (some ⟨w20.heap.size, 0, none⟩) ([false, true].map boolC) := by rw [hW21]; exact row_new w20 (sz := 1) (by simp [boolC]) _ (by simp [boolC]) rfl
  have HS21 := Lib.hid (same11_any [false, true] qa (some ⟨w20.heap.size, 0, none⟩) qc 2 (by decide) W21 ((hq18.below b1820).below b2021).here hl21)
  have b321 : Hid (Below W3.heap.size W3 W21) := Lib.hid ((b318.trans (b1820.mono b318.size)).trans (b2021.mono (Nat.le_trans b318.size b1820.size)))
  clear hr18 hq18 hl19 hl21 b1819 hb20 b1820 b2021 HS19 x0 x1 x2 x3 x4 x5 x6 x7
  go_wp2_with fail
  rw [← hW21]
  replace hW21 := Lib.hid hW21
  refine HS21.out.mono ?_
  rintro e w22 ⟨rfl, hb22⟩
  go_wp2
  go_ret
  exact ⟨rfl, b3.out.trans ((b321.out.trans (hb22.mono b321.out.size)).mono b3.out.size)⟩
end Go.Proofs.YtfaoamdlknlgpaaGreat
