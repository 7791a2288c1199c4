/- Texts of this seat's proofs, laid into one file. -/
import Derived.Test.YtfaoamdlknlgpaaGreatArgsCollectDoneG29
import Derived.Test.YtfaoamdlknlgpaaGreatArgsCollectDoneG22
import Derived.Test.YtfaoamdlknlgpaaGreatArgsCollectDoneG28
import Derived.Deep.RegionHeld3
import Derived.Test.YtfaoamdlknlgpaaGreatArgsCollectDoneG27
/- The document's Collect, walked. -/
namespace Go.Proofs.YtfaoamdlknlgpaaGreat
open Go.RowKit
set_option linter.unusedVariables false

/-- rows of the argument's own tokens, read with what their sites hold -/
theorem rows_in {w w' : World} {B : Nat} {v : Value} {T' : List (Tm × Value)} {X' : List Tf} (ho : Own w' B 34 8 v (T'.map tvC)) (hl : T'.length = X'.length) (hs : ∀ (i : Nat) p x, T'[i]? = some p → X'[i]? = some x → p.1 = x.1 ∧ SiteIn w p.2 x.2) (hb : Below w.heap.size w w') : ToksIn w' v X' := by
  obtain ⟨ao, cap, rfl, a1, a2, a3, a4⟩ := ho.rown (n := X'.length) (by rw [List.length_map, hl])
  refine ⟨ao, cap, T', rfl, a1, a2, fun e => ⟨?_, (a4 e).2⟩, a3, hl, fun i p x hp hx => ⟨(hs i p x hp hx).1, (hs i p x hp hx).2.below hb⟩⟩
  have h5 : T' = [] := by simpa using (a4 e).1
  rw [h5] at hl
  exact List.eq_nil_of_length_eq_zero hl.symm

theorem cut_rel {T : List (Tm × Value)} {X : List Tf} {Q : Tm × Value → Tf → Prop} (hs : ∀ (i : Nat) p x, T[i]? = some p → X[i]? = some x → Q p x) (f t : Nat) : ∀ (i : Nat) p x, (cutT T f t)[i]? = some p → ((X.drop f).take (t - f))[i]? = some x → Q p x := by
  intro i p x hp hx
  unfold cutT at hp
  rw [List.getElem?_take] at hp hx
  split at hp
  · rename_i h
    rw [if_pos h, List.getElem?_drop] at hx
    rw [List.getElem?_drop] at hp
    exact hs _ p x hp hx
  · cases hp

theorem cut_len {T : List (Tm × Value)} {X : List Tf} (h : T.length = X.length) (f t : Nat) : (cutT T f t).length = ((X.drop f).take (t - f)).length := by
  unfold cutT
  rw [List.length_take, List.length_take, List.length_drop, List.length_drop, h]

/-- the commas ahead of each are those behind the ones before -/
theorem commas_chain (X : List Tf) : ∀ (r : List (Nat × Nat)) (q : Nat × Nat) (s e : Nat), chainP s (q :: r) e → (r.filterMap fun p => X[p.1 - 1]?) = ((q :: r).dropLast.filterMap fun p => X[p.2]?)
  | [], q, s, e, _ => rfl
  | p :: r, q, s, e, h => by
    obtain ⟨h1, h2, h3⟩ := h
    have h4 := commas_chain X r p _ e h3
    obtain ⟨h5, _, _⟩ := h3
    rw [List.dropLast_cons_of_ne_nil (by simp), List.filterMap_cons, List.filterMap_cons, h4, h5, Nat.add_sub_cancel]

theorem com_rel {T : List (Tm × Value)} {X : List Tf} {Q : Tm × Value → Tf → Prop} (hl : T.length = X.length) (hs : ∀ (i : Nat) p x, T[i]? = some p → X[i]? = some x → Q p x) : ∀ (out : List (Nat × Nat)), (comR T out).length = (out.filterMap fun p => X[p.2]?).length ∧ ∀ (i : Nat) p x, (comR T out)[i]? = some p → (out.filterMap fun p => X[p.2]?)[i]? = some x → Q p x
  | [] => ⟨rfl, by simp [comR]⟩
  | q :: out => by
    obtain ⟨h1, h2⟩ := com_rel hl hs out
    unfold comR at h1 h2 ⊢
    rw [List.filterMap_cons, List.filterMap_cons]
    cases hp : T[q.2]? with
    | none =>
      have : X[q.2]? = none := by rw [List.getElem?_eq_none_iff, ← hl, ← List.getElem?_eq_none_iff]; exact hp
      rw [this]
      exact ⟨h1, h2⟩
    | some p =>
      obtain ⟨x, hx⟩ : ∃ x, X[q.2]? = some x := ⟨_, List.getElem?_eq_getElem (by rw [← hl]; exact (List.getElem?_eq_some_iff.1 hp).1)⟩
      rw [hx]
      refine ⟨by simp [h1], ?_⟩
      intro i p' x' hp' hx'
      cases i with
      | zero =>
        simp only [List.getElem?_cons_zero, Option.some.injEq] at hp' hx'
        subst hp' hx'
        exact hs _ _ _ hp hx
      | succ i => exact h2 i p' x' (by simpa using hp') (by simpa using hx')

def RcPost (r : List (List Tf) × List Tf × Nat) (e : Ending) (w' : World) : Prop :=
  ∃ v2 v3, e = .returned (.tuple #[v2, v3, .int .i64 r.2.2, .bool (decide (0 < r.2.2))]) ∧ LsIn w' v2 r.1 ∧ ToksIn w' v3 r.2.1

theorem LsIn.nil (w : World) : LsIn w (.slice none 0 0) [] := ⟨none, 0, [], rfl, Nat.le_refl _, Nat.zero_le _, Row.nil _ _ _, rfl, by simp, fun _ => rfl⟩
theorem ToksIn.nil (w : World) : ToksIn w (.slice none 0 0) [] := ⟨none, 0, [], rfl, Nat.le_refl _, Nat.zero_le _, fun _ => ⟨rfl, rfl⟩, Row.nil _ _ _, rfl, by simp⟩

theorem rc_none {X : List Tf} (h : partsL (X.map (·.1)) = none) (w : World) : RcPost (colP X) (.returned (.tuple #[.slice none 0 0, .slice none 0 0, .int .i64 0, .bool false])) w := by
  rw [col_none h]
  exact ⟨_, _, rfl, LsIn.nil w, ToksIn.nil w⟩

/-- where all is collected -/
theorem rc_some {X : List Tf} {T : List (Tm × Value)} {w w' : World} {B i fr : Nat} {out : List (Nat × Nat)} {v7 v9 : Value} (hl : T.length = X.length) (hs : ∀ (i : Nat) p x, T[i]? = some p → X[i]? = some x → p.1 = x.1 ∧ SiteIn w p.2 x.2) (hb : Below w.heap.size w w') (hR : partsL (X.map (·.1)) = some (out ++ [(fr, i)], i + 1))
    (h : (∃ vs' : List Value, Own w' B 22 1 v7 (vs'.map fun u => [u]) ∧ vs'.length = (out ++ [(fr, i)]).length ∧ (∀ (j : Nat) u p, vs'[j]? = some u → (out ++ [(fr, i)])[j]? = some p → Own w' B 34 8 u ((cutT T p.1 p.2).map tvC)) ∧ ∀ u ∈ vs', ∀ k, u.ownBlock = some k → v9.ownBlock ≠ some k) ∧ Own w' B 34 8 v9 ((comR T out).map tvC)) :
    RcPost (colP X) (.returned (.tuple #[v7, v9, .int .i64 ((i : Int) + 1), .bool true])) w' := by
  obtain ⟨⟨vs, l1, l2, l3, _⟩, hc⟩ := h
  have e : colP X = (argsOf X (out ++ [(fr, i)]), commasOf X (out ++ [(fr, i)]), i + 1) := by unfold colP colL; rw [hR]; rfl
  have hch := partsL_chain hR
  have hcm : commasOf X (out ++ [(fr, i)]) = out.filterMap fun p => X[p.2]? := by
    unfold commasOf
    simp only at hch
    cases ho : out with
    | nil => rfl
    | cons q r =>
      rw [ho] at hch
      have := commas_chain X (r ++ [(fr, i)]) q _ _ hch
      rw [show (q :: r ++ [(fr, i)]).drop 1 = r ++ [(fr, i)] from rfl, this, show q :: (r ++ [(fr, i)]) = (q :: r) ++ [(fr, i)] from rfl, List.dropLast_concat]
  rw [e, hcm]
  have hal : (argsOf X (out ++ [(fr, i)])).length = (out ++ [(fr, i)]).length := by unfold argsOf; rw [List.length_map]
  obtain ⟨c1, c2⟩ := com_rel hl hs out
  refine ⟨v7, v9, by simp, ?_, rows_in hc c1 c2 hb⟩
  obtain ⟨ao, cap, rfl, a1, a2, a3, a4⟩ := l1.rown (n := (argsOf X (out ++ [(fr, i)])).length) (by rw [List.length_map, l2, hal])
  refine ⟨ao, cap, vs, rfl, a1, a2, a3, by rw [l2, hal], fun j u Y hu hY => ?_, fun e => (a4 e).2⟩
  unfold argsOf at hY
  rw [List.getElem?_map] at hY
  cases hp : (out ++ [(fr, i)])[j]? with
  | none => rw [hp] at hY; cases hY
  | some p =>
    rw [hp] at hY
    simp only [Option.map_some, Option.some.injEq] at hY
    subst hY
    exact rows_in (l3 j u p hu hp) (cut_len hl _ _) (cut_rel hs _ _) hb
end Go.Proofs.YtfaoamdlknlgpaaGreat

/- The document's Fit. -/
namespace Go.Proofs.YtfaoamdlknlgpaaGreat
open Go.RowKit
set_option linter.unusedVariables false

/-- tokens with values of sites that hold what is said -/
def RelT (w : World) (Tr : List (Tm × Value)) (R : List Tf) : Prop := Tr.length = R.length ∧ ∀ (i : Nat) p x, Tr[i]? = some p → R[i]? = some x → p.1 = x.1 ∧ SiteIn w p.2 x.2

theorem RelT.app {w : World} {T1 T2 : List (Tm × Value)} {R1 R2 : List Tf} (h1 : RelT w T1 R1) (h2 : RelT w T2 R2) : RelT w (T1 ++ T2) (R1 ++ R2) := by
  refine ⟨by simp [h1.1, h2.1], fun i p x hp hx => ?_⟩
  by_cases hi : i < T1.length
  · rw [List.getElem?_append_left hi] at hp
    rw [List.getElem?_append_left (by rw [← h1.1]; exact hi)] at hx
    exact h1.2 i p x hp hx
  · rw [List.getElem?_append_right (by omega)] at hp
    rw [List.getElem?_append_right (by rw [← h1.1]; omega), ← h1.1] at hx
    exact h2.2 _ p x hp hx

theorem ToksIn.rel {w : World} {v : Value} {X : List Tf} (h : ToksIn w v X) : ∃ (ao : Option Addr) (cap : Nat) (T : List (Tm × Value)), v = .slice ao X.length cap ∧ X.length ≤ cap ∧ (ao = none → cap = 0) ∧ Row w 8 ao (T.map tvC) ∧ RelT w T X := by
  obtain ⟨ao, cap, T, h1, h2, _, h4, h5, h6, h7⟩ := h
  exact ⟨ao, cap, T, h1, h2, fun e => (h4 e).2, h5, h6, h7⟩

theorem RelT.sl {w : World} {Tr : List (Tm × Value)} {R : List Tf} (h : RelT w Tr R) : (∀ cs ∈ Tr.map tvC, cs.length = 8) ∧ ∀ cs ∈ Tr.map tvC, ∀ u ∈ cs, u.oneCell' = true := by
  refine ⟨fun cs hcs => by obtain ⟨p, _, rfl⟩ := List.mem_map.1 hcs; rfl, fun cs hcs u hu => ?_⟩
  obtain ⟨p, hp, rfl⟩ := List.mem_map.1 hcs
  obtain ⟨i, hi⟩ := List.getElem?_of_mem hp
  obtain ⟨x, hx⟩ : ∃ x, R[i]? = some x := ⟨_, List.getElem?_eq_getElem (by rw [← h.1]; exact (List.getElem?_eq_some_iff.1 hi).1)⟩
  obtain ⟨a, c, hv, _⟩ := (h.2 i p x hi hx).2
  simp only [tvC, tmC, hv, List.mem_cons, List.not_mem_nil, or_false] at hu
  rcases hu with rfl | rfl | rfl | rfl | rfl | rfl | rfl | rfl <;> rfl

theorem RelT.toks {w w' : World} {B : Nat} {v : Value} {Tr : List (Tm × Value)} {R : List Tf} (h : RelT w Tr R) (ho : Own w' B 34 8 v (Tr.map tvC)) (hb : Below w.heap.size w w') : ToksIn w' v R := rows_in ho h.1 h.2 hb
end Go.Proofs.YtfaoamdlknlgpaaGreat

/- args: Fit, of no lists. -/
namespace Go.Proofs.YtfaoamdlknlgpaaGreat
open Go.RowKit
set_option linter.unusedVariables false

set_option maxRecDepth 100000 in
set_option maxHeartbeats 400000 in
theorem fit_none (name : ByteArray) (fn va : Bool) (pao : Option Addr) (np pcap : Nat) (bo : Value) (file : ByteArray) (f t : Int) (lao : Option Addr) (lcap : Nat) (cao : Option Addr) (ccap : Nat) (hn : np ≤ 1000000) (w : World) :
    Calls Tryz.prog 28 #[.agg #[.string name, .bool fn, .bool va, .slice pao np pcap, bo, .string file, .int .i64 f, .int .i64 t], .slice lao 0 lcap, .slice cao 0 ccap] w fun e w' => (∃ v, e = .returned (.tuple #[v, .bool (fitP np va [] []).2]) ∧ OwnLs (fitP np va [] []).1 w.heap.size v w') ∧ Below w.heap.size w w' := by
  have HSe := fun (W : World) => shape_any name fn va pao np pcap bo file f t 0 false hn (by decide) W
  obtain ⟨W1, hW1⟩ : ∃ W1, W1 = w.alloc (.cells #[.string name, .bool fn, .bool va, .slice pao np pcap, bo, .string file, .int .i64 f, .int .i64 t] 53) := ⟨_, rfl⟩
  have b1 : Hid (Below w.heap.size w W1) := Lib.hid (by rw [hW1]; exact (Below.refl _ w).alloc (Nat.le_refl _) _)
  have hbx : W1.heap[w.heap.size]? = some (.cells #[.string name, .bool fn, .bool va, .slice pao np pcap, bo, .string file, .int .i64 f, .int .i64 t] 53 (0, 0)) := by rw [hW1]; exact heap_alloc_new w _
  replace hbx := Lib.hid hbx
  obtain ⟨pl, ok, hsh⟩ : ∃ pl ok, shapeL np va 0 false = (pl, ok) := ⟨_, _, rfl⟩
  rw [hsh] at HSe
  simp only at HSe
  rw [show ((0 : Nat) : Int) = 0 from rfl] at HSe
  replace hsh := Lib.hid hsh
  replace HSe := Lib.hid HSe
  go_enter Tryz.func28, Tryz.ntmps28
  go_upto_region 2 with fail
  rw [← hW1]
  replace hW1 := Lib.hid hW1
  go_cut [7, 9] from 15 to 31 (fun s7 s9 wx => s7 = .bool ok ∧ s9 = .int .i64 pl ∧ Hid (Below W1.heap.size W1 wx))
  case first =>
    obtain ⟨x0, x1, x2, x3, x4, x5, x6, x7⟩ := cells8 hbx.out
    have HSf : Hid (∀ x, Below W1.heap.size W1 x → Calls Tryz.prog 55 #[.agg #[.string name, .bool fn, .bool va, .slice pao np pcap, bo, .string file, .int .i64 f, .int .i64 t], .int .i64 0, .bool false] x fun e w' => e = .returned (.tuple #[.int .i64 pl, .bool ok]) ∧ Below W1.heap.size W1 w') := Lib.hid fun x hx => (HSe.out x).mono fun e w' ⟨h1, h2⟩ => ⟨h1, hx.trans (h2.mono hx.size)⟩
    have hb0' := (Below.refl W1.heap.size W1).drew
    refine wp_region_any (by kernel_rfl) ?_
    change wpAny _ _ _ _ _ _ _ (World.drew _)
    refine wpAny_take (i := 1) (v := ?v1) rfl (by kernel_rfl) (by kernel_rfl) (by kernel_rfl) (fun _ _ _ h => h) (Or.inl ⟨by kernel_rfl, ?hy1⟩) ?_
    case hy1 =>
      intro w'
      go_simp
      try with_reducible rfl
    refine wpAny_take (i := 2) (v := ?v2) rfl (by kernel_rfl) (by kernel_rfl) (by kernel_rfl) (fun _ _ _ h => h) (Or.inl ⟨by kernel_rfl, ?hy2⟩) ?_
    case hy2 =>
      intro w'
      go_simp
      try with_reducible rfl
    refine wpAny_take (i := 3) (v := ?v3) rfl (by kernel_rfl) (by kernel_rfl) (by kernel_rfl) (fun _ _ _ h => h) (Or.inl ⟨by kernel_rfl, ?hy3⟩) ?_
    case hy3 =>
      intro w'
      go_simp
      try with_reducible rfl
    refine wpAny_take (i := 4) (v := ?v4) rfl (by kernel_rfl) (by kernel_rfl) (by kernel_rfl) (fun _ _ _ h => h) (Or.inl ⟨by kernel_rfl, ?hy4⟩) ?_
    case hy4 =>
      intro w'
      go_simp
      try with_reducible rfl
    refine wpAny_take (i := 5) (v := ?v5) rfl (by kernel_rfl) (by kernel_rfl) (by kernel_rfl) (fun _ _ _ h => h) (Or.inl ⟨by kernel_rfl, ?hy5⟩) ?_
    case hy5 =>
      intro w'
      go_simp
      try with_reducible rfl
    refine wpAny_take (i := 6) (v := ?v6) rfl (by kernel_rfl) (by kernel_rfl) (by kernel_rfl) (fun _ _ _ h => h) (Or.inl ⟨by kernel_rfl, ?hy6⟩) ?_
    case hy6 =>
      intro w'
      go_simp
      try with_reducible rfl
    refine wpAny_take (i := 7) (v := undef) rfl (by kernel_rfl) (by kernel_rfl) (by kernel_rfl) (fun _ _ _ h => h) (Or.inr ⟨by kernel_rfl, rfl⟩) ?_
    refine wpAny_take (i := 8) (v := undef) rfl (by kernel_rfl) (by kernel_rfl) (by kernel_rfl) (fun _ _ _ h => h) (Or.inr ⟨by kernel_rfl, rfl⟩) ?_
    refine wpAny_take (i := 9) (v := undef) rfl (by kernel_rfl) (by kernel_rfl) (by kernel_rfl) (fun _ _ _ h => h) (Or.inr ⟨by kernel_rfl, rfl⟩) ?_
    refine wpAny_take (i := 10) (v := undef) rfl (by kernel_rfl) (by kernel_rfl) (by kernel_rfl) (fun _ _ _ h => h) (Or.inr ⟨by kernel_rfl, rfl⟩) ?_
    refine wpAny_take (i := 11) (v := undef) rfl (by kernel_rfl) (by kernel_rfl) (by kernel_rfl) (fun _ _ _ h => h) (Or.inr ⟨by kernel_rfl, rfl⟩) ?_
    refine wpAny_take (i := 12) (v := ?v12) rfl (by kernel_rfl) (by kernel_rfl) (by kernel_rfl) (fun _ _ _ h => h) (Or.inl ⟨by kernel_rfl, ?hy12⟩) ?_
    case hy12 =>
      intro w'
      go_simp
      try with_reducible rfl
    refine wpAny_ready (rs := [0]) (by kernel_rfl) (by simp) ?_
    refine AllReady.cons rfl (fun K hK => ?_) AllReady.nil
    go_simp
    refine hK _ _ ?_
    clear hK K
    refine wpAny_ready (rs := [13]) (by kernel_rfl) (by simp) ?_
    refine AllReady.cons rfl (fun K hK => ?_) AllReady.nil
    go_simp
    go_wp2_with (go_at_call 55; refine (HSf.out _ hb0').mono ?_; rintro e w5 ⟨rfl, hb5⟩)
    refine wpAny_take (i := 14) (v := ?v14) rfl (by kernel_rfl) (by kernel_rfl) (by kernel_rfl) (fun _ _ _ h => h) (Or.inl ⟨by kernel_rfl, ?hy14⟩) ?_
    case hy14 =>
      intro w'
      go_simp
      try with_reducible rfl
    refine wpAny_take (i := 15) (v := ?v15) rfl (by kernel_rfl) (by kernel_rfl) (by kernel_rfl) (fun _ _ _ h => h) (Or.inl ⟨by kernel_rfl, ?hy15⟩) ?_
    case hy15 =>
      intro w'
      go_simp
      try with_reducible rfl
    refine wpAny_take (i := 16) (v := ?v16) rfl (by kernel_rfl) (by kernel_rfl) (by kernel_rfl) (fun _ _ _ h => h) (Or.inl ⟨by kernel_rfl, ?hy16⟩) ?_
    case hy16 =>
      intro w'
      go_simp
      try with_reducible rfl
    refine wpAny_take (i := 17) (v := ?v17) rfl (by kernel_rfl) (by kernel_rfl) (by kernel_rfl) (fun _ _ _ h => h) (Or.inl ⟨by kernel_rfl, ?hy17⟩) ?_
    case hy17 =>
      intro w'
      go_simp
      try with_reducible rfl
    refine wpAny_take (i := 18) (v := ?v18) rfl (by kernel_rfl) (by kernel_rfl) (by kernel_rfl) (fun _ _ _ h => h) (Or.inl ⟨by kernel_rfl, ?hy18⟩) ?_
    case hy18 =>
      intro w'
      go_simp
      try with_reducible rfl
    refine wpAny_done (by kernel_rfl) ?_ _
    go_wp2_with fail
    go_meet
    case rel => exact ⟨rfl, rfl, Lib.hid hb5⟩
  case rest =>
    obtain ⟨rfl, rfl, hbc⟩ := hcut
    have hbW := Lib.hid (b1.out.trans (hbc.out.mono b1.out.size))
    have hfit : Hid (fitP np va [] [] = if ok = false ∨ np = 0 then ([], ok) else (([] : List (List Tf)).take pl ++ (if va then [restF pl [] 0 (([] : List (List Tf)).drop pl)] else []), true)) := Lib.hid (by
      unfold fitP
      rw [show shapeL np va ([] : List (List Tf)).length (emptyB []) = (pl, ok) from hsh.out])
    cases ok with
    | false =>
      go_wp2
      go_ret2
      rw [hfit.out, if_pos (.inl trivial)]
      exact ⟨⟨_, rfl, ⟨[], Own.nil _ _ _ _, rfl, by simp⟩⟩, hbW.out⟩
    | true =>
      have h3 : np = 1 ∧ va = true ∧ pl = 0 := by
        have h := hsh.out
        unfold shapeL at h
        by_cases h0 : np = 0
        · rw [if_pos h0] at h
          simp at h
        · rw [if_neg h0] at h
          cases va with
          | true =>
            simp only [if_true, Prod.mk.injEq, decide_eq_true_eq] at h
            exact ⟨by omega, rfl, by omega⟩
          | false =>
            simp only [Bool.false_eq_true, if_false, Prod.mk.injEq, decide_eq_true_eq] at h
            exact absurd h.2.symm h0
      obtain ⟨rfl, rfl, rfl⟩ := h3
      obtain ⟨x0, x1, x2, x3, x4, x5, x6, x7⟩ := cells8 ((hbc.out.block w.heap.size (lt_of_block hbx.out)).trans hbx.out)
      have hon := Own.nil wc wc.heap.size 22 1
      have hle : w.heap.size ≤ wc.heap.size := hbW.out.size
      replace hle := Lib.hid hle
      go_wp2_with fail
      go_loopg [6, 11, 45] 0 (fun q v6 v11 v45 wx => v45 = .int .i64 0 ∧ v6 = .slice none 0 0 ∧ wx = wc)
      case atStart => exact ⟨rfl, rfl, rfl⟩
      case round =>
        obtain ⟨rfl, rfl, hw⟩ := hrel
        replace hw := hw.symm
        subst hw
        go_wp2_with fail
        all_goals
          go_loopg [8, 12, 13, 14, 59] 0 (fun q v8 v12 v13 v14 v59 wx => v59 = .int .i64 0 ∧ v8 = .slice none 0 0 ∧ wx = wc)
          case atStart => exact ⟨rfl, rfl, rfl⟩
          case round =>
            obtain ⟨rfl, rfl, hw⟩ := hrel
            replace hw := hw.symm
            subst hw
            go_wp2_with (at_builtin; go_must (refine wpList_append1 El22 rfl rfl hon rfl rfl (news := [.slice none 0 0]) (by simp) rfl (by simp [Value.oneCell']) (by simp) (by decide) (Nat.le_refl _) ?_); intro v9 w9 hown9 hg9)
            go_ret2
            have hb9 := bapp (Below.refl wc.heap.size wc) hon hg9 (Nat.le_refl _)
            rw [hfit.out, if_neg (by simp)]
            refine ⟨⟨_, rfl, ⟨[.slice none 0 0], hown9.mono hle.out, rfl, fun i u X hu hX => ?_⟩⟩, hbW.out.trans (hb9.mono hle.out)⟩
            cases i with
            | zero =>
              simp at hu hX
              subst hu hX
              exact ⟨[], Own.nil _ _ _ _, rfl, by simp⟩
            | succ i => simp at hu
end Go.Proofs.YtfaoamdlknlgpaaGreat

/- Are rows of tokens the same, and lists of them? With what their sites hold. -/
namespace Go.Proofs.YtfaoamdlknlgpaaGreat
open Go.RowKit
set_option linter.unusedVariables false

def TyX (X : List Tf) : Prop := ∀ x ∈ X, SiteTy x.2

set_option maxHeartbeats 1000000 in
set_option maxRecDepth 100000 in
theorem sameToksT_any (X : List Tf) (v1 v2 : Value) (hl : X.length ≤ 1000000) (hty : TyX X) (w : World) (h1 : ToksIn w v1 X) (h2 : ToksIn w v2 X) :
    Calls Tryz.prog 27 #[v1, v2] w fun e w' => e = .returned (.bool true) ∧ Below w.heap.size w w' := by
  obtain ⟨n, hn⟩ : ∃ n, n = X.length := ⟨_, rfl⟩
  have HN : Hid (X.length = n) := Lib.hid hn.symm
  obtain ⟨a1, c1, T1, rfl, k1, _, k3, r1, l1, s1⟩ := h1
  obtain ⟨a2, c2, T2, rfl, j1, _, j3, r2, l2, s2⟩ := h2
  rw [← hn] at hl k1 j1 l1 l2 ⊢
  have HT : Hid (∀ i, i < n → ∃ (t : Tm) (b1 o1 b2 o2 : Nat) (sa1 sa2 : Option Addr) (sn sc1 sc2 : Nat), a1 = some ⟨b1, o1, none⟩ ∧ a2 = some ⟨b2, o2, none⟩ ∧ ∀ x, Below w.heap.size w x →
      (x.cell? ⟨b1, o1 + i * 8, none⟩ = some (.int .i64 t.kind) ∧ x.cell? ⟨b1, o1 + i * 8 + 1, none⟩ = some (.string t.text) ∧ x.cell? ⟨b1, o1 + i * 8 + 2, none⟩ = some (.bool t.sp) ∧ x.cell? ⟨b1, o1 + i * 8 + 3, none⟩ = some (.string t.file) ∧ x.cell? ⟨b1, o1 + i * 8 + 4, none⟩ = some (.int .i64 t.f) ∧ x.cell? ⟨b1, o1 + i * 8 + 5, none⟩ = some (.int .i64 t.t) ∧ x.cell? ⟨b1, o1 + i * 8 + 6, none⟩ = some (.bool t.made) ∧ x.cell? ⟨b1, o1 + i * 8 + 7, none⟩ = some (.slice sa1 sn sc1)) ∧
      (x.cell? ⟨b2, o2 + i * 8, none⟩ = some (.int .i64 t.kind) ∧ x.cell? ⟨b2, o2 + i * 8 + 1, none⟩ = some (.string t.text) ∧ x.cell? ⟨b2, o2 + i * 8 + 2, none⟩ = some (.bool t.sp) ∧ x.cell? ⟨b2, o2 + i * 8 + 3, none⟩ = some (.string t.file) ∧ x.cell? ⟨b2, o2 + i * 8 + 4, none⟩ = some (.int .i64 t.f) ∧ x.cell? ⟨b2, o2 + i * 8 + 5, none⟩ = some (.int .i64 t.t) ∧ x.cell? ⟨b2, o2 + i * 8 + 6, none⟩ = some (.bool t.made) ∧ x.cell? ⟨b2, o2 + i * 8 + 7, none⟩ = some (.slice sa2 sn sc2)) ∧
      Calls Tryz.prog 31 #[.agg #[.int .i64 t.kind, .string t.text, .bool t.sp, .string t.file, .int .i64 t.f, .int .i64 t.t, .bool t.made, .slice sa1 sn sc1], .agg #[.int .i64 t.kind, .string t.text, .bool t.sp, .string t.file, .int .i64 t.f, .int .i64 t.t, .bool t.made, .slice sa2 sn sc2]] x fun e w' => e = .returned (.bool true) ∧ Below x.heap.size x w') := Lib.hid fun i hi => by
    obtain ⟨x, hx⟩ : ∃ x, X[i]? = some x := ⟨_, List.getElem?_eq_getElem (by rw [HN.out]; exact hi)⟩
    obtain ⟨p1, hp1⟩ : ∃ p, T1[i]? = some p := ⟨_, List.getElem?_eq_getElem (by rw [l1]; exact hi)⟩
    obtain ⟨p2, hp2⟩ : ∃ p, T2[i]? = some p := ⟨_, List.getElem?_eq_getElem (by rw [l2]; exact hi)⟩
    obtain ⟨e1, q1⟩ := s1 _ _ _ hp1 hx
    obtain ⟨e2, q2⟩ := s2 _ _ _ hp2 hx
    have ty := hty x (List.mem_of_getElem? hx)
    obtain ⟨b1, o1, rfl, at1⟩ := r1 (by intro e; simp at e; rw [e] at hp1; simp at hp1)
    obtain ⟨b2, o2, rfl, at2⟩ := r2 (by intro e; simp at e; rw [e] at hp2; simp at hp2)
    have c1 := tok8 (tok_at at1 hp1)
    have c2 := tok8 (tok_at at2 hp2)
    obtain ⟨t1, u1⟩ := p1
    obtain ⟨t2, u2⟩ := p2
    obtain ⟨tx, css⟩ := x
    simp only at e1 e2 q1 q2 c1 c2 ty
    subst e1 e2
    have HS := fun y (hy : Below w.heap.size w y) => sameTok_any t2 u1 u2 css y (q1.below hy) (q2.below hy) ty
    obtain ⟨sa1, sc1, rfl, _⟩ := q1
    obtain ⟨sa2, sc2, rfl, _⟩ := q2
    obtain ⟨g0, g1, g2, g3, g4, g5, g6, g7⟩ := c1
    obtain ⟨h0, h1, h2, h3, h4, h5, h6, h7⟩ := c2
    exact ⟨t2, b1, o1, b2, o2, sa1, sa2, css.length, sc1, sc2, rfl, rfl, fun y hy => ⟨⟨kept_cell hy g0, kept_cell hy g1, kept_cell hy g2, kept_cell hy g3, kept_cell hy g4, kept_cell hy g5, kept_cell hy g6, kept_cell hy g7⟩, ⟨kept_cell hy h0, kept_cell hy h1, kept_cell hy h2, kept_cell hy h3, kept_cell hy h4, kept_cell hy h5, kept_cell hy h6, kept_cell hy h7⟩, HS y hy⟩⟩
  clear hn s1 s2 r1 r2 l1 l2 hty k3 j3
  go_enter Tryz.func27, Tryz.ntmps27
  go_wp2_with fail
  go_loopg [5] n (fun u i wr => ∃ k : Nat, u = n - k ∧ k ≤ n ∧ i = .int .i64 k ∧ Below w.heap.size w wr)
  case atStart => exact ⟨0, rfl, Nat.zero_le _, rfl, Below.refl _ _⟩
  case round =>
    obtain ⟨k, rfl, hk, rfl, hb⟩ := hrel
    by_cases hlt : k < n
    · obtain ⟨t, b1, o1, b2, o2, sa1, sa2, sn, sc1, sc2, rfl, rfl, hall⟩ := HT.out k hlt
      obtain ⟨⟨t0, t1, t2, t3, t4, t5, t6, t7⟩, ⟨s0, s1, s2, s3, s4, s5, s6, s7⟩, _⟩ := hall wr hb
      have HS : Hid (∀ x, Below w.heap.size w x → Calls Tryz.prog 31 #[.agg #[.int .i64 t.kind, .string t.text, .bool t.sp, .string t.file, .int .i64 t.f, .int .i64 t.t, .bool t.made, .slice sa1 sn sc1], .agg #[.int .i64 t.kind, .string t.text, .bool t.sp, .string t.file, .int .i64 t.f, .int .i64 t.t, .bool t.made, .slice sa2 sn sc2]] x fun e w' => e = .returned (.bool true) ∧ Below x.heap.size x w') := Lib.hid fun x hx => (hall x hx).2.2
      have e1 : (k : Int) < n := by omega
      have hbd := Lib.hid hb.drew
      clear hall
      go_upto_region 17 with fail
      go_region_law (first
        | (go_simp; go_at_call 31; refine (HS.out _ hbd.out).mono ?_; rintro e wt ⟨rfl, hbt0⟩))
      all_goals
        have hb2 := hb.trans (((Below.refl _ wr).drew.trans hbt0).mono hb.size)
        go_wp2_with fail
        go_roundg (n - (k + 1))
        case measure => omega
        case rel => exact ⟨k + 1, rfl, by omega, by go_num, hb2⟩
    · have e1 : ¬ (k : Int) < n := by omega
      go_wp2
      go_ret
      exact ⟨rfl, hb⟩

set_option maxHeartbeats 1000000 in
set_option maxRecDepth 100000 in
theorem listsT_any (XX : List (List Tf)) (v1 v2 : Value) (hl : XX.length ≤ 1000000) (hX : ∀ X ∈ XX, X.length ≤ 1000000 ∧ TyX X) (w : World) (h1 : LsIn w v1 XX) (h2 : LsIn w v2 XX) :
    Calls Tryz.prog 26 #[v1, v2] w fun e w' => e = .returned (.bool true) ∧ Below w.heap.size w w' := by
  obtain ⟨n, hn⟩ : ∃ n, n = XX.length := ⟨_, rfl⟩
  have HN : Hid (XX.length = n) := Lib.hid hn.symm
  obtain ⟨a1, c1, vs1, rfl, k1, _, r1, l1, s1, _⟩ := h1
  obtain ⟨a2, c2, vs2, rfl, j1, _, r2, l2, s2, _⟩ := h2
  rw [← hn] at hl k1 j1 l1 l2 ⊢
  have HT : Hid (∀ i, i < n → ∃ (u1 u2 : Value) (b1 o1 b2 o2 : Nat), a1 = some ⟨b1, o1, none⟩ ∧ a2 = some ⟨b2, o2, none⟩ ∧ ∀ x, Below w.heap.size w x →
      x.cell? ⟨b1, o1 + i, none⟩ = some u1 ∧ x.cell? ⟨b2, o2 + i, none⟩ = some u2 ∧
      Calls Tryz.prog 27 #[u1, u2] x fun e w' => e = .returned (.bool true) ∧ Below x.heap.size x w') := Lib.hid fun i hi => by
    obtain ⟨X, hXi⟩ : ∃ x, XX[i]? = some x := ⟨_, List.getElem?_eq_getElem (by rw [HN.out]; exact hi)⟩
    obtain ⟨u1, hu1⟩ : ∃ p, vs1[i]? = some p := ⟨_, List.getElem?_eq_getElem (by rw [l1]; exact hi)⟩
    obtain ⟨u2, hu2⟩ : ∃ p, vs2[i]? = some p := ⟨_, List.getElem?_eq_getElem (by rw [l2]; exact hi)⟩
    have q1 := s1 _ _ _ hu1 hXi
    have q2 := s2 _ _ _ hu2 hXi
    obtain ⟨hl', ty⟩ := hX X (List.mem_of_getElem? hXi)
    obtain ⟨b1, o1, rfl, at1⟩ := r1 (by intro e; simp at e; rw [e] at hu1; simp at hu1)
    obtain ⟨b2, o2, rfl, at2⟩ := r2 (by intro e; simp at e; rw [e] at hu2; simp at hu2)
    have g1 := at1.cell (i := i) (cs := [u1]) (by rw [List.getElem?_map, hu1]; rfl) (j := 0) rfl
    have g2 := at2.cell (i := i) (cs := [u2]) (by rw [List.getElem?_map, hu2]; rfl) (j := 0) rfl
    simp only [Nat.mul_one, Nat.add_zero] at g1 g2
    exact ⟨u1, u2, b1, o1, b2, o2, rfl, rfl, fun y hy => ⟨kept_cell hy g1, kept_cell hy g2, sameToksT_any X u1 u2 hl' ty y (q1.below hy) (q2.below hy)⟩⟩
  clear hn s1 s2 r1 r2 l1 l2 hX
  go_enter Tryz.func26, Tryz.ntmps26
  go_wp2_with fail
  go_loopg [5] n (fun u i wr => ∃ k : Nat, u = n - k ∧ k ≤ n ∧ i = .int .i64 k ∧ Below w.heap.size w wr)
  case atStart => exact ⟨0, rfl, Nat.zero_le _, rfl, Below.refl _ _⟩
  case round =>
    obtain ⟨k, rfl, hk, rfl, hb⟩ := hrel
    by_cases hlt : k < n
    · obtain ⟨u1, u2, b1, o1, b2, o2, rfl, rfl, hall⟩ := HT.out k hlt
      obtain ⟨t0, s0, _⟩ := hall wr hb
      have HS : Hid (∀ x, Below w.heap.size w x → Calls Tryz.prog 27 #[u1, u2] x fun e w' => e = .returned (.bool true) ∧ Below x.heap.size x w') := Lib.hid fun x hx => (hall x hx).2.2
      have e1 : (k : Int) < n := by omega
      have hbd := Lib.hid hb.drew
      clear hall
      go_upto_region 6 with fail
      go_region_law (first
        | (go_simp; go_at_call 27; refine (HS.out _ hbd.out).mono ?_; rintro e wt ⟨rfl, hbt0⟩))
      all_goals
        have hb2 := hb.trans (((Below.refl _ wr).drew.trans hbt0).mono hb.size)
        go_wp2_with fail
        go_roundg (n - (k + 1))
        case measure => omega
        case rel => exact ⟨k + 1, rfl, by omega, by go_num, hb2⟩
    · have e1 : ¬ (k : Int) < n := by omega
      go_wp2
      go_ret
      exact ⟨rfl, hb⟩
end Go.Proofs.YtfaoamdlknlgpaaGreat

/- oxbowlaw10's made: the document's macro as the program's. -/
namespace Go.Proofs.YtfaoamdlknlgpaaGreat
open Go.RowKit
set_option linter.unusedVariables false

set_option maxRecDepth 100000 in
theorem made10_any (name : ByteArray) (fn va : Bool) (pv bv : Value) (file : ByteArray) (f t : Int) (hpv : ∃ a n c, pv = .slice a n c) (hbv : ∃ a n c, bv = .slice a n c) (w : World) :
    Calls Tryz.prog 29 #[.agg #[.string name, .bool fn, .bool va, pv, bv, .string file, .int .i64 f, .int .i64 t]] w fun e w' => e = .returned (.agg #[.string name, .bool fn, .bool va, pv, bv, .string file, .int .i64 f, .int .i64 t]) ∧ Below w.heap.size w w' := by
  obtain ⟨pa, pn, pc, rfl⟩ := hpv
  obtain ⟨ba, bn, bc, rfl⟩ := hbv
  go_enter Tryz.func29, Tryz.ntmps29
  go_wp2
  refine bodyPost_ret (results_cell_row rfl _ _ (w.heap.size + 1) 53 _ (0, 0) _ rfl (two_new w _ _ _ _).2 Tryz.underlying53 rfl (by kernel_rfl)) rfl ?_
  exact ⟨rfl, ((Below.refl _ w).alloc (Nat.le_refl _) _).alloc (by simp) _⟩
end Go.Proofs.YtfaoamdlknlgpaaGreat
