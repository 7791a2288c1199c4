/- Texts of this seat's proofs, laid into one file. -/
import Derived.Test.YtfaoamdlknlgpaaGreatArgsCollectDoneG26
import Derived.Test.YtfaoamdlknlgpaaGreatArgsCollectDoneG22
import Derived.Test.YtfaoamdlknlgpaaGreatArgsCollectDoneG21
/- args: Fit: arguments by parameters: plain, how lists are read, and an append of owned tokens. -/
namespace Go.Proofs.YtfaoamdlknlgpaaGreat
open Go.RowKit
set_option linter.unusedVariables false

def emptyB (XX : List (List Tf)) : Bool := match XX with | X :: _ => X.isEmpty | [] => false

/-- what more there is, with the commas between -/
def restF (plain : Nat) (CC : List Tf) : Nat → List (List Tf) → List Tf
  | _, [] => []
  | i, X :: r => (if 0 < i then (CC[plain + i - 1]?).toList else []) ++ X ++ restF plain CC (i + 1) r

def fitP (np : Nat) (va : Bool) (XX : List (List Tf)) (CC : List Tf) : List (List Tf) × Bool :=
  if (shapeL np va XX.length (emptyB XX)).2 = false ∨ np = 0 then ([], (shapeL np va XX.length (emptyB XX)).2)
  else (XX.take (shapeL np va XX.length (emptyB XX)).1 ++ (if va then [restF (shapeL np va XX.length (emptyB XX)).1 CC 0 (XX.drop (shapeL np va XX.length (emptyB XX)).1)] else []), true)

theorem restF_snoc (plain : Nat) (CC : List Tf) : ∀ (XX : List (List Tf)) (i : Nat) (X : List Tf), restF plain CC i (XX ++ [X]) = restF plain CC i XX ++ (if 0 < i + XX.length then (CC[plain + (i + XX.length) - 1]?).toList else []) ++ X
  | [], i, X => by simp [restF]
  | Y :: XX, i, X => by
    rw [List.cons_append, restF, restF_snoc plain CC XX (i + 1) X, restF, List.length_cons, show i + 1 + XX.length = i + (XX.length + 1) by omega]
    simp

theorem restF_len (plain : Nat) (CC : List Tf) {m : Nat} : ∀ (XX : List (List Tf)) (i : Nat), (∀ X ∈ XX, X.length ≤ m) → (restF plain CC i XX).length ≤ XX.length * (m + 1)
  | [], i, _ => by simp [restF]
  | X :: r, i, h => by
    rw [restF, List.length_append, List.length_append]
    have h1 := restF_len plain CC r (i + 1) (fun Y hY => h Y (by simp [hY]))
    have h2 := h X (by simp)
    have h3 : (if 0 < i then (CC[plain + i - 1]?).toList else []).length ≤ 1 := by
      split
      · cases CC[plain + i - 1]? <;> simp
      · simp
    rw [List.length_cons, Nat.add_mul]
    omega

/-- lists of tokens that can be read -/
def LsIn (w : World) (v : Value) (XX : List (List Tf)) : Prop :=
  ∃ (ao : Option Addr) (cap : Nat) (vs : List Value), v = .slice ao XX.length cap ∧ XX.length ≤ cap ∧ cap ≤ maxLen ∧ Row w 1 ao (vs.map fun u => [u]) ∧ vs.length = XX.length ∧ (∀ (i : Nat) u X, vs[i]? = some u → XX[i]? = some X → ToksIn w u X) ∧ (ao = none → cap = 0)

theorem LsIn.below {w w' : World} {v : Value} {XX : List (List Tf)} (h : LsIn w v XX) (hb : Below w.heap.size w w') : LsIn w' v XX := by
  obtain ⟨ao, cap, vs, h1, h2, h3, h4, h5, h6, h7⟩ := h
  exact ⟨ao, cap, vs, h1, h2, h3, h4.below hb, h5, fun i u X hu hX => (h6 i u X hu hX).below hb, h7⟩

theorem OwnLs.inn {w : World} {B : Nat} {v : Value} {XX : List (List Tf)} (h : OwnLs XX B v w) (hk : ∀ X ∈ XX, ∀ x ∈ X, SitesOk x.2) : LsIn w v XX := by
  obtain ⟨vs, h1, h2, h3⟩ := h
  obtain ⟨ao, cap, rfl, a1, a2, a3, a4⟩ := h1.rown (n := XX.length) (by rw [List.length_map, h2])
  exact ⟨ao, cap, vs, rfl, a1, a2, a3, h2, fun i u X hu hX => (h3 i u X hu hX).toks (hk X (List.mem_of_getElem? hX)), fun e => (a4 e).2⟩

theorem ownIn_any {X : List Tf} {v : Value} {w : World} (h : ToksIn w v X) (hn : X.length ≤ 1000000) :
    Calls Tryz.prog 52 #[v] w fun e w' => ∃ v, e = .returned v ∧ OwnT X w.heap.size v w' ∧ Below w.heap.size w w' := by
  obtain ⟨ao, cap, T, rfl, h2, h3, h4, h5, h6, h7⟩ := h
  have := mOwnF_any X T ao cap (by omega) (by omega) w h5 h6 h7
  rwa [h6] at this

/-- one of them, by itself -/
theorem ToksIn.one {X : List Tf} {w : World} {ao : Option Addr} {n cap k : Nat} {x : Tf} (h : ToksIn w (.slice ao n cap) X) (hk : X[k]? = some x) : n = X.length ∧ ∃ b o, ao = some ⟨b, o, none⟩ ∧ ToksIn w (.slice (some ⟨b, o + k * 8, none⟩) 1 (cap - k)) [x] := by
  obtain ⟨ao', cap', T, hv, h2, h3, h4, h5, h6, h7⟩ := h
  simp only [Value.slice.injEq] at hv
  obtain ⟨rfl, rfl, rfl⟩ := hv
  have hkl := (List.getElem?_eq_some_iff.1 hk).1
  obtain ⟨p, hp⟩ : ∃ p, T[k]? = some p := ⟨_, List.getElem?_eq_getElem (by omega)⟩
  obtain ⟨b, o, rfl, hat⟩ := h5 (by intro e; simp at e; rw [e] at h6; simp at h6; omega)
  refine ⟨rfl, b, o, rfl, some ⟨b, o + k * 8, none⟩, cap - k, [p], rfl, by simp; omega, by omega, by simp, fun _ => ⟨b, _, rfl, ?_⟩, rfl, ?_⟩
  · have h1 := hat.drop k
    rw [← List.map_drop, List.drop_eq_getElem_cons (by omega : k < T.length), (List.getElem?_eq_some_iff.1 hp).2] at h1
    intro i cs hi j u hj
    cases i with
    | zero => exact h1 0 cs (by simpa using hi) j u hj
    | succ i => simp at hi
  · intro i q y hq hy
    cases i with
    | zero =>
      simp only [List.getElem?_cons_zero, Option.some.injEq] at hq hy
      subst hq hy
      exact h7 k _ _ hp hk
    | succ i => simp at hq

/-- an append of tokens that the call owns -/
theorem wpList_appendT {w : World} {ops : Array Oper} {rest : List Oper} {o : Oper} {a : Act} {Q : Exit → Act → World → Prop}
    (hgd : o.guard = none) {s x : Operand} (ho : o.op = .call { callee := .builtin .append, args := #[s, x], argTypes := #[22, 22] })
    {R X : List Tf} {B S : Nat} {v u : Value} (hR : OwnT R B v w) (hs : a.eval s = v) (hX : OwnT X S u w) (hx : a.eval x = u) (hBS : B ≤ S)
    (hn : R.length + X.length ≤ 1000000000) (hbase : B ≤ w.heap.size)
    (h : ∀ v' w', OwnT (R ++ X) B v' w' → w.grownBy w' v.ownBlock → wpList Tryz.prog ops Q rest (a.put o.dst v') w') : wpList Tryz.prog ops Q (o :: rest) a w := by
  obtain ⟨T, o1, l1, r1⟩ := hR
  obtain ⟨T2, o2, l2, r2⟩ := hX
  obtain ⟨ao, c, rfl, _, _, hrow, hnil⟩ := o2.rown (n := T2.length) (by simp)
  have hsl : ∀ p ∈ T2, ∃ sa sn sc, p.2 = .slice sa sn sc := by
    intro p hp
    obtain ⟨i, hi⟩ := List.getElem?_of_mem hp
    obtain ⟨y, hy⟩ : ∃ y, X[i]? = some y := ⟨_, List.getElem?_eq_getElem (by rw [← l2]; exact (List.getElem?_eq_some_iff.1 hi).1)⟩
    obtain ⟨sa, sc, hv, _⟩ := (r2 i p y hi hy).2.row
    exact ⟨sa, _, sc, hv⟩
  refine wpList_appendN E34 hgd ho o1 hs hx (by simp) (fun e => (hnil e).2) hrow o2.2 ?_ (by rw [List.length_map]; omega) (by decide) hbase ?_
  · intro cs hcs y hy
    obtain ⟨p, hp, rfl⟩ := List.mem_map.1 hcs
    obtain ⟨sa, sn, sc, hv⟩ := hsl p hp
    simp only [tvC, tmC, hv, List.mem_cons, List.not_mem_nil, or_false] at hy
    rcases hy with rfl | rfl | rfl | rfl | rfl | rfl | rfl | rfl <;> rfl
  · intro v' w' hown hg
    refine h v' w' ⟨T ++ T2, by rw [List.map_append]; exact hown, by simp [l1, l2], ?_⟩ hg
    intro i p y hp hy
    by_cases hi : i < T.length
    · rw [List.getElem?_append_left hi] at hp
      rw [List.getElem?_append_left (by omega)] at hy
      exact ⟨(r1 i p y hp hy).1, (r1 i p y hp hy).2.kept hg (own_apart (r1 i p y hp hy).2 o1 (by decide))⟩
    · rw [List.getElem?_append_right (by omega)] at hp
      rw [List.getElem?_append_right (by omega)] at hy
      rw [← l1] at hy
      obtain ⟨z1, z2⟩ := r2 _ p y hp hy
      exact ⟨z1, (z2.kept hg (own_apart z2 o1 (by decide))).mono hBS⟩
end Go.Proofs.YtfaoamdlknlgpaaGreat

/- oxbowalike's Few; a token's sites as an argument has them. -/
namespace Go.Proofs.YtfaoamdlknlgpaaGreat
open Go.RowKit
set_option linter.unusedVariables false

/-- a site's cells -/
def siC (m file : ByteArray) (f t : Int) (made : Bool) : List Value := [.string m, .string file, .int .i64 f, .int .i64 t, .bool made]

/-- a token's sites as an argument has them -/
def SiteRd (w : World) (v : Value) : Prop :=
  ∃ ao cap css, v = .slice ao css.length cap ∧ (ao = none → css = [] ∧ cap = 0) ∧ Row w 5 ao css ∧ (∀ c ∈ css, c.length = 5) ∧ (∀ u ∈ css.flatten, u.oneCell' = true) ∧ ∀ c ∈ css, ∃ m file f t made, c = siC m file f t made

def siteLen : Value → Nat
  | .slice _ n _ => n
  | _ => 0

def FewPost (T : List (Tm × Value)) (most : Nat) (w : World) (e : Ending) (w' : World) : Prop := ∃ b, e = .returned (.bool b) ∧ w' = w ∧ (b = true → T.length ≤ most ∧ ∀ p ∈ T, siteLen p.2 ≤ 20 ∧ p.1.text.size ≤ 300)

set_option maxRecDepth 100000 in
theorem mFew_any (T : List (Tm × Value)) (ao : Option Addr) (cap most : Nat) (hm : most ≤ 1000) (hcap : T.length ≤ cap) (w : World) (hrow : Row w 8 ao (T.map tvC)) (hs : ∀ p ∈ T, SiteRd w p.2) :
    Calls Tryz.prog 12 #[.slice ao T.length cap, .int .i64 most] w fun e w' => FewPost T most w e w' := by
  obtain ⟨n, hn⟩ : ∃ n, n = T.length := ⟨_, rfl⟩
  have HN : Hid (T.length = n) := Lib.hid hn.symm
  rw [← hn] at hcap ⊢
  clear hn
  have HS := Lib.hid hs
  clear hs
  go_enter Tryz.func12, Tryz.ntmps12
  by_cases hnm : most < n
  · have h1 : (most : Int) < n := by omega
    go_wp2
    go_ret
    exact ⟨false, rfl, rfl, by simp⟩
  · have h1 : ¬ (most : Int) < n := by omega
    go_wp2
    go_loopg [5] n (fun u i wr => ∃ k : Nat, u = n - k ∧ k ≤ n ∧ i = .int .i64 k ∧ wr = w ∧ Hid (∀ j, j < k → ∀ p, T[j]? = some p → siteLen p.2 ≤ 20 ∧ p.1.text.size ≤ 300))
    case atStart => exact ⟨0, rfl, Nat.zero_le _, rfl, rfl, Lib.hid (fun j hj => absurd hj (Nat.not_lt_zero _))⟩
    case round =>
      obtain ⟨k, rfl, hk, rfl, hw, HJ⟩ := hrel
      replace hw := hw.symm
      subst hw
      by_cases hlt : k < n
      · obtain ⟨⟨t, v⟩, hp⟩ : ∃ p, T[k]? = some p := ⟨T[k]'(by rw [HN.out]; exact hlt), by simp⟩
        obtain ⟨sa, sc, css, hv, _⟩ := HS.out _ (List.mem_of_getElem? hp)
        simp only at hv
        subst hv
        obtain ⟨rb, o, rfl, hat⟩ := hrow (by intro h; simp at h; subst h; simp at hp)
        obtain ⟨t0, t1, t2, t3, t4, t5, t6, t7⟩ := tok8 (tok_at hat hp)
        obtain ⟨sn, hsn⟩ : ∃ sn, sn = css.length := ⟨_, rfl⟩
        rw [← hsn] at t7 hp
        clear hat hsn
        replace hp := Lib.hid hp
        by_cases h3 : 300 < t.text.size
        · have e3 : (300 : Int) < t.text.size := by omega
          go_wp2
          go_ret
          exact ⟨false, rfl, rfl, by simp⟩
        · have e3 : ¬ (300 : Int) < t.text.size := by omega
          by_cases h20 : 20 < sn
          · have e4 : (20 : Int) < sn := by omega
            go_wp2
            go_ret
            exact ⟨false, rfl, rfl, by simp⟩
          · have e4 : ¬ (20 : Int) < sn := by omega
            have HJ2 : Hid (∀ j, j < k + 1 → ∀ p, T[j]? = some p → siteLen p.2 ≤ 20 ∧ p.1.text.size ≤ 300) := Lib.hid (by
              intro j hj p hjp
              by_cases hjk : j = k
              · subst hjk
                rw [hp.out] at hjp
                injection hjp with hjp
                subst hjp
                exact ⟨by show sn ≤ 20; omega, by show t.text.size ≤ 300; omega⟩
              · exact HJ.out j (by omega) p hjp)
            go_wp2_with fail
            go_roundg (n - (k + 1))
            case measure => omega
            case rel => exact ⟨k + 1, rfl, by omega, by go_num, rfl, HJ2⟩
      · have hkn : k = n := by omega
        go_wp2
        go_ret
        refine ⟨true, rfl, rfl, fun _ => ⟨by have := HN.out; omega, fun p hp => ?_⟩⟩
        obtain ⟨j, hj, e⟩ := List.mem_iff_getElem.1 hp
        exact HJ.out j (by rw [HN.out] at hj; omega) p (by rw [List.getElem?_eq_getElem hj, e])

theorem SiteRd.inn {w : World} {v : Value} (h : SiteRd w v) (hl : siteLen v ≤ 20) : ∃ css, SiteIn w v css := by
  obtain ⟨ao, cap, css, rfl, h1, h2, h3, h4, _⟩ := h
  exact ⟨css, ao, cap, rfl, by simp only [siteLen] at hl; omega, h1, h2, h3, h4⟩

theorem two_new (w : World) (x y : Array Value) (e f : TypeId) : ((w.alloc (.cells x e)).alloc (.cells y f)).heap[w.heap.size]? = some (.cells x e (0, 0)) ∧ ((w.alloc (.cells x e)).alloc (.cells y f)).heap[w.heap.size + 1]? = some (.cells y f (0, 0)) :=
  ⟨(Lib.alloc_old _ _ _ (by simp)).trans (heap_alloc_new w _), by have := heap_alloc_new (w.alloc (.cells x e)) (.cells y f); simpa using this⟩
end Go.Proofs.YtfaoamdlknlgpaaGreat
