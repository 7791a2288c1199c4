/- Trees: each, whatever is done with a node. -/
import Derived.Test.YtcafiaoinonpgaaTree3
import Derived.Deep.LoopGhost
namespace Go.Proofs.Ytcafiaoinonpgaa
open Go.RowKit
set_option linter.unusedVariables false

/-- what a walk through a tree leaves: all below B, and all that is neither block c, nor a row of ints, nor one of pointers to nodes -/
structure Ke (B c : Nat) (w w' : World) : Prop where
  below : Below B w w'
  others : ∀ k o, w.heap[k]? = some o → k ≠ c → (∀ x fz, o ≠ .cells x 3 fz) → (∀ x fz, o ≠ .cells x 64 fz) → w'.heap[k]? = some o

theorem Ke.refl (B c : Nat) (w : World) : Ke B c w w := ⟨Below.refl _ _, fun _ _ h _ _ _ => h⟩
theorem Ke.trans {B c : Nat} {w w1 w2 : World} (h : Ke B c w w1) (k : Ke B c w1 w2) : Ke B c w w2 := ⟨h.below.trans k.below, fun i o hi h1 h2 h3 => k.others i o (h.others i o hi h1 h2 h3) h1 h2 h3⟩
theorem Ke.of_kt {B c : Nat} {w w' : World} (h : Below B w w') (k : Lib.OthersKept 3 (some c) w w') : Ke B c w w' := ⟨h, fun i o hi h1 h2 _ => k i o hi (fun e => h1 (Option.some.inj e)) h2⟩
theorem Ke.of_ptr {B c : Nat} {w w' : World} (h : Below B w w') (k : Lib.OthersKept 64 none w w') : Ke B c w w' := ⟨h, fun i o hi _ _ h3 => k i o hi (fun e => by cases e) h3⟩

/-- a pointer to a tree's cells, good as long as a walk through the tree goes on -/
def Good (W : World) (B c : Nat) (p : Nat × Nat) (t : T) : Prop :=
  ∃ cs, Rep W (· < B) t cs ∧ ∀ w', Ke B c W w' → ∀ (j : Nat) (u : Value), cs[j]? = some u → w'.cell? ⟨p.1, p.2 + j, none⟩ = some u

/-- the kids' pointers, from the i-th on -/
def kps (kb ko : Nat) : Nat → List T → List ((Nat × Nat) × T)
  | _, [] => []
  | i, x :: xs => ((kb, ko + i * 5), x) :: kps kb ko (i + 1) xs

theorem kps_drop (kb ko : Nat) {ks : List T} {m : Nat} {x : T} (h : ks[m]? = some x) : kps kb ko m (ks.drop m) = ((kb, ko + m * 5), x) :: kps kb ko (m + 1) (ks.drop (m + 1)) := by
  obtain ⟨hlt, rfl⟩ := List.getElem?_eq_some_iff.1 h
  rw [List.drop_eq_getElem_cons hlt]
  rfl

def todoPre (st : List ((Nat × Nat) × T)) : List T := st.flatMap fun x => T.pre x.2

theorem kps_pre (kb ko : Nat) : ∀ (ks : List T) (i : Nat), todoPre (kps kb ko i ks) = T.pres ks := by
  intro ks
  induction ks with
  | nil => intro i; rfl
  | cons x ks ih => intro i; have := ih (i + 1); simp [kps, todoPre, T.pres] at this ⊢; rw [this]

theorem todo_len (st : List ((Nat × Nat) × T)) : st.length ≤ (todoPre st).length := by
  induction st with
  | nil => simp
  | cons x st ih => have := T.pre_pos x.2; simp [todoPre] at ih ⊢; omega

def ptrs (st : List ((Nat × Nat) × T)) : List (List Value) := st.reverse.map fun x => [.pointer (some ⟨x.1.1, x.1.2, none⟩)]

theorem ptrs_cons (x : (Nat × Nat) × T) (st : List ((Nat × Nat) × T)) : ptrs (x :: st) = ptrs st ++ [[.pointer (some ⟨x.1.1, x.1.2, none⟩)]] := by simp [ptrs]
theorem ptrs_len (st : List ((Nat × Nat) × T)) : (ptrs st).length = st.length := by simp [ptrs]

theorem Own.pop {w : World} {B e sz n cap : Nat} {ao : Option Addr} {css : List (List Value)} {c : List Value} (h : Own w B e sz (.slice ao (n + 1) cap) (css ++ [c])) : Own w B e sz (.slice ao n cap) css := by
  have hl : css.length = n := by
    obtain ⟨_, _, e1, _⟩ := h.row
    simp at e1; omega
  refine ⟨⟨?_, ?_⟩, fun c hc => h.2 c (by simp [hc])⟩
  · exact flatten_len fun c hc => h.2 c (by simp [hc])
  · rcases h.1.2 with ⟨hv, _⟩ | ⟨g, cap', cur, hv, hb, hg, hn, hm, hs, ht⟩
    · simp at hv
    · simp only [Value.slice.injEq] at hv
      obtain ⟨rfl, hn1, rfl⟩ := hv
      refine .inr ⟨g, cap, cur, by rw [hl], hb, hg, by omega, hm, hs, ?_⟩
      have hfl := flatten_len (css := css) (sz := sz) fun c hc => h.2 c (by simp [hc])
      have ht2 : (cur.toList.take ((css ++ [c]).length * sz)).take (css.length * sz) = css.flatten := by
        rw [ht, List.flatten_append, List.take_append_of_le_length (by omega), ← hfl, List.take_length]
      rw [List.take_take] at ht2
      rw [← ht2]
      congr 1
      simp

theorem Own.size_lt {w : World} {B e sz : Nat} {v : Value} {css : List (List Value)} (h : Own w B e sz v css) : ∀ k, v.ownBlock = some k → ∃ c fz, w.heap[k]? = some (.cells c e fz) := by
  intro k hk
  rcases h.1.2 with ⟨rfl, _⟩ | ⟨g, cap, cur, rfl, _, hg, _⟩
  · simp [Value.ownBlock] at hk
  · simp only [Value.ownBlock, Option.some.injEq] at hk; subst hk; exact ⟨_, _, hg⟩

/-- an owned row of another type stays owned where a block c and rows of e' alone are written -/
theorem own_kt {w w' : World} {B e e' sz c : Nat} {v : Value} {css : List (List Value)} (h : Own w B e sz v css) (he : e ≠ e') (hc : ∀ x fz, w.heap[c]? ≠ some (.cells x e fz)) (hk : Lib.OthersKept e' (some c) w w') : Own w' B e sz v css := by
  refine ⟨⟨h.1.1, ?_⟩, h.2⟩
  rcases h.1.2 with h0 | ⟨g, cap, cur, hv, hg1, hg, r⟩
  · exact .inl h0
  · refine .inr ⟨g, cap, cur, hv, hg1, hk g _ hg ?_ ?_, r⟩
    · intro e1
      obtain rfl := Option.some.inj e1
      exact hc _ _ hg
    · intro c fz e1
      injection e1 with _ e2 _
      exact he e2

theorem E64 : EI Try.prog 74 64 (.pointer none) 1 8 := ⟨Try.underlying74, by kernel_rfl, rfl, by decide⟩

/-- what is done with a node: k, a closure over block c -/
structure Does (W : World) (B c k : Nat) (I : List T → World → Prop) : Prop where
  cell : ∀ done w, I done w → ∀ x fz, w.heap[c]? ≠ some (.cells x 64 fz)
  keeps : ∀ done w w', I done w → w.heap.size ≤ w'.heap.size → Lib.OthersKept 64 none w w' → I done w'
  call : ∀ (done : List T) (x : T) (cx : List Value) (pb po : Nat) (w : World), done.length ≤ 1000000 → I done w → Ke B c W w → Rep W (· < B) x cx → (∀ (j : Nat) (u : Value), cx[j]? = some u → w.cell? ⟨pb, po + j, none⟩ = some u) →
    Calls Try.prog k #[.pointer (some ⟨pb, po, none⟩), .pointer (some ⟨c, 0, none⟩)] w fun e w' => e = .returned (.tuple #[]) ∧ I (done ++ [x]) w' ∧ Below B w w' ∧ Lib.OthersKept 3 (some c) w w'

theorem Good.of_kid {W : World} {B c kb ko : Nat} {ks : List T} {css : List (List Value)} (hks : Reps W (· < B) ks css) (hkB : kb < B) (hat : RowAt W 5 kb ko css) {i : Nat} {x : T} (hx : ks[i]? = some x) : Good W B c (kb, ko + i * 5) x := by
  obtain ⟨xc, hxc, hxr⟩ := hks.at hx
  refine ⟨xc, hxr, fun w' hk j u hu => ?_⟩
  exact (hk.below.cell (p := ⟨kb, ko + i * 5 + j, none⟩) hkB).trans (hat.cell hxc hu)

theorem ptrs_last (x : (Nat × Nat) × T) (st : List ((Nat × Nat) × T)) : (ptrs (x :: st))[st.length]? = some [.pointer (some ⟨x.1.1, x.1.2, none⟩)] := by
  rw [ptrs_cons, List.getElem?_append_right (by rw [ptrs_len]; omega), ptrs_len]; simp

theorem todo_cons (x : (Nat × Nat) × T) (st : List ((Nat × Nat) × T)) : todoPre (x :: st) = T.pre x.2 ++ todoPre st := by simp [todoPre]
theorem todo_app (a b : List ((Nat × Nat) × T)) : todoPre (a ++ b) = todoPre a ++ todoPre b := by simp [todoPre]

theorem kps_len (kb ko : Nat) : ∀ (ks : List T) (i : Nat), (kps kb ko i ks).length = ks.length := by
  intro ks
  induction ks with
  | nil => intro i; rfl
  | cons x ks ih => intro i; simp [kps, ih]

theorem kps_mem {kb ko : Nat} {y : (Nat × Nat) × T} : ∀ {ks : List T} {i : Nat}, y ∈ kps kb ko i ks → ∃ j z, ks[j]? = some z ∧ y = ((kb, ko + (i + j) * 5), z) := by
  intro ks
  induction ks with
  | nil => intro i h; simp [kps] at h
  | cons x ks ih =>
    intro i h
    rcases List.mem_cons.1 h with rfl | h
    · exact ⟨0, x, rfl, rfl⟩
    · obtain ⟨j, z, h1, h2⟩ := ih h
      exact ⟨j + 1, z, by simpa using h1, by rw [h2, Nat.add_right_comm, Nat.add_assoc]⟩

theorem others_app {w w' : World} {B e sz : Nat} {v : Value} {css : List (List Value)} (h : Own w B e sz v css) (hg : w.grownBy w' v.ownBlock) : Lib.OthersKept e none w w' :=
  (Lib.OthersKept.refl e none w).grown hg h.size_lt

set_option maxHeartbeats 2000000 in
set_option maxRecDepth 100000 in
theorem each_Size (W : World) (B c : Nat) (I : List T → World → Prop) (D : Does W B c 34 I) (hB : B ≤ W.heap.size) (t : T) (pb po : Nat) (hg : Good W B c (pb, po) t) (h0 : I [] W) (hs : (T.pre t).length ≤ 1000000) :
    Calls Try.prog 33 #[.pointer (some ⟨pb, po, none⟩), .func (.func 34) #[] #[.pointer (some ⟨c, 0, none⟩)]] W fun e w' => e = .returned (.tuple #[]) ∧ I (T.pre t) w' ∧ Below B W w' := by
  have HI0 : ∀ o, I [] (W.alloc (.cells #[.pointer (some ⟨pb, po, none⟩)] o)) := fun o => D.keeps [] W _ h0 (by simp) ((Lib.OthersKept.refl _ _ _).alloc _)
  have HK0 : Ke B c W (W.alloc (.cells #[.pointer (some ⟨pb, po, none⟩)] 64)) := Ke.of_ptr ((Below.refl _ _).alloc hB _) ((Lib.OthersKept.refl _ _ _).alloc _)
  have HO0 : Own (W.alloc (.cells #[.pointer (some ⟨pb, po, none⟩)] 64)) B 64 1 (.slice (some ⟨W.heap.size, 0, none⟩) 1 1) (ptrs [((pb, po), t)]) := by
    refine ⟨?_, by simp [ptrs]⟩
    simpa [ptrs] using World.ownsRow_lit (base := B) (e := 64) (size := 1) W #[.pointer (some ⟨pb, po, none⟩)] 1 hB (by decide) (by simp)
  go_enter Try.func33, Try.ntmps33
  go_wp2_with fail
  go_loopg [4] ((T.pre t).length) (fun k v4 wr => ∃ (st : List ((Nat × Nat) × T)) (done : List T), Hid (k = (todoPre st).length) ∧ Own wr B 64 1 v4 (ptrs st) ∧ I done wr ∧ Hid (done ++ todoPre st = T.pre t) ∧ Ke B c W wr ∧ (∀ x ∈ st, Good W B c x.1 x.2))
  case atStart => exact ⟨[((pb, po), t)], [], Lib.hid (by simp [todoPre]), HO0, HI0 _, Lib.hid (by simp [todoPre]), HK0, by simpa using hg⟩
  case round =>
    obtain ⟨st, done, hk, hown, hI, hdone, hke, hgood⟩ := hrel
    obtain ⟨n, hn⟩ : ∃ n, n = st.length := ⟨_, rfl⟩
    obtain ⟨ao, cap, rfl, hn1, hn2, hrow, hnone⟩ := hown.rown (n := n) (by rw [ptrs_len, hn])
    have hnm : n ≤ 1000000 := by
      have h1 := todo_len st
      have h2 : (todoPre st).length ≤ (T.pre t).length := by rw [← hdone.out, List.length_append]; omega
      omega
    have hdl : done.length ≤ 1000000 := by
      have h2 : done.length ≤ (T.pre t).length := by rw [← hdone.out, List.length_append]; omega
      omega
    cases st with
    | nil =>
      have hn0 : n = 0 := by simpa using hn
      subst hn0
      clear hn hn1 hnone hrow hown hgood
      go_wp2_with fail
      go_end0
      refine ⟨rfl, ?_, hke.below⟩
      have := hdone.out
      simp [todoPre] at this
      rw [← this]; exact hI
    | cons x st =>
      obtain ⟨⟨xb, xo⟩, x⟩ := x
      obtain ⟨m, rfl⟩ : ∃ m, n = m + 1 := ⟨st.length, by simpa using hn⟩
      have hm : st.length = m := by simp at hn; omega
      obtain ⟨b4, o4, rfl, hat⟩ := hrow (by rw [ptrs_cons]; simp)
      have hcell := hat.cell (i := m) (by rw [← hm]; exact ptrs_last _ _) (j := 0) rfl
      simp only [Nat.mul_one, Nat.add_zero] at hcell
      have hown1 := (ptrs_cons _ _ ▸ hown).pop
      obtain ⟨cx, hrep, hpc⟩ := hgood ((xb, xo), x) (by simp)
      have hpc0 := hpc wr hke
      have HG : Hid (∀ y ∈ st, Good W B c y.1 y.2) := Lib.hid (fun y hy => hgood y (by simp [hy]))
      have HM := Lib.hid hm
      clear hn hm hnone hrow hown hgood hat
      go_wp2_with fail
      refine (D.call done x cx xb xo wr hdl hI hke hrep hpc0).mono ?_
      rintro e w2 ⟨rfl, hI2, hb2, ho2⟩
      have hke2 := hke.trans (Ke.of_kt hb2 ho2)
      have hown2 := own_kt hown1 (by decide) (D.cell done wr hI) ho2
      obtain ⟨kk, tt, ff, oo, ks⟩ := x
      cases hrep with
      | @mk _ _ _ _ _ ao5 cap5 css5 hks hrow5 hc5 =>
        have HC4 := Lib.hid (fun w' hw' => hpc w' hw' 4 _ rfl)
        have c4 := HC4.out w2 hke2
        obtain ⟨kb, ko, hkk⟩ : ∃ kb ko, ks ≠ [] → ao5 = some ⟨kb, ko, none⟩ ∧ kb < B ∧ RowAt W 5 kb ko css5 := by
          by_cases h0 : ks = []
          · exact ⟨0, 0, fun h => (h h0).elim⟩
          · obtain ⟨kb, ko, e1, e2, e3⟩ := hrow5 (fun e0 => h0 (by have := hks.len; rw [e0] at this; exact List.eq_nil_of_length_eq_zero this.symm))
            exact ⟨kb, ko, fun _ => ⟨e1, e2, e3⟩⟩
        have hpl : (todoPre (kps kb ko 0 ks ++ st)).length < gk := by
          rw [hk.out, todo_app, kps_pre, todo_cons]
          simp only [T.pre, List.length_append, List.length_cons]; omega
        have HD2 : Hid ((done ++ [T.mk kk tt ff oo ks]) ++ todoPre (kps kb ko 0 ks ++ st) = T.pre t) := Lib.hid (by rw [← hdone.out, todo_app, kps_pre, todo_cons]; simp [T.pre])
        have HLL : Hid (ks.length + st.length ≤ 1000000) := Lib.hid (by
          have h1 := todo_len (kps kb ko 0 ks ++ st)
          rw [List.length_append, kps_len] at h1
          have h2 : (todoPre (kps kb ko 0 ks ++ st)).length ≤ (T.pre t).length := by rw [← HD2.out]; simp only [List.length_append]; omega
          omega)
        have HPL := Lib.hid hpl
        have HKS := Lib.hid hkk
        have hI2 := hI2
        have HO := Lib.hid hown2
        have hc5 := hc5.2
        clear hcell hpc hpc0 hkk hpl hown1 hown2 hrow5 hk hdone hI hke hb2 ho2 hn1 hn2
        go_wp2_with fail
        go_loopg [4, 6] (ks.length) (fun k v4 v6 wr => ∃ m : Nat, m = k ∧ m ≤ ks.length ∧ v6 = .int .i64 ((m : Int) - 1) ∧ Own wr B 64 1 v4 (ptrs (kps kb ko m (ks.drop m) ++ st)) ∧ I (done ++ [T.mk kk tt ff oo ks]) wr ∧ Ke B c W wr)
        case atStart => exact ⟨ks.length, rfl, Nat.le_refl _, rfl, by simpa [kps] using HO.out, hI2, hke2⟩
        case round =>
          obtain ⟨m5, rfl, hm5, rfl, hown5, hI5, hke5⟩ := hrel
          have c4 := HC4.out wr hke5
          cases m5 with
          | zero =>
            go_wp2_with fail
            go_roundg ((todoPre (kps kb ko 0 ks ++ st)).length)
            case measure => exact HPL.out
            case rel =>
              refine ⟨kps kb ko 0 ks ++ st, _, Lib.hid rfl, by simpa using hown5, hI5, HD2, hke5, ?_⟩
              intro y hy
              rcases List.mem_append.1 hy with hy | hy
              · obtain ⟨j, z, hz, rfl⟩ := kps_mem hy
                obtain ⟨_, hkB, hat5⟩ := HKS.out (by intro h0; rw [h0] at hz; simp at hz)
                rw [Nat.zero_add]
                exact Good.of_kid hks hkB hat5 hz
              · exact HG.out y hy
          | succ m5 =>
            obtain ⟨x5, hx5⟩ : ∃ x, ks[m5]? = some x := ⟨ks[m5]'(by omega), by simp⟩
            obtain ⟨rfl, hkB, hat5⟩ := HKS.out (by intro h0; rw [h0] at hm5; simp at hm5)
            have HX := Lib.hid hx5
            clear hx5
            go_wp2_with (at_builtin; go_must (refine wpList_append1 E64 rfl rfl hown5 rfl rfl (news := [.pointer (some ⟨kb, ko + m5 * 5, none⟩)]) rfl rfl (by simp [Value.oneCell']) (by rw [ptrs_len, List.length_append, kps_len, List.length_drop]; have := HLL.out; omega) (by decide) (Nat.le_trans hB hke5.below.size) ?_); intro v7 w7 hown7 hg7)
            go_roundg m5
            case measure => omega
            case rel =>
              refine ⟨m5, rfl, by omega, by go_num, ?_, D.keeps _ _ _ hI5 hg7.size (others_app hown5 hg7), hke5.trans (Ke.of_ptr (bapp (Below.refl _ _) hown5 hg7 (Nat.le_trans hB hke5.below.size)) (others_app hown5 hg7))⟩
              rw [kps_drop kb ko HX.out, List.cons_append, ptrs_cons]
              exact hown7
set_option maxHeartbeats 2000000 in
set_option maxRecDepth 100000 in
theorem each_Leaves (W : World) (B c : Nat) (I : List T → World → Prop) (D : Does W B c 38 I) (hB : B ≤ W.heap.size) (t : T) (pb po : Nat) (hg : Good W B c (pb, po) t) (h0 : I [] W) (hs : (T.pre t).length ≤ 1000000) :
    Calls Try.prog 33 #[.pointer (some ⟨pb, po, none⟩), .func (.func 38) #[] #[.pointer (some ⟨c, 0, none⟩)]] W fun e w' => e = .returned (.tuple #[]) ∧ I (T.pre t) w' ∧ Below B W w' := by
  have HI0 : ∀ o, I [] (W.alloc (.cells #[.pointer (some ⟨pb, po, none⟩)] o)) := fun o => D.keeps [] W _ h0 (by simp) ((Lib.OthersKept.refl _ _ _).alloc _)
  have HK0 : Ke B c W (W.alloc (.cells #[.pointer (some ⟨pb, po, none⟩)] 64)) := Ke.of_ptr ((Below.refl _ _).alloc hB _) ((Lib.OthersKept.refl _ _ _).alloc _)
  have HO0 : Own (W.alloc (.cells #[.pointer (some ⟨pb, po, none⟩)] 64)) B 64 1 (.slice (some ⟨W.heap.size, 0, none⟩) 1 1) (ptrs [((pb, po), t)]) := by
    refine ⟨?_, by simp [ptrs]⟩
    simpa [ptrs] using World.ownsRow_lit (base := B) (e := 64) (size := 1) W #[.pointer (some ⟨pb, po, none⟩)] 1 hB (by decide) (by simp)
  go_enter Try.func33, Try.ntmps33
  go_wp2_with fail
  go_loopg [4] ((T.pre t).length) (fun k v4 wr => ∃ (st : List ((Nat × Nat) × T)) (done : List T), Hid (k = (todoPre st).length) ∧ Own wr B 64 1 v4 (ptrs st) ∧ I done wr ∧ Hid (done ++ todoPre st = T.pre t) ∧ Ke B c W wr ∧ (∀ x ∈ st, Good W B c x.1 x.2))
  case atStart => exact ⟨[((pb, po), t)], [], Lib.hid (by simp [todoPre]), HO0, HI0 _, Lib.hid (by simp [todoPre]), HK0, by simpa using hg⟩
  case round =>
    obtain ⟨st, done, hk, hown, hI, hdone, hke, hgood⟩ := hrel
    obtain ⟨n, hn⟩ : ∃ n, n = st.length := ⟨_, rfl⟩
    obtain ⟨ao, cap, rfl, hn1, hn2, hrow, hnone⟩ := hown.rown (n := n) (by rw [ptrs_len, hn])
    have hnm : n ≤ 1000000 := by
      have h1 := todo_len st
      have h2 : (todoPre st).length ≤ (T.pre t).length := by rw [← hdone.out, List.length_append]; omega
      omega
    have hdl : done.length ≤ 1000000 := by
      have h2 : done.length ≤ (T.pre t).length := by rw [← hdone.out, List.length_append]; omega
      omega
    cases st with
    | nil =>
      have hn0 : n = 0 := by simpa using hn
      subst hn0
      clear hn hn1 hnone hrow hown hgood
      go_wp2_with fail
      go_end0
      refine ⟨rfl, ?_, hke.below⟩
      have := hdone.out
      simp [todoPre] at this
      rw [← this]; exact hI
    | cons x st =>
      obtain ⟨⟨xb, xo⟩, x⟩ := x
      obtain ⟨m, rfl⟩ : ∃ m, n = m + 1 := ⟨st.length, by simpa using hn⟩
      have hm : st.length = m := by simp at hn; omega
      obtain ⟨b4, o4, rfl, hat⟩ := hrow (by rw [ptrs_cons]; simp)
      have hcell := hat.cell (i := m) (by rw [← hm]; exact ptrs_last _ _) (j := 0) rfl
      simp only [Nat.mul_one, Nat.add_zero] at hcell
      have hown1 := (ptrs_cons _ _ ▸ hown).pop
      obtain ⟨cx, hrep, hpc⟩ := hgood ((xb, xo), x) (by simp)
      have hpc0 := hpc wr hke
      have HG : Hid (∀ y ∈ st, Good W B c y.1 y.2) := Lib.hid (fun y hy => hgood y (by simp [hy]))
      have HM := Lib.hid hm
      clear hn hm hnone hrow hown hgood hat
      go_wp2_with fail
      refine (D.call done x cx xb xo wr hdl hI hke hrep hpc0).mono ?_
      rintro e w2 ⟨rfl, hI2, hb2, ho2⟩
      have hke2 := hke.trans (Ke.of_kt hb2 ho2)
      have hown2 := own_kt hown1 (by decide) (D.cell done wr hI) ho2
      obtain ⟨kk, tt, ff, oo, ks⟩ := x
      cases hrep with
      | @mk _ _ _ _ _ ao5 cap5 css5 hks hrow5 hc5 =>
        have HC4 := Lib.hid (fun w' hw' => hpc w' hw' 4 _ rfl)
        have c4 := HC4.out w2 hke2
        obtain ⟨kb, ko, hkk⟩ : ∃ kb ko, ks ≠ [] → ao5 = some ⟨kb, ko, none⟩ ∧ kb < B ∧ RowAt W 5 kb ko css5 := by
          by_cases h0 : ks = []
          · exact ⟨0, 0, fun h => (h h0).elim⟩
          · obtain ⟨kb, ko, e1, e2, e3⟩ := hrow5 (fun e0 => h0 (by have := hks.len; rw [e0] at this; exact List.eq_nil_of_length_eq_zero this.symm))
            exact ⟨kb, ko, fun _ => ⟨e1, e2, e3⟩⟩
        have hpl : (todoPre (kps kb ko 0 ks ++ st)).length < gk := by
          rw [hk.out, todo_app, kps_pre, todo_cons]
          simp only [T.pre, List.length_append, List.length_cons]; omega
        have HD2 : Hid ((done ++ [T.mk kk tt ff oo ks]) ++ todoPre (kps kb ko 0 ks ++ st) = T.pre t) := Lib.hid (by rw [← hdone.out, todo_app, kps_pre, todo_cons]; simp [T.pre])
        have HLL : Hid (ks.length + st.length ≤ 1000000) := Lib.hid (by
          have h1 := todo_len (kps kb ko 0 ks ++ st)
          rw [List.length_append, kps_len] at h1
          have h2 : (todoPre (kps kb ko 0 ks ++ st)).length ≤ (T.pre t).length := by rw [← HD2.out]; simp only [List.length_append]; omega
          omega)
        have HPL := Lib.hid hpl
        have HKS := Lib.hid hkk
        have hI2 := hI2
        have HO := Lib.hid hown2
        have hc5 := hc5.2
        clear hcell hpc hpc0 hkk hpl hown1 hown2 hrow5 hk hdone hI hke hb2 ho2 hn1 hn2
        go_wp2_with fail
        go_loopg [4, 6] (ks.length) (fun k v4 v6 wr => ∃ m : Nat, m = k ∧ m ≤ ks.length ∧ v6 = .int .i64 ((m : Int) - 1) ∧ Own wr B 64 1 v4 (ptrs (kps kb ko m (ks.drop m) ++ st)) ∧ I (done ++ [T.mk kk tt ff oo ks]) wr ∧ Ke B c W wr)
        case atStart => exact ⟨ks.length, rfl, Nat.le_refl _, rfl, by simpa [kps] using HO.out, hI2, hke2⟩
        case round =>
          obtain ⟨m5, rfl, hm5, rfl, hown5, hI5, hke5⟩ := hrel
          have c4 := HC4.out wr hke5
          cases m5 with
          | zero =>
            go_wp2_with fail
            go_roundg ((todoPre (kps kb ko 0 ks ++ st)).length)
            case measure => exact HPL.out
            case rel =>
              refine ⟨kps kb ko 0 ks ++ st, _, Lib.hid rfl, by simpa using hown5, hI5, HD2, hke5, ?_⟩
              intro y hy
              rcases List.mem_append.1 hy with hy | hy
              · obtain ⟨j, z, hz, rfl⟩ := kps_mem hy
                obtain ⟨_, hkB, hat5⟩ := HKS.out (by intro h0; rw [h0] at hz; simp at hz)
                rw [Nat.zero_add]
                exact Good.of_kid hks hkB hat5 hz
              · exact HG.out y hy
          | succ m5 =>
            obtain ⟨x5, hx5⟩ : ∃ x, ks[m5]? = some x := ⟨ks[m5]'(by omega), by simp⟩
            obtain ⟨rfl, hkB, hat5⟩ := HKS.out (by intro h0; rw [h0] at hm5; simp at hm5)
            have HX := Lib.hid hx5
            clear hx5
            go_wp2_with (at_builtin; go_must (refine wpList_append1 E64 rfl rfl hown5 rfl rfl (news := [.pointer (some ⟨kb, ko + m5 * 5, none⟩)]) rfl rfl (by simp [Value.oneCell']) (by rw [ptrs_len, List.length_append, kps_len, List.length_drop]; have := HLL.out; omega) (by decide) (Nat.le_trans hB hke5.below.size) ?_); intro v7 w7 hown7 hg7)
            go_roundg m5
            case measure => omega
            case rel =>
              refine ⟨m5, rfl, by omega, by go_num, ?_, D.keeps _ _ _ hI5 hg7.size (others_app hown5 hg7), hke5.trans (Ke.of_ptr (bapp (Below.refl _ _) hown5 hg7 (Nat.le_trans hB hke5.below.size)) (others_app hown5 hg7))⟩
              rw [kps_drop kb ko HX.out, List.cons_append, ptrs_cons]
              exact hown7
end Go.Proofs.Ytcafiaoinonpgaa
