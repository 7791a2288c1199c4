/- FilesFind: the two tables side by side. -/
import Derived.Test.YtekbilieddficaaDoorFf5
import Derived.Test.YtekbilieddficaaDoorFoSpec2
namespace Go.Proofs.YtekbilieddficaaDoor
open Go.RowKit
set_option linter.unusedVariables false

theorem dirOf_exists (p : List UInt8) : ∃ r, DirOf p r ∧ r.length ≤ p.length := by
  suffices h : ∀ q : List UInt8, ∃ r, DirOf q.reverse r ∧ r.length ≤ q.length by
    obtain ⟨r, h1, h2⟩ := h p.reverse
    rw [List.reverse_reverse] at h1
    exact ⟨r, h1, by simpa using h2⟩
  intro q
  induction q with
  | nil => exact ⟨[], .inr ⟨by simp, rfl⟩, Nat.le_refl _⟩
  | cons c q ih =>
    rw [List.reverse_cons]
    by_cases hc : c = 47
    · subst hc
      refine ⟨q.reverse, .inl ⟨q.reverse.length, by simp, fun j hj => ?_, by simp⟩, by simp⟩
      rw [List.getElem?_eq_none (by simp at hj ⊢; omega)]
      simp
    · obtain ⟨r, h1, h2⟩ := ih
      refine ⟨r, ?_, Nat.le_succ_of_le h2⟩
      rcases h1 with ⟨k, hk, hl, hr⟩ | ⟨ha, hr⟩
      · have hkl := (List.getElem?_eq_some_iff.1 hk).1
        refine .inl ⟨k, by rw [List.getElem?_append_left hkl]; exact hk, fun j hj => ?_, by rw [List.take_append_of_le_length (Nat.le_of_lt hkl)]; exact hr⟩
        by_cases hj2 : j < q.reverse.length
        · rw [List.getElem?_append_left hj2]; exact hl j hj
        · rw [List.getElem?_append_right (by omega)]
          by_cases hj3 : j - q.reverse.length = 0
          · rw [hj3]
            intro e
            simp at e
            exact hc e
          · rw [List.getElem?_eq_none (by rw [List.length_singleton]; omega)]; simp
      · exact .inr ⟨fun x hx => by
          rcases List.mem_append.1 hx with hx | hx
          · exact ha x hx
          · simp at hx; subst hx; exact hc, hr⟩

theorem own_rk {w w' : World} {B e sz : Nat} {v : Value} {css : List (List Value)} (h : Own w B e sz v css) (he : e ≠ 128) (hk : RopesKept w w') : Own w' B e sz v css := by
  refine ⟨⟨h.1.1, ?_⟩, h.2⟩
  rcases h.1.2 with h0 | ⟨g, cap, cur, hv, hg1, hg, r⟩
  · exact .inl h0
  · exact .inr ⟨g, cap, cur, hv, hg1, hk _ _ _ _ he hg, r⟩

theorem RTab.rk {w w' : World} {B g : Nat} {dv : Value} {P N : List ByteArray} (h : RTab w B g dv P N) (hk : RopesKept w w') : RTab w' B g dv P N := by
  obtain ⟨lv, nv, tv, h1, h2, h3, h4⟩ := h.tab
  exact ⟨⟨lv, nv, tv, hk _ _ _ _ (by decide) h1, own_rk h2 (by decide) hk, own_rk h3 (by decide) hk, own_rk h4 (by decide) hk⟩, h.low, h.sz⟩

/-- the program's table is kept while the document's is written -/
theorem fat_grown {w w' : World} {B B2 g fm vm gr c2 : Nat} {ao2 : Option Addr} {n2 : Nat} {dv : Value} {D P N : List ByteArray} {F : List (ByteArray × Nat × RT)} {V : List (ByteArray × Nat × Int)} (h : FAt w B g fm vm dv D F V) (hr : RTab w B2 gr (.slice ao2 n2 c2) P N) (hg : w.grownBy w' (some gr)) : FAt w' B g fm vm dv D F V := by
  obtain ⟨lv, nv, tv, r1, r2, r3, r4⟩ := hr.tab
  obtain ⟨lo, lc, rfl, _⟩ := r2.row
  obtain ⟨no, nc, rfl, _⟩ := r3.row
  obtain ⟨to_, tc, rfl, _⟩ := r4.row
  have kc : ∀ {b : Nat} {o : Obj}, w.heap[b]? = some o → (∀ c fz, o ≠ .cells c 34 fz) → w'.heap[b]? = some o := by
    intro b o hb hne
    refine (hg.block b (lt_of_block hb) ?_).trans hb
    intro e
    obtain rfl := Option.some.inj e
    rw [r1] at hb
    exact hne _ _ (Option.some.inj hb).symm
  obtain ⟨ao, c, d1, d2, d3, d4⟩ := h.dirs
  obtain ⟨es, clock, f1, f2⟩ := h.files
  obtain ⟨es2, clock2, v1, v2⟩ := h.vers
  refine ⟨kc h.tab (by intro _ _ e; injection e with _ e2 _; exact absurd e2 (by decide)), ⟨ao, c, d1, d2, ?_, d4⟩, ⟨es, clock, kc f1 (by intro _ _ e; cases e), f2⟩, h.fnd, h.fsz, ?_, ⟨es2, clock2, kc v1 (by intro _ _ e; cases e), v2⟩, h.vnd, h.vsz, ?_, h.vblk, h.ne, h.low⟩
  · intro hne
    obtain ⟨b, o, e, hat⟩ := d3 hne
    refine ⟨b, o, e, fun i cs hi j u hj => ?_⟩
    have hc := hat i cs hi j u hj
    refine (World.cell?_of_block (hg.block b (cell_lt hc) ?_)).trans hc
    intro e2
    obtain rfl := Option.some.inj e2
    rw [Lib.cell_of_heap r1] at hc
    unfold strsB at hi
    rw [List.getElem?_map] at hi
    obtain ⟨s, _, rfl⟩ := Option.map_eq_some_iff.1 hi
    have hj0 : j = 0 := by
      have := (List.getElem?_eq_some_iff.1 hj).1
      simpa using this
    subst hj0
    simp only [List.getElem?_cons_zero, Option.some.injEq] at hj
    subst hj
    have hm := Array.mem_of_getElem? hc
    simp at hm
  · intro p hp
    refine ⟨(h.ropes p hp).1.typed fun b c fz e => kc e (by intro _ _ e; injection e with _ e2 _; exact absurd e2 (by decide)), (h.ropes p hp).2⟩
  · intro p hp
    exact ⟨kc (h.cnts p hp).1 (by intro _ _ e; injection e with _ e2 _; exact absurd e2 (by decide)), (h.cnts p hp).2⟩

/-- both tables, behind i creations -/
structure FfSt (w : World) (B g fm vm gr c : Nat) (dv : Value) (ao : Option Addr) (D : List ByteArray) (i : Nat) (F : List (ByteArray × Nat × RT)) (V : List (ByteArray × Nat × Int)) (P N : List ByteArray) : Prop where
  f : FAt w B g fm vm dv D F V
  r : RTab w B gr (.slice ao D.length c) P N
  rise : RiseB P
  same : ∀ n, (fileOf F n).isSome = hasB P n
  len : P.length = F.length
  sub : ∀ x ∈ N, x ∈ P
  ln : N.length ≤ i
  lp : P.length ≤ i
  cnt : ∀ n, countOf V n ≤ i

theorem FfSt.moved {w w' : World} {B g fm vm gr c i : Nat} {dv : Value} {ao : Option Addr} {D P N : List ByteArray} {F : List (ByteArray × Nat × RT)} {V : List (ByteArray × Nat × Int)} (h : FfSt w B g fm vm gr c dv ao D i F V P N) (hb : Below w.heap.size w w') : FfSt w' B g fm vm gr c dv ao D i F V P N :=
  ⟨h.f.moved hb, h.r.moved hb, h.rise, h.same, h.len, h.sub, h.ln, h.lp, h.cnt⟩

theorem FfSt.next {w : World} {B g fm vm gr c i : Nat} {dv : Value} {ao : Option Addr} {D P N : List ByteArray} {F : List (ByteArray × Nat × RT)} {V : List (ByteArray × Nat × Int)} (h : FfSt w B g fm vm gr c dv ao D i F V P N) : FfSt w B g fm vm gr c dv ao D (i + 1) F V P N :=
  ⟨h.f, h.r, h.rise, h.same, h.len, h.sub, Nat.le_succ_of_le h.ln, Nat.le_succ_of_le h.lp, fun n => by have := h.cnt n; omega⟩

/-- a refused creation -/
theorem pcreate_bad {w : World} {B g fm vm gr c i : Nat} {dv : Value} {ao : Option Addr} {D P N : List ByteArray} {F : List (ByteArray × Nat × RT)} {V : List (ByteArray × Nat × Int)} (h : FfSt w B g fm vm gr c dv ao D i F V P N) (s t : ByteArray) (hs : s.size ≤ 1000) {x : Int} (hx : badC P s = some x) :
    Calls Tryd.prog 11 #[.pointer (some ⟨g, 0, none⟩), .string s, .string t] w fun e w' => e = .returned (.int .i64 x) ∧ Below w.heap.size w w' := by
  unfold badC at hx
  by_cases hv : ValidP s.data.toList
  · rw [if_neg (by simpa using hv)] at hx
    by_cases hm : hasB P s = true
    · rw [if_pos hm] at hx
      cases hx
      exact create_there w h.f s t (by omega) hv (by rw [h.same]; exact hm)
    · rw [if_neg hm] at hx
      by_cases h50 : 50 ≤ P.length
      · rw [if_pos h50] at hx
        cases hx
        refine create_full w h.f s t (by omega) hv ?_ (by rw [← h.len]; exact h50)
        have := h.same s
        cases hf : fileOf F s with
        | none => rfl
        | some q => rw [hf] at this; exact absurd this.symm hm
      · rw [if_neg h50] at hx
        cases hx
  · rw [if_pos hv] at hx
    cases hx
    exact create_bad w s t (by omega) hv

theorem badC_none {P : List ByteArray} {s : ByteArray} (h : badC P s = none) : ValidP s.data.toList ∧ hasB P s = false ∧ P.length < 50 := by
  unfold badC at h
  by_cases hv : ValidP s.data.toList
  · rw [if_neg (by simpa using hv)] at h
    by_cases hm : hasB P s = true
    · rw [if_pos hm] at h; cases h
    · rw [if_neg hm] at h
      by_cases h50 : 50 ≤ P.length
      · rw [if_pos h50] at h; cases h
      · exact ⟨hv, by simpa using hm, by omega⟩
  · rw [if_pos hv] at h; cases h

theorem pcreate_yes {w : World} {B g fm vm gr c i : Nat} {dv : Value} {ao : Option Addr} {D P N : List ByteArray} {F : List (ByteArray × Nat × RT)} {V : List (ByteArray × Nat × Int)} (h : FfSt w B g fm vm gr c dv ao D i F V P N) (hB : B ≤ w.heap.size) (hi : i ≤ 1000) (s : ByteArray) (hx : badC P s = none) :
    Calls Tryd.prog 11 #[.pointer (some ⟨g, 0, none⟩), .string s, .string ⟨#[]⟩] w fun e w' => Created B g fm vm dv D F V s [] w e w' := by
  obtain ⟨hv, hm, h50⟩ := badC_none hx
  refine create_yes w h.f hB s ⟨#[]⟩ hv.1 hv ?_ (by rw [← h.len]; exact h50) (by decide) (by have := h.cnt s; omega)
  have := h.same s
  cases hf : fileOf F s with
  | none => rfl
  | some q => rw [hf, hm] at this; cases this

theorem file_app' (F : List (ByteArray × Nat × RT)) (n m : ByteArray) (b : Nat) (t : RT) : (fileOf (F ++ [(n, b, t)]) m).isSome = ((fileOf F m).isSome || decide (m = n)) := by
  unfold fileOf
  rw [List.find?_append]
  cases hf : F.find? fun p => decide (p.1 = m) with
  | some q => simp
  | none =>
    by_cases e : m = n
    · subst e; simp
    · have e2 : ¬ n = m := fun h => e h.symm
      simp [e, e2]

theorem FfSt.made {w w2 w3 : World} {B g fm vm gr c i b nb : Nat} {t : RT} {dv : Value} {ao : Option Addr} {D P N : List ByteArray} {F : List (ByteArray × Nat × RT)} {V : List (ByteArray × Nat × Int)} (h : FfSt w B g fm vm gr c dv ao D i F V P N) {s : ByteArray} (hx : badC P s = none)
    (f2 : FAt w2 B g fm vm dv D (F ++ [(s, b, t)]) (bumpV V s nb)) (k2 : RopesKept w w2) (m3 : RMade B gr (.slice ao D.length c) P N s w2 w3) : ∃ P' N', FfSt w3 B g fm vm gr c dv ao D (i + 1) (F ++ [(s, b, t)]) (bumpV V s nb) P' N' := by
  obtain ⟨hv, hm, h50⟩ := badC_none hx
  obtain ⟨k, hk, hlow, hup, r3, g3⟩ := m3
  have hsP : s ∉ P := fun hh => by rw [hasB_true.2 hh] at hm; cases hm
  refine ⟨_, _, fat_grown f2 (h.r.rk k2) g3, r3, rise_ins h.rise hsP hlow hup, ?_, ?_, ?_, ?_, ?_, ?_⟩
  · intro n
    rw [file_app', h.same]
    by_cases e : n = s
    · subst e
      rw [hasB_true.2 (ins_mem.2 (.inl rfl))]
      simp
    · rw [decide_eq_false e, Bool.or_false]
      cases hb : hasB P n with
      | true => exact (hasB_true.2 (ins_mem.2 (.inr (hasB_true.1 hb)))).symm
      | false => exact (hasB_false (fun hh => by
          rcases ins_mem.1 hh with hh | hh
          · exact e hh
          · rw [hasB_true.2 hh] at hb; cases hb)).symm
  · rw [ins_len hk, List.length_append, h.len]; rfl
  · intro x hxx
    rcases List.mem_append.1 hxx with hh | hh
    · exact ins_mem.2 (.inr (h.sub x hh))
    · simp at hh; exact ins_mem.2 (.inl hh)
  · rw [List.length_append]; have := h.ln; simp; omega
  · rw [ins_len hk]; have := h.lp; omega
  · intro n
    have h1 := count_bump V s n nb
    have h2 := h.cnt n
    omega
end Go.Proofs.YtekbilieddficaaDoor
