/- Files: the document's table: a new path is put. -/
import Derived.Test.YtekbilieddficaaDoorFf2
namespace Go.Proofs.YtekbilieddficaaDoor
open Go.RowKit
set_option linter.unusedVariables false

theorem getElem_len {α : Type} {l : List α} {k : Nat} : l[k]? = none ↔ l.length ≤ k := List.getElem?_eq_none_iff

/-- what a creation leaves in the document's table -/
def RMade (B g : Nat) (dv : Value) (P N : List ByteArray) (s : ByteArray) (w w' : World) : Prop :=
  ∃ k : Nat, k ≤ P.length ∧ (∀ (j : Nat) p, j < k → P[j]? = some p → p.data.toList < s.data.toList) ∧ (∀ p, P[k]? = some p → ¬ p.data.toList < s.data.toList) ∧ RTab w' B g dv (P.take k ++ s :: P.drop k) (N ++ [s]) ∧ w.grownBy w' (some g)

set_option maxRecDepth 100000 in
set_option maxHeartbeats 2000000 in
theorem rput_new {B g : Nat} {dv : Value} {P N : List ByteArray} (w : World) (h : RTab w B g dv P N) (hB : B ≤ w.heap.size) (hl : N.length ≤ 1000) (hP : P.length ≤ 1000) (s : ByteArray) (hs8 : s.size ≤ 80) (hs : ∀ x ∈ N, x ≠ s) (hsP : s ∉ P) :
    Calls Tryd.prog 32 #[.pointer (some ⟨g, 0, none⟩), .string s, .string ⟨#[]⟩] w fun e w' => e = .returned (.tuple #[]) ∧ RMade B g dv P N s w w' := by
  have hA := Lib.hid (rat_any w h hP s)
  have hh := Lib.hid h
  clear h
  go_enter Tryd.func32, Tryd.ntmps32
  go_wp2_with fail
  refine hA.out.mono ?_
  rintro e w1 ⟨⟨k, b, rfl, hk, hlow, hup, hb⟩, b1⟩
  have hb0 : b = false := by
    cases b with
    | false => rfl
    | true => exact absurd (List.mem_of_getElem? (hb.1 rfl)) hsP
  subst hb0
  clear hA hb
  have h1 := hh.out.moved b1
  obtain ⟨lv, nv, tv, hg, hL, hO, hT⟩ := h1.tab
  obtain ⟨n, hn⟩ : ∃ n, n = P.length := ⟨_, rfl⟩
  obtain ⟨lo, lc, rfl, hnc, hcm, _, _⟩ := hL.rown (n := n) (by rw [List.length_map, hn])
  have c1 := Lib.cell_of_heap hg 1
  have hkn : k ≤ n := by omega
  have hn1 : n ≤ 1000 := by omega
  have HN := Lib.hid hn.symm
  have hB1 := Nat.le_trans hB b1.size
  have hglt := lt_of_block hg
  replace hlow := Lib.hid hlow
  replace hup := Lib.hid hup
  have hsz := Lib.hid h1.sz
  have hgl := h1.low
  have hltk : Hid (((P.take k).map filC).length = k) := Lib.hid (by rw [List.length_map, List.length_take]; omega)
  have hldr : Hid (((P.drop k).map filC).length = n - k) := Lib.hid (by rw [List.length_map, List.length_drop]; omega)
  have hfin : Hid (∀ w6 w7 : World, w1.grownBy w6 (some g) → ∀ lv6 : Value, w6.heap[g]? = some (.cells (#[dv, .slice lo n lc, nv, tv].setIfInBounds 1 lv6) 34 (0, 0)) → Own w6 B 98 2 lv6 ((P.take k ++ s :: P.drop k).map filC) → Own w6 B 9 1 nv (strsB N) → Own w6 B 3 1 tv (List.replicate N.length [.int .i64 1]) → RTab w6 B g dv (P.take k ++ s :: P.drop k) N ∧ B ≤ w6.heap.size) :=
    Lib.hid fun w6 w7 hg6 lv6 hh6 ho1 ho2 ho3 => ⟨⟨⟨lv6, nv, tv, hh6, ho1, ho2, ho3⟩, hgl, fun p hp => by
      rcases List.mem_append.1 hp with hp | hp
      · exact hsz.out p (List.mem_of_mem_take hp)
      · rcases List.mem_cons.1 hp with rfl | hp
        · exact hs8
        · exact hsz.out p (List.mem_of_mem_drop hp)⟩, Nat.le_trans hB1 hg6.size⟩
  have hLh := Lib.hid hL
  replace hO := Lib.hid hO
  replace hT := Lib.hid hT
  replace hg := Lib.hid hg
  have hkI : (k : Int) ≤ (n : Int) := by omega
  have hkC : (k : Int) ≤ (lc : Int) := by omega
  have hnC : (n : Int) ≤ (lc : Int) := by omega
  have hR := Lib.hid hL.here
  have hb10 : Below w1.heap.size w1 (w1.alloc (.cells #[] 98)) := (Below.refl _ _).alloc (Nat.le_refl _) _
  have hown0 := own_new0 w1 98 2
  have d1 := kept_cell hb10 c1
  unfold maxLen at hcm
  rcases own_casesN hL with ⟨rfl, hn0, rfl⟩ | ⟨gl, rfl⟩
  · subst hn0
    obtain rfl : k = 0 := by omega
    clear hL h1 hn hk
    have hPn : Hid (P = []) := Lib.hid (List.eq_nil_of_length_eq_zero HN.out)
    go_wp2_with (at_builtin; first
      | (refine wpList_append1 Ef98 rfl rfl hown0 rfl rfl (news := filC s) (by simp) rfl (by simp [filC, Value.oneCell']) (by simp) (by decide) (by simp) ?_; intro v5 w5 hown5 hg5; have hb5 : Below w1.heap.size w1 w5 := bapp hb10 hown0 hg5 (by simp); have hs5 := hb5.size)
      | (refine wpList_appendN Ef98 rfl rfl hown5 rfl rfl (css2 := []) rfl (fun _ => rfl) (Row.nil _ _ _) (by simp) (by simp) (by simp) (by decide) hs5 ?_; intro v6 w6 hown6 hg6; have hb6 : Below w1.heap.size w1 w6 := bapp hb5 hown5 hg6 hs5; have hs6 := hb6.size;
          obtain ⟨lo6, lc6, rfl, hlc6, hlm6, _, _⟩ := hown6.rown (n := 1) (by simp);
          have d6 := kept_cell hb6 c1;
          have z6 : w6.frozen? ⟨g, 1, none⟩ = false := Lib.frozen_of_heap ((hb6.block g hglt).trans hg.out) 1;
          obtain ⟨t1, t2, t3, t4⟩ := tab_set hg.out hb6 1 (.slice lo6 1 lc6)))
    all_goals
      have hRt := (hfin.out _ w1 t2 _ t1 (t4 _ _ _ _ _ (by decide) ((by simpa [hPn.out] using hown6.mono hB1))) (t3 _ _ _ _ _ (by decide) hO.out) (t3 _ _ _ _ _ (by decide) hT.out))
      have hTu := Lib.hid (rturned_new _ hRt.1 hRt.2 hl s hs)
      have t2' := Lib.hid t2
      clear t1 t2 t3 t4 hRt
      refine hTu.out.mono ?_
      rintro e w9 ⟨rfl, r9, g9⟩
      replace r9 := Lib.hid r9
      replace g9 := Lib.hid g9
      go_wp2
      go_end0
      exact ⟨rfl, 0, by rw [HN.out]; exact hkn, hlow.out, hup.out, r9.out, grown_trans ⟨b1.os, b1.tape, b1.output, b1.size, fun j hj _ => b1.block j hj⟩ (grown_trans t2'.out g9.out)⟩
  · clear hL h1 hn hk
    have hr0 := ((hR.out.below hb10).take k)
    rw [← List.map_take] at hr0
    have hRr : Hid (∀ x, Below w1.heap.size w1 x → Row x 2 (if lc = k then some (⟨gl, 0, none⟩ : Addr) else some ⟨gl, k * 2, none⟩) ((P.drop k).map filC)) := Lib.hid (fun x hx => by
      split
      · rw [List.drop_eq_nil_of_le (by rw [HN.out]; omega)]; exact Row.nil _ _ _
      · rw [List.map_drop]; have := (hR.out.below hx).dropN k; rw [Nat.zero_add] at this; exact this)
    have hzdr : (if lc = k then some (⟨gl, 0, none⟩ : Addr) else some ⟨gl, k * 2, none⟩) = none → lc - k = 0 := by intro h; split at h <;> cases h
    go_wp2_with (at_builtin; first
      | (refine wpList_appendN Ef98 rfl rfl hown0 rfl rfl hltk.out (fun e => by cases e) hr0 filC_one filC_cell (by simp; omega) (by decide) (by simp) ?_; intro v4 w4 hown4 hg4; have hb4 : Below w1.heap.size w1 w4 := bapp hb10 hown0 hg4 (by simp); have hs4 := hb4.size)
      | (refine wpList_append1 Ef98 rfl rfl hown4 rfl rfl (news := filC s) (by simp) rfl (by simp [filC, Value.oneCell']) (by rw [List.nil_append, hltk.out]; omega) (by decide) hs4 ?_; intro v5 w5 hown5 hg5; have hb5 : Below w1.heap.size w1 w5 := bapp hb4 hown4 hg5 hs4; have hs5 := hb5.size)
      | (refine wpList_appendN Ef98 rfl rfl hown5 rfl rfl hldr.out hzdr (hRr.out w5 hb5) filC_one filC_cell (by rw [List.nil_append, List.length_append, hltk.out]; simp; omega) (by decide) hs5 ?_; intro v6 w6 hown6 hg6; have hb6 : Below w1.heap.size w1 w6 := bapp hb5 hown5 hg6 hs5; have hs6 := hb6.size;
          obtain ⟨lo6, lc6, rfl, hlc6, hlm6, _, _⟩ := hown6.rown (n := n + 1) (by rw [List.nil_append, List.length_append, List.length_append, hltk.out, hldr.out, List.length_singleton]; omega);
          have d6 := kept_cell hb6 c1;
          have z6 : w6.frozen? ⟨g, 1, none⟩ = false := Lib.frozen_of_heap ((hb6.block g hglt).trans hg.out) 1;
          obtain ⟨t1, t2, t3, t4⟩ := tab_set hg.out hb6 1 (.slice lo6 (n + 1) lc6)))
    all_goals
      have hRt := (hfin.out _ w1 t2 _ t1 (t4 _ _ _ _ _ (by decide) ((by simpa using hown6.mono hB1))) (t3 _ _ _ _ _ (by decide) hO.out) (t3 _ _ _ _ _ (by decide) hT.out))
      have hTu := Lib.hid (rturned_new _ hRt.1 hRt.2 hl s hs)
      have t2' := Lib.hid t2
      clear t1 t2 t3 t4 hRt
      refine hTu.out.mono ?_
      rintro e w9 ⟨rfl, r9, g9⟩
      replace r9 := Lib.hid r9
      replace g9 := Lib.hid g9
      go_wp2
      go_end0
      exact ⟨rfl, k, by rw [HN.out]; exact hkn, hlow.out, hup.out, r9.out, grown_trans ⟨b1.os, b1.tape, b1.output, b1.size, fun j hj _ => b1.block j hj⟩ (grown_trans t2'.out g9.out)⟩
end Go.Proofs.YtekbilieddficaaDoor
