/- Files: the document's table: a name that changed. -/
import Derived.Test.YtekbilieddficaaDoorFf1
import Derived.Test.YtekbilieddficaaDoorAppW
namespace Go.Proofs.YtekbilieddficaaDoor
open Go.RowKit
set_option linter.unusedVariables false

theorem Ef98 : EI Tryd.prog 31 98 (.agg #[.string ⟨#[]⟩, .string ⟨#[]⟩]) 2 32 := ⟨Tryd.underlying31, by kernel_rfl, rfl, by decide⟩
theorem Ef9 : EI Tryd.prog 22 9 (.string ⟨#[]⟩) 1 16 := ⟨Tryd.underlying22, by kernel_rfl, rfl, by decide⟩
theorem Ef3 : EI Tryd.prog 32 3 (.int .i64 0) 1 8 := ⟨Tryd.underlying32, by kernel_rfl, rfl, by decide⟩

theorem strsB_one {N : List ByteArray} : ∀ cs ∈ strsB N, cs.length = 1 := by intro cs h; unfold strsB at h; obtain ⟨p, _, rfl⟩ := List.mem_map.1 h; rfl
theorem strsB_cell {N : List ByteArray} : ∀ cs ∈ strsB N, ∀ u ∈ cs, u.oneCell' = true := by intro cs h u hu; unfold strsB at h; obtain ⟨p, _, rfl⟩ := List.mem_map.1 h; simp at hu; subst hu; rfl
theorem ones_one {n : Nat} : ∀ cs ∈ List.replicate n [Value.int .i64 1], cs.length = 1 := by intro cs h; rw [List.eq_of_mem_replicate h]; rfl
theorem ones_cell {n : Nat} : ∀ cs ∈ List.replicate n [Value.int .i64 1], ∀ u ∈ cs, u.oneCell' = true := by intro cs h u hu; rw [List.eq_of_mem_replicate h] at hu; simp at hu; subst hu; rfl
theorem filC_one {P : List ByteArray} : ∀ cs ∈ P.map filC, cs.length = 2 := by intro cs h; obtain ⟨p, _, rfl⟩ := List.mem_map.1 h; rfl
theorem filC_cell {P : List ByteArray} : ∀ cs ∈ P.map filC, ∀ u ∈ cs, u.oneCell' = true := by intro cs h u hu; obtain ⟨p, _, rfl⟩ := List.mem_map.1 h; simp [filC] at hu; rcases hu with rfl | rfl <;> rfl

set_option maxRecDepth 100000 in
set_option maxHeartbeats 2000000 in
theorem rturned_new {B g : Nat} {dv : Value} {P N : List ByteArray} (w : World) (h : RTab w B g dv P N) (hB : B ≤ w.heap.size) (hl : N.length ≤ 1000) (s : ByteArray) (hs : ∀ x ∈ N, x ≠ s) :
    Calls Tryd.prog 55 #[.pointer (some ⟨g, 0, none⟩), .string s] w fun e w' => e = .returned (.tuple #[]) ∧ RTab w' B g dv P (N ++ [s]) ∧ w.grownBy w' (some g) := by
  obtain ⟨lv, nv, tv, hg, hL, hO, hT⟩ := h.tab
  have hlow := h.low
  have hsz := h.sz
  clear h
  obtain ⟨n, hn⟩ : ∃ n, n = N.length := ⟨_, rfl⟩
  obtain ⟨lo, lc, rfl, hnc, hcm, hrN, hzN⟩ := hO.rown (n := n) (by unfold strsB; rw [List.length_map, hn])
  obtain ⟨tl, tc, rfl, htc, htm, hrT, hzT⟩ := hT.rown (n := n) (by rw [List.length_replicate, hn])
  have hglt : g < w.heap.size := lt_of_block hg
  have c2 := Lib.cell_of_heap hg 2
  have c3 := Lib.cell_of_heap hg 3
  have HO := Lib.hid hO
  have HN := Lib.hid hn.symm
  have hn1 : n ≤ 1000 := by omega
  replace hs := Lib.hid hs
  replace hL := Lib.hid hL
  replace hT := Lib.hid hT
  replace hsz := Lib.hid hsz
  have hzN' : Hid (lo = none → lc = 0) := Lib.hid fun e => (hzN e).2
  have hzT' : Hid (tl = none → tc = 0) := Lib.hid fun e => (hzT e).2
  have hlN : Hid ((strsB N).length = n) := Lib.hid (by unfold strsB; rw [List.length_map, hn])
  have hlT : Hid ((List.replicate N.length [Value.int .i64 1]).length = n) := Lib.hid (by rw [List.length_replicate, hn])
  have HF : Hid (∀ x, Below w.heap.size w x → x.cell? ⟨g, 2, none⟩ = some (.slice lo n lc) ∧ x.cell? ⟨g, 3, none⟩ = some (.slice tl n tc) ∧ x.frozen? ⟨g, 2, none⟩ = false ∧ Row x 1 lo (strsB N)) :=
    Lib.hid fun x hx => ⟨kept_cell hx c2, kept_cell hx c3, Lib.frozen_of_heap ((hx.block g hglt).trans hg) 2, hrN.below hx⟩
  replace hg := Lib.hid hg
  clear hO hn hl hrN hzN hzT hrT
  go_enter Tryd.func55, Tryd.ntmps55
  go_wp2_with fail
  go_loopg [4] n (fun q v4 wx => ∃ k : Nat, q = n - k ∧ k ≤ n ∧ v4 = .int .i64 k ∧ wx = w)
  case atStart => exact ⟨0, rfl, Nat.zero_le _, rfl, rfl⟩
  case round =>
    obtain ⟨k, hq, hk, rfl, hw⟩ := hrel
    replace hq := hq.symm
    subst hq
    replace hw := hw.symm
    subst hw
    by_cases hkm : k < n
    · have hkm' : (k : Int) < n := by omega
      have f4 : Hid (n - (k + 1) < n - k) := Lib.hid (by omega)
      have g1 : IntKind.i64.wrap ((k : Int) + 1) = (k : Int) + 1 := IntWalk.i64_in _ (by omega)
      obtain ⟨t, hLk⟩ : ∃ q, N[k]? = some q := ⟨_, List.getElem?_eq_getElem (by rw [HN.out]; exact hkm)⟩
      obtain ⟨gl, rfl, x2, _⟩ := own_atN HO.out (k := k) (cs := [.string t]) (by unfold strsB; rw [List.getElem?_map, hLk]; rfl) (j := 0) rfl
      replace x2 : w.cell? ⟨gl, k, none⟩ = some (.string t) := by simpa using x2
      have hts : t ≠ s := hs.out t (List.mem_of_getElem? hLk)
      have hb2 : (t.toList == s.toList) = false := beq_false_of_ne (fun e => hts (by cases t; cases s; simpa [Lib.toList_data, Array.toList_inj] using e))
      replace hLk := Lib.hid hLk
      replace hts := Lib.hid hts
      go_wp2_with fail
      go_roundg (n - (k + 1))
      case measure => exact f4.out
      case rel => exact ⟨k + 1, rfl, by omega, rfl, rfl⟩
    · obtain rfl : k = n := by omega
      have hkm' : ¬ (k : Int) < (k : Int) := by omega
      clear hkm hk
      have hb0 : Below w.heap.size w (w.alloc (.cells #[] 9)) := (Below.refl _ w).alloc (Nat.le_refl _) _
      have hown0 := own_new0 w 9 1
      go_wp2_with (at_builtin; first
        | (refine wpList_appendN Ef9 rfl rfl hown0 rfl rfl hlN.out hzN'.out (HF.out _ hb0).2.2.2 strsB_one strsB_cell (by simp; omega) (by decide) (by simp) ?_; intro v4 w4 hown4 hg4; have hb4 : Below w.heap.size w w4 := bapp hb0 hown0 hg4 (by simp); have hs4 := hb4.size)
        | (refine wpList_append1 Ef9 rfl rfl hown4 rfl rfl (news := [.string s]) (by simp) rfl (by simp [Value.oneCell']) (by rw [List.nil_append, hlN.out]; omega) (by decide) hs4 ?_; intro v5 w5 hown5 hg5; have hb5 : Below w.heap.size w w5 := bapp hb4 hown4 hg5 hs4; have hs5 := hb5.size; obtain ⟨d2, d3, z2, hr5⟩ := HF.out w5 hb5;
            obtain ⟨lo5, lc5, rfl, hlc5, hlm5, _, _⟩ := hown5.rown (n := k + 1) (by rw [List.nil_append, List.length_append, hlN.out]; rfl);
            obtain ⟨t1, t2, t3, t4⟩ := tab_set hg.out hb5 2 (.slice lo5 (k + 1) lc5);
            have hs6 := t2.size;
            have hT6 := (t3 _ _ _ _ _ (by decide) hT.out);
            have hb6 : Below (w5.setCell ⟨g, 2, none⟩ (.slice lo5 (k + 1) lc5)).heap.size (w5.setCell ⟨g, 2, none⟩ (.slice lo5 (k + 1) lc5)) ((w5.setCell ⟨g, 2, none⟩ (.slice lo5 (k + 1) lc5)).alloc (.cells #[] 3)) := (Below.refl _ _).alloc (Nat.le_refl _) _;
            have d6 : ((w5.setCell ⟨g, 2, none⟩ (.slice lo5 (k + 1) lc5)).alloc (.cells #[] 3)).cell? ⟨g, 3, none⟩ = some (.slice tl k tc) := kept_cell hb6 (by rw [Lib.cell_of_heap t1]; rfl);
            have hown6 := own_new0' (w := w5.setCell ⟨g, 2, none⟩ (.slice lo5 (k + 1) lc5)) (n := w5.heap.size) 3 1 (by simp);
            have hr6 := hT6.here.below hb6;
            have hbx6 : Below w5.heap.size (w5.setCell ⟨g, 2, none⟩ (.slice lo5 (k + 1) lc5)) ((w5.setCell ⟨g, 2, none⟩ (.slice lo5 (k + 1) lc5)).alloc (.cells #[] 3)) := by simpa using hb6)
        | (refine wpList_appendN Ef3 rfl rfl hown6 rfl rfl hlT.out hzT'.out hr6 ones_one ones_cell (by simp; omega) (by decide) (by simp) ?_; intro v7 w7 hown7 hg7; have hb7 : Below w5.heap.size (w5.setCell ⟨g, 2, none⟩ (.slice lo5 (k + 1) lc5)) w7 := bapp hbx6 hown6 hg7 (by simp); have hs7 := hb7.size; rw [World.size_setCell] at hs7)
        | (refine wpList_append1 Ef3 rfl rfl hown7 rfl rfl (news := [.int .i64 1]) (by simp) rfl (by simp [Value.oneCell']) (by rw [List.nil_append, hlT.out]; omega) (by decide) hs7 ?_; intro v8 w8 hown8 hg8; have hb8 : Below w5.heap.size (w5.setCell ⟨g, 2, none⟩ (.slice lo5 (k + 1) lc5)) w8 := bapp hb7 hown7 hg8 hs7;
            have hb8' : Below (w5.setCell ⟨g, 2, none⟩ (.slice lo5 (k + 1) lc5)).heap.size (w5.setCell ⟨g, 2, none⟩ (.slice lo5 (k + 1) lc5)) w8 := (by simpa using hb8);
            obtain ⟨lo8, lc8, rfl, hlc8, hlm8, _, _⟩ := hown8.rown (n := k + 1) (by rw [List.nil_append, List.length_append, hlT.out]; rfl);
            obtain ⟨p1, p2, p3, p4⟩ := tab_set t1 hb8' 3 (.slice lo8 (k + 1) lc8);
            have e8 : w8.cell? ⟨g, 3, none⟩ = some (.slice tl k tc) := kept_cell hb8' (by rw [Lib.cell_of_heap t1]; rfl);
            have z8 : w8.frozen? ⟨g, 3, none⟩ = false := Lib.frozen_of_heap ((hb8'.block g (lt_of_block t1)).trans t1) 3))
      go_end0
      refine ⟨rfl, ⟨⟨lv, .slice lo5 (k + 1) lc5, .slice lo8 (k + 1) lc8, p1, ?_, ?_, ?_⟩, hlow, hsz.out⟩, grown_trans t2 p2⟩
      · exact p3 _ _ _ _ _ (by decide) (t3 _ _ _ _ _ (by decide) hL.out)
      · exact p3 _ _ _ _ _ (by decide) (t4 _ _ _ _ _ (by decide) (by simpa [strsB] using hown5.mono (by omega)))
      · have := p4 _ _ _ _ _ (by decide) (hown8.mono (B' := B) (by omega))
        rw [List.length_append, List.length_singleton, List.replicate_succ']
        simpa using this
end Go.Proofs.YtekbilieddficaaDoor
