/- Texts of this seat's proofs, laid into one file. -/
import Derived.Test.YtllbbacnakoomaaGreatDoorS13
set_option maxRecDepth 100000
set_option maxHeartbeats 16000000
namespace Go.Proofs.YtllbbacnakoomaaGreatDoor
open Go.RowKit
set_option linter.unusedVariables false
theorem assign_step {L : List Ct} {ta : Option Addr} {tc rb : Nat} {R : Rec} (G : Good L ta tc rb R) {w : World} {s : Ps} {nest : Nat} {n : T} {s' : Ps} (h : PS L ta tc rb s w) (hn : nest ≤ 1000) (hr : assignF L R nest s = some (n, s')) :
 Calls Tryz.prog 138 #[.pointer (some ⟨rb, 0, none⟩), .int .i64 nest] w (NdRet L ta tc rb w n s') := by
 have hb := fun o => (Below.refl w.heap.size w).alloc (Nat.le_refl _) o
 have hlt := h.lt
 have HD := Hd (rdeep_any (h.below (hb (.cells #[.string ⟨#[]⟩, .string ⟨#[]⟩, .int .i64 0, .int .i64 0, .slice none 0 0] 50 (0,0)))) nest (by omega))
 have g1 : IntKind.i64.wrap ((nest : Int) + 1) = ((nest + 1 : Nat) : Int) := by rw [IntWalk.i64_in _ (by omega)]; omega
 unfold assignF at hr
 cases hd : s.deep nest with
 | true =>
   rw [hd, if_pos rfl] at hr HD
   obtain ⟨rfl, rfl⟩ := Prod.mk.inj (Option.some.inj hr)
   go_enter Tryz.func138, Tryz.ntmps138
   go_wp2_with fail
   refine HD.out.mono ?_
   rintro e w1 ⟨rfl, h1, hg1⟩
   have hc := kp_block hg1 (heap_alloc_new w _) (by omega)
   have hk := kp_pb (hb _) hg1
   obtain ⟨q0, q1, q2, q3, q4, qf⟩ := nd_cells hc
   replace h1 := Hd h1
   replace hk := Hd hk
   go_wp2_with (refine wpList_store_row rfl 50 _ _ rfl w.heap.size _ rfl rfl 50 _ hc info_nd rfl (by simp [Value.oneCell']) ?_)
   refine bodyPost_ret (results_cell_row rfl _ _ w.heap.size 50 _ (0,0) _ rfl (setRow_heap _ _ _ _ _ _ hc) Tryz.underlying50 rfl (by kernel_rfl)) rfl ?_
   exact ⟨none, 0, rfl, NdAt.zero _ _, h1.out.row hc rfl _, kp_row hk.out (Nat.le_refl _) _⟩
 | false =>
   have hn200 : nest + 1 ≤ 1000 := by unfold Ps.deep at hd; simp at hd; omega
   rw [hd, if_neg (by simp)] at hr HD
   obtain ⟨⟨⟨n1, un⟩, s1⟩, hr1, hr2⟩ := Option.bind_eq_some_iff.1 hr
   simp only at hr2
   replace hr := Hd hr
   go_enter Tryz.func138, Tryz.ntmps138
   go_wp2_with fail
   refine HD.out.mono ?_
   rintro e w1 ⟨rfl, h1, hg1⟩
   have hc := kp_block hg1 (heap_alloc_new w _) (by omega)
   have hk := kp_pb (hb _) hg1
   have HA := Hd (G.cond h1 hn200 hr1)
   replace hk := Hd hk
   replace hr2 := Hd hr2
   obtain ⟨g, hg⟩ : ∃ g, g = w.heap.size := ⟨_, rfl⟩
   rw [← hg] at hc
   have hrg : rb < g := by omega
   replace hg := Hd hg
   go_wp2_with fail
   rw [← hg.out]
   refine HA.out.mono ?_
   rintro e w2 ⟨ao, cap, rfl, hn2, h2, hg2⟩
   have hc2 := kp_block hg2 hc (by omega)
   have hgw : g < w1.heap.size := lt_of_block hc
   have hV := Hd (VarAt.put hc2 (hn2.mono hgw))
   have h3 := Hd (h2.row hc2 rfl (ndC n1 ao cap).toArray)
   have hk3 := Hd (kp_row (grown_trans hk.out hg2) (Nat.le_of_eq hg.out.symm) (ndC n1 ao cap).toArray)
   unfold ndV
   go_upto_region 4 with (refine wpList_store_row rfl 50 _ _ rfl g _ rfl rfl 50 _ hc2 info_nd rfl (by simp [Value.oneCell']) ?_)
   obtain ⟨W3, hW3⟩ : ∃ W3, W3 = w2.setRow g (ndC n1 ao cap).toArray := ⟨_, rfl⟩
   rw [← hW3] at hV h3 hk3
   rw [show w2.setRow g #[Value.string n1.kind, .string n1.text, .int .i64 n1.from_, .int .i64 n1.to_, .slice ao n1.kids.length cap] = W3 from hW3.symm]
   replace hW3 := Hd hW3
   have HT := Hd (tok_any h3.out)
   obtain ⟨t, ht⟩ : ∃ t, t = tokP L s1.at_ := ⟨_, rfl⟩
   rw [← ht] at HT
   have hr2' := hr2.out
   rw [← ht] at hr2'
   unfold ctV at HT
   replace ht := Hd ht
   go_wp2_with fail
   refine HT.out.mono ?_
   rintro e w4 ⟨rfl, hb4⟩
   obtain ⟨W5, hW5⟩ : ∃ W5, W5 = w4.alloc (.cells #[.int .i64 t.kind, .string t.text, .string t.file, .int .i64 t.f, .int .i64 t.t, .int .i64 t.fro, .int .i64 t.cnt] 95) := ⟨_, rfl⟩
   have b45 : Below w4.heap.size w4 W5 := by rw [hW5]; exact (Below.refl w4.heap.size w4).alloc (Nat.le_refl _) _
   have b35 := hb4.trans (b45.mono hb4.size)
   have hx5 : W5.heap[w4.heap.size]? = some (.cells #[.int .i64 t.kind, .string t.text, .string t.file, .int .i64 t.f, .int .i64 t.t, .int .i64 t.fro, .int .i64 t.cnt] 95 (0,0)) := by rw [hW5]; exact heap_alloc_new w4 _
   obtain ⟨gt, hgt⟩ : ∃ g, g = w4.heap.size := ⟨_, rfl⟩
   rw [← hgt] at hx5
   have hV5 := Hd (hV.out.below b35)
   have h5 := Hd (h3.out.below b35)
   have hk5 := Hd (kp_bp hk3.out b35)
   obtain ⟨p5, he5, c0, c1, c2, c3, cf⟩ := h5.out.cells
   clear he5
   have x0 : W5.cell? ⟨gt, 0, none⟩ = some (.int .i64 t.kind) := by rw [Lib.cell_of_heap hx5]; rfl
   have x1 : W5.cell? ⟨gt, 1, none⟩ = some (.string t.text) := by rw [Lib.cell_of_heap hx5]; rfl
   have HAs := Hd (assigns_any t.text W5)
   replace hx5 := Hd hx5
   replace hgt := Hd hgt
   replace hW5 := Hd hW5
   clear hr2 hV h3 hk3 HT b45
   go_upto_region 5 with fail
   rw [← hW5.out, ← hgt.out]
   have hcc := hV5.out.blk
   unfold ndC at hcc
   obtain ⟨q0, q1, q2, q3, q4, qf⟩ := hV5.out.cells
   have hcase : s1.bad = true ∨ (s1.bad = false ∧ un = false) ∨ (s1.bad = false ∧ un = true ∧ t.kind ≠ 7) ∨ (s1.bad = false ∧ un = true ∧ t.kind = 7) := by
    cases s1.bad <;> cases un <;> simp
    by_cases h : t.kind = 7 <;> simp [h]
   rcases hcase with hb0 | ⟨hb0, rfl⟩ | ⟨hb0, rfl, hk7⟩ | ⟨hb0, rfl, hk7⟩
   ·rw [if_pos (.inl hb0)] at hr2'
    obtain ⟨rfl, rfl⟩ := Prod.mk.inj (Option.some.inj hr2')
    rw [hb0] at c3
    clear HAs
    go_wp2_with (refine wpList_store_row rfl 50 _ _ rfl g _ rfl rfl 50 _ hcc info_nd rfl (by simp [Value.oneCell']) ?_)
    refine bodyPost_ret (results_cell_row rfl _ _ g 50 _ (0,0) _ rfl (setRow_heap _ _ _ _ _ _ hcc) Tryz.underlying50 rfl (by kernel_rfl)) rfl ?_
    exact ⟨ao, cap, rfl, (hV5.out.nd.other (fun k hk => row_other _ hk) (Nat.lt_succ_self _)).mono (by rw [hg.out]; omega), h5.out.row hcc rfl _, kp_row hk5.out (Nat.le_of_eq hg.out.symm) _⟩
   ·rw [if_pos (.inr (.inl rfl))] at hr2'
    obtain ⟨rfl, rfl⟩ := Prod.mk.inj (Option.some.inj hr2')
    rw [hb0] at c3
    clear HAs
    go_wp2_with (refine wpList_store_row rfl 50 _ _ rfl g _ rfl rfl 50 _ hcc info_nd rfl (by simp [Value.oneCell']) ?_)
    refine bodyPost_ret (results_cell_row rfl _ _ g 50 _ (0,0) _ rfl (setRow_heap _ _ _ _ _ _ hcc) Tryz.underlying50 rfl (by kernel_rfl)) rfl ?_
    exact ⟨ao, cap, rfl, (hV5.out.nd.other (fun k hk => row_other _ hk) (Nat.lt_succ_self _)).mono (by rw [hg.out]; omega), h5.out.row hcc rfl _, kp_row hk5.out (Nat.le_of_eq hg.out.symm) _⟩
   ·rw [if_pos (.inr (.inr (.inl hk7)))] at hr2'
    have hk7' : (t.kind != 7) = true := by simpa using hk7
    obtain ⟨rfl, rfl⟩ := Prod.mk.inj (Option.some.inj hr2')
    rw [hb0] at c3
    clear HAs
    go_wp2_with (refine wpList_store_row rfl 50 _ _ rfl g _ rfl rfl 50 _ hcc info_nd rfl (by simp [Value.oneCell']) ?_)
    refine bodyPost_ret (results_cell_row rfl _ _ g 50 _ (0,0) _ rfl (setRow_heap _ _ _ _ _ _ hcc) Tryz.underlying50 rfl (by kernel_rfl)) rfl ?_
    exact ⟨ao, cap, rfl, (hV5.out.nd.other (fun k hk => row_other _ hk) (Nat.lt_succ_self _)).mono (by rw [hg.out]; omega), h5.out.row hcc rfl _, kp_row hk5.out (Nat.le_of_eq hg.out.symm) _⟩
   ·rw [hb0] at c3
    rw [hk7] at x0
    generalize hcb : (assignsL.any fun x => decide (x = t.text)) = cb at HAs hr2'
    replace hcb := Hd hcb
    cases cb with
    | false =>
      rw [if_pos (.inr (.inr (.inr rfl)))] at hr2'
      obtain ⟨rfl, rfl⟩ := Prod.mk.inj (Option.some.inj hr2')
      go_wp2_with fail
      refine HAs.out.mono ?_
      rintro e w6 ⟨rfl, hb6⟩
      have hV6 := Hd (hV5.out.below hb6)
      have h6 := Hd (h5.out.below hb6)
      have hk6 := Hd (kp_bp hk5.out hb6)
      have hcd := hV6.out.blk
      unfold ndC at hcd
      obtain ⟨r0, r1, r2, r3, r4, rf⟩ := hV6.out.cells
      clear hV5 h5 hk5 hcc q0 q1 q2 q3 q4 qf c0 c1 c2 c3 cf x0 x1
      go_wp2_with (refine wpList_store_row rfl 50 _ _ rfl g _ rfl rfl 50 _ hcd info_nd rfl (by simp [Value.oneCell']) ?_)
      refine bodyPost_ret (results_cell_row rfl _ _ g 50 _ (0,0) _ rfl (setRow_heap _ _ _ _ _ _ hcd) Tryz.underlying50 rfl (by kernel_rfl)) rfl ?_
      exact ⟨ao, cap, rfl, (hV6.out.nd.other (fun k hk => row_other _ hk) (Nat.lt_succ_self _)).mono (by rw [hg.out]; omega), h6.out.row hcd rfl _, kp_row hk6.out (Nat.le_of_eq hg.out.symm) _⟩
    | true =>
      rw [if_neg (by rintro (h | h | h | h) <;> simp_all)] at hr2'
      obtain ⟨⟨b, z2⟩, hb1, hb2⟩ := Option.bind_eq_some_iff.1 hr2'
      obtain ⟨rfl, rfl⟩ := Prod.mk.inj (Option.some.inj hb2)
      simp only
      replace hr2' := Hd hr2'
      replace hb2 := Hd hb2
      have hin := tok_in (L := L) (i := s1.at_) (by rw [← ht.out, hk7]; decide)
      have hlen := h5.out.len
      have g2 : IntKind.i64.wrap (s1.at_ + 1) = s1.at_ + 1 := IntWalk.i64_in _ (by omega)
      have hu1 : -1 ≤ s1.at_ + 1 := by omega
      have hu2 := hin.2.1
      clear hin hlen
      go_wp2_with fail
      refine HAs.out.mono ?_
      rintro e w6 ⟨rfl, hb6⟩
      have h6 := h5.out.below hb6
      obtain ⟨p6, he6, d0, d1, d2, d3, df⟩ := h6.cells
      have y1 := kept_cell hb6 x1
      obtain ⟨W7, hW7⟩ : ∃ W7, W7 = w6.setCell ⟨rb, 1, none⟩ (.int .i64 (s1.at_ + 1)) := ⟨_, rfl⟩
      have k67 : w6.grownBy W7 (some rb) := by rw [hW7]; exact kp_set _ _ _ _
      have h7 : PS L ta tc rb (s1.up 1) W7 := by rw [hW7]; exact h6.up (n := 1) hu1 hu2
      have hgt2 : some gt ≠ some rb := by
       intro e
       have e' := Option.some.inj e
       obtain ⟨q, hq, _⟩ := h5.out.rd
       have := hq.symm.trans (e' ▸ hx5.out)
       injection this with this
       injection this with _ this _
       revert this
       decide
      have y1' := k67.cell y1 hgt2
      have hV7 := Hd ((hV5.out.below hb6).kp k67 hrg)
      have hk7k := Hd (grown_trans (kp_bp hk5.out hb6) k67)
      have HA2 := Hd (G.assign h7 hn200 hb1)
      replace hb1 := Hd hb1
      replace h7 := Hd h7
      replace k67 := Hd k67
      clear he6 h6 hV5 h5 hk5 hcc q0 q1 q2 q3 q4 qf c0 c1 c2 c3 cf x0
      go_wp2_with fail
      rw [← hW7]
      replace hW7 := Hd hW7
      clear d0 d1 d2 d3 df y1 x1
      refine HA2.out.mono ?_
      rintro e w8 ⟨ao2, cap2, rfl, hn8, h8, hg8⟩
      have hgw7 : g < W7.heap.size := lt_of_block hV7.out.blk
      have hV8 := hV7.out.kp hg8 hrg
      have hk8 := Hd (grown_trans hk7k.out hg8)
      have z1 := hg8.cell y1' hgt2
      obtain ⟨q0, q1, q2, q3, q4, qf⟩ := hV8.cells
      have hgw8 : g < w8.heap.size := lt_of_block hV8.blk
      have hgt8 : gt < w8.heap.size := cell_lt z1
      obtain ⟨W9, hW9⟩ : ∃ W9, W9 = (w8.alloc (.cells #[.string b.kind, .string b.text, .int .i64 b.from_, .int .i64 b.to_, .slice ao2 b.kids.length cap2] 50)).alloc (.cells #[.string n1.kind, .string n1.text, .int .i64 n1.from_, .int .i64 n1.to_, .slice ao n1.kids.length cap, .string b.kind, .string b.text, .int .i64 b.from_, .int .i64 b.to_, .slice ao2 b.kids.length cap2] 50) := ⟨_, rfl⟩
      have b89 := fun o => (Below.refl w8.heap.size w8).alloc (Nat.le_refl _) o
      have b8 : Below w8.heap.size w8 W9 := by rw [hW9]; exact (b89 _).alloc (by simp) _
      have hK9 : KdAt W9 (g + 1) [n1, b] (.slice (some ⟨w8.heap.size + 1,0, none⟩) 2 2) := by
       have hR : Reps (w8.alloc (.cells #[.string b.kind, .string b.text, .int .i64 b.from_, .int .i64 b.to_, .slice ao2 b.kids.length cap2] 50)) (fun k => g + 1 ≤ k) [n1, b] [ndC n1 ao cap, ndC b ao2 cap2] := .cons (hV8.nd.below (b89 _)) (.cons ((hn8.mono hgw7).below (b89 _)) .nil)
       have := KdAt.lit hR (by simp; omega) (by simp)
       rw [World.size_alloc] at this
       rw [hW9]
       exact this
      have HM := Hd (rMake_any (h8.below b8) (⟨#[97,115,115,105,103,110]⟩ : ByteArray) t.text n1.from_ (some ⟨w8.heap.size + 1,0, none⟩) 2 2)
      replace hV8 := Hd hV8
      replace hK9 := Hd hK9
      replace hn8 := Hd hn8
      replace h8 := Hd h8
      unfold ndV
      go_wp2_with fail
      rw [← hW9]
      replace hW9 := Hd hW9
      refine HM.out.mono ?_
      rintro e wA ⟨rfl, hbA⟩
      have b8A := b8.trans (hbA.mono b8.size)
      have hVA := hV8.out.below b8A
      have hA := Hd (h8.out.below b8A)
      have hkA := Hd (kp_bp hk8.out b8A)
      have hKA := hK9.out.below hbA
      have hcc := hVA.blk
      unfold ndC at hcc
      have hnd := Hd (hKA.node (by simp) (⟨#[97,115,115,105,103,110]⟩ : ByteArray) t.text n1.from_ z2.at_)
      have hblk := Hd hVA.blk
      clear hVA hKA q0 q1 q2 q3 q4 qf z1
      go_wp2_with (refine wpList_store_row rfl 50 _ _ rfl g _ rfl rfl 50 _ hcc info_nd rfl (by simp [Value.oneCell']) ?_)
      refine bodyPost_ret (results_cell_row rfl _ _ g 50 _ (0,0) _ rfl (setRow_heap _ _ _ _ _ _ hcc) Tryz.underlying50 rfl (by kernel_rfl)) rfl ?_
      refine ⟨some ⟨w8.heap.size + 1,0, none⟩, 2, ?_, (hnd.out.other (fun k hk => row_other _ hk) (Nat.lt_succ_self _)).mono (by rw [hg.out]; omega), hA.out.row hcc rfl _, kp_row hkA.out (Nat.le_of_eq hg.out.symm) _⟩
      rfl
end Go.Proofs.YtllbbacnakoomaaGreatDoor
