/- Texts of this seat's proofs, laid into one file. -/
import Derived.Test.YtllbbacnakoomaaGreatDoorS14
import Derived.Laws.ResultCell
set_option maxRecDepth 100000
set_option maxHeartbeats 16000000
namespace Go.Proofs.YtllbbacnakoomaaGreatDoor
open Go.RowKit
set_option linter.unusedVariables false
theorem results_row_tmp {P : Program} {fn : Func} {p u : Tmp} {ty : TypeId} (h : fn.results = #[.cell p ty, .tmp u]) (tmps : Array Value) (w : World) (g : Nat) (t : TypeId) (cs : Array Value) (fr : Nat × Nat) (d : TypeDesc)
 (hp : tmps.getD p undef = .pointer (some ⟨g, 0, none⟩)) (hg : w.heap[g]? = some (.cells cs t fr))
 (hu : P.underlying ty = some d) (hd : (match d with | .struct _ | .array _ _ => true | _ => false) = true) (hi : (P.info? ty).map (·.size) = some cs.size) :
 (results fn tmps).run P w = .ok (.tuple #[.agg cs, tmps.getD u undef]) w := by
 rw [results_cell_tmp h, hp]
 simp [asAddr, run_loadVar_row w g t ty cs fr d hg hu hd hi, Result.andThen]
theorem rCond_any {L : List Ct} {ta : Option Addr} {tc rb : Nat} {R : Rec} (G : Good L ta tc rb R) {w : World} {s : Ps} {nest : Nat} {n : T × Bool} {s' : Ps} (h : PS L ta tc rb s w) (hn : nest ≤ 1000) (hr : R.cond nest s = some (n, s')) :
 Calls Tryz.prog 162 #[.pointer (some ⟨rb, 0, none⟩), .int .i64 nest] w (NdRet L ta tc rb w n.1 s') := by
 have hb := fun o => (Below.refl w.heap.size w).alloc (Nat.le_refl _) o
 have hlt := h.lt
 obtain ⟨W1, hW1⟩ : ∃ W1, W1 = w.alloc (.cells #[.string ⟨#[]⟩, .string ⟨#[]⟩, .int .i64 0, .int .i64 0, .slice none 0 0] 50) := ⟨_, rfl⟩
 have hb1 : Below w.heap.size w W1 := by rw [hW1]; exact hb _
 have hc1 : W1.heap[w.heap.size]? = some (.cells #[.string ⟨#[]⟩, .string ⟨#[]⟩, .int .i64 0, .int .i64 0, .slice none 0 0] 50 (0,0)) := by rw [hW1]; exact heap_alloc_new w _
 have HA := Hd (G.cond (h.below hb1) hn hr)
 obtain ⟨g, hg⟩ : ∃ g, g = w.heap.size := ⟨_, rfl⟩
 rw [← hg] at hc1
 have hrg : rb < g := by omega
 replace hg := Hd hg
 replace hb1 := Hd hb1
 obtain ⟨n1, un⟩ := n
 go_enter Tryz.func162, Tryz.ntmps162
 go_wp2_with fail
 rw [← hW1, ← hg.out]
 replace hW1 := Hd hW1
 refine HA.out.mono ?_
 rintro e w2 ⟨ao, cap, rfl, hn2, h2, hg2⟩
 have hc2 := kp_block hg2 hc1 (by omega)
 have hgw : g < W1.heap.size := lt_of_block hc1
 simp only at hn2
 have hc3 := fun o => (heap_alloc_old w2 o (lt_of_block hc2)).trans hc2
 have hb3 := fun o => (Below.refl w2.heap.size w2).alloc (Nat.le_refl _) o
 have hk2 := Hd (kp_pb hb1.out hg2)
 replace h2 := Hd h2
 replace hn2 := Hd hn2
 unfold ndV
 go_wp2_with (refine wpList_store_row rfl 50 _ _ rfl g _ rfl rfl 50 _ (hc3 _) info_nd rfl (by simp [Value.oneCell']) ?_)
 refine bodyPost_ret (results_cell_row rfl _ _ g 50 _ (0,0) _ rfl (setRow_heap _ _ _ _ _ _ (hc3 _)) Tryz.underlying50 rfl (by kernel_rfl)) rfl ?_
 exact ⟨ao, cap, rfl, (((hn2.out.below (hb3 _)).mono hgw).other (fun k hk => row_other _ hk) (Nat.lt_succ_self _)).mono (by rw [hg.out]; omega), (h2.out.below (hb3 _)).row (hc3 _) rfl _, kp_row (kp_bp hk2.out (hb3 _)) (Nat.le_of_eq hg.out.symm) _⟩
end Go.Proofs.YtllbbacnakoomaaGreatDoor
namespace Go.Proofs.YtllbbacnakoomaaGreatDoor
open Go.RowKit
set_option linter.unusedVariables false
theorem cond_step {L : List Ct} {ta : Option Addr} {tc rb : Nat} {R : Rec} (G : Good L ta tc rb R) {w : World} {s : Ps} {nest : Nat} {n : T × Bool} {s' : Ps} (h : PS L ta tc rb s w) (hn : nest ≤ 1000) (hr : condF L R nest s = some (n, s')) :
 Calls Tryz.prog 181 #[.pointer (some ⟨rb, 0, none⟩), .int .i64 nest] w (NdRetB L ta tc rb w n s') := by
 have hb := fun o => (Below.refl w.heap.size w).alloc (Nat.le_refl _) o
 have hlt := h.lt
 have HD := Hd (rdeep_any (h.below (hb (.cells #[.string ⟨#[]⟩, .string ⟨#[]⟩, .int .i64 0, .int .i64 0, .slice none 0 0] 50 (0,0)))) nest (by omega))
 have g1 : IntKind.i64.wrap ((nest : Int) + 1) = ((nest + 1 : Nat) : Int) := by rw [IntWalk.i64_in _ (by omega)]; omega
 unfold condF at hr
 cases hd : s.deep nest with
 | true =>
   rw [hd, if_pos rfl] at hr HD
   obtain ⟨rfl, rfl⟩ := Prod.mk.inj (Option.some.inj hr)
   go_enter Tryz.func181, Tryz.ntmps181
   go_wp2_with fail
   refine HD.out.mono ?_
   rintro e w1 ⟨rfl, h1, hg1⟩
   have hc := kp_block hg1 (heap_alloc_new w _) (by omega)
   have hk := kp_pb (hb _) hg1
   obtain ⟨q0, q1, q2, q3, q4, qf⟩ := nd_cells hc
   replace h1 := Hd h1
   replace hk := Hd hk
   go_wp2_with (refine wpList_store_row rfl 50 _ _ rfl w.heap.size _ rfl rfl 50 _ hc info_nd rfl (by simp [Value.oneCell']) ?_)
   refine bodyPost_ret (results_row_tmp rfl _ _ w.heap.size 50 _ (0,0) _ rfl (setRow_heap _ _ _ _ _ _ hc) Tryz.underlying50 rfl (by kernel_rfl)) rfl ?_
   exact ⟨none, 0, rfl, NdAt.zero _ _, h1.out.row hc rfl _, kp_row hk.out (Nat.le_refl _) _⟩
 | false =>
   have hn200 : nest + 1 ≤ 1000 := by unfold Ps.deep at hd; simp at hd; omega
   rw [hd, if_neg (by simp)] at hr HD
   obtain ⟨⟨⟨n1, un⟩, s1⟩, hr1, hr2⟩ := Option.bind_eq_some_iff.1 hr
   simp only at hr2
   replace hr := Hd hr
   go_enter Tryz.func181, Tryz.ntmps181
   go_wp2_with fail
   refine HD.out.mono ?_
   rintro e w1 ⟨rfl, h1, hg1⟩
   have hc := kp_block hg1 (heap_alloc_new w _) (by omega)
   have hk := kp_pb (hb _) hg1
   have HA : Hid (Calls Tryz.prog 210 #[.pointer (some ⟨rb, 0, none⟩), .int .i64 1, .int .i64 (nest + 1 : Nat)] w1 (NdRetB L ta tc rb w1 (n1, un) s1)) := Hd (G.binary (least := 1) h1 (by omega) hn200 hr1)
   replace hk := Hd hk
   replace hr2 := Hd hr2
   obtain ⟨g, hg⟩ : ∃ g, g = w.heap.size := ⟨_, rfl⟩
   rw [← hg] at hc
   have hrg : rb < g := by omega
   replace hg := Hd hg
   go_wp2_with fail
   rw [← hg.out]
   refine HA.out.mono ?_
   rintro e w2 ⟨ao, cap, rfl, hn2, h2, hg2⟩
   have hc2 := kp_block hg2 hc (by omega)
   have hgw : g < w1.heap.size := lt_of_block hc
   have hV := Hd (VarAt.put hc2 (hn2.mono hgw))
   have h3 := Hd (h2.row hc2 rfl (ndC n1 ao cap).toArray)
   have hk3 := Hd (kp_row (grown_trans hk.out hg2) (Nat.le_of_eq hg.out.symm) (ndC n1 ao cap).toArray)
   unfold ndV
   go_upto_region 4 with (refine wpList_store_row rfl 50 _ _ rfl g _ rfl rfl 50 _ hc2 info_nd rfl (by simp [Value.oneCell']) ?_)
   obtain ⟨W3, hW3⟩ : ∃ W3, W3 = w2.setRow g (ndC n1 ao cap).toArray := ⟨_, rfl⟩
   rw [← hW3] at hV h3 hk3
   rw [show w2.setRow g #[Value.string n1.kind, .string n1.text, .int .i64 n1.from_, .int .i64 n1.to_, .slice ao n1.kids.length cap] = W3 from hW3.symm]
   replace hW3 := Hd hW3
   have HH := Hd (rHas_any h3.out (⟨#[63]⟩ : ByteArray))
   have hr2' := hr2.out
   clear hr2
   cases hh : hasP L s1 (⟨#[63]⟩ : ByteArray) with
   | false =>
     rw [hh, if_neg (by simp)] at hr2' HH
     obtain ⟨rfl, rfl⟩ := Prod.mk.inj (Option.some.inj hr2')
     replace hr2' := Hd hr2'
     go_wp2_with fail
     refine HH.out.mono ?_
     rintro e w5 ⟨rfl, h5, hg5⟩
     have hV5 := hV.out.kp hg5 hrg
     have hk5 := Hd (grown_trans hk3.out hg5)
     have hcc := hV5.blk
     unfold ndC at hcc
     obtain ⟨q0, q1, q2, q3, q4, qf⟩ := hV5.cells
     replace h5 := Hd h5
     replace hV5 := Hd hV5
     go_wp2_with (refine wpList_store_row rfl 50 _ _ rfl g _ rfl rfl 50 _ hcc info_nd rfl (by simp [Value.oneCell']) ?_)
     refine bodyPost_ret (results_row_tmp rfl _ _ g 50 _ (0,0) _ rfl (setRow_heap _ _ _ _ _ _ hcc) Tryz.underlying50 rfl (by kernel_rfl)) rfl ?_
     exact ⟨ao, cap, rfl, (hV5.out.nd.other (fun k hk => row_other _ hk) (Nat.lt_succ_self _)).mono (by rw [hg.out]; omega), h5.out.row hcc rfl _, kp_row hk5.out (Nat.le_of_eq hg.out.symm) _⟩
   | true =>
     rw [hh, if_pos rfl] at hr2' HH
     obtain ⟨⟨a, s2⟩, ha1, ha2⟩ := Option.bind_eq_some_iff.1 hr2'
     obtain ⟨⟨⟨b, ub⟩, s3⟩, hb1, hb2⟩ := Option.bind_eq_some_iff.1 ha2
     obtain ⟨rfl, rfl⟩ := Prod.mk.inj (Option.some.inj hb2)
     simp only at hb1 ⊢
     replace hr2' := Hd hr2'
     replace ha2 := Hd ha2
     replace hb2 := Hd hb2
     replace hb1 := Hd hb1
     replace ha1 := Hd ha1
     go_wp2_with fail
     refine HH.out.mono ?_
     rintro e w5 ⟨rfl, h5, hg5⟩
     have hV5 := hV.out.kp hg5 hrg
     have hk5 := Hd (grown_trans hk3.out hg5)
     have HE := Hd (G.expr h5 hn200 ha1.out)
     have hgw5 : g < w5.heap.size := lt_of_block hV5.blk
     replace hV5 := Hd hV5
     clear hV h3 hk3 HH
     go_wp2_with fail
     refine HE.out.mono ?_
     rintro e w6 ⟨ao2, cap2, rfl, hn6, h6, hg6⟩
     have hV6 := hV5.out.kp hg6 hrg
     have hk6 := grown_trans hk5.out hg6
     have hgw6 : g < w6.heap.size := lt_of_block hV6.blk
     obtain ⟨W7, hW7⟩ : ∃ W7, W7 = w6.alloc (.cells #[.string a.kind, .string a.text, .int .i64 a.from_, .int .i64 a.to_, .slice ao2 a.kids.length cap2] 50) := ⟨_, rfl⟩
     have b67 : Below w6.heap.size w6 W7 := by rw [hW7]; exact (Below.refl w6.heap.size w6).alloc (Nat.le_refl _) _
     have hA7 : W7.heap[w6.heap.size]? = some (.cells #[.string a.kind, .string a.text, .int .i64 a.from_, .int .i64 a.to_, .slice ao2 a.kids.length cap2] 50 (0,0)) := by rw [hW7]; exact heap_alloc_new w6 _
     obtain ⟨ga, hga⟩ : ∃ g, g = w6.heap.size := ⟨_, rfl⟩
     rw [← hga] at hA7
     have hra : ga ≠ rb := by have := h6.lt; omega
     have hV7 := Hd (hV6.below b67)
     have hk7 := Hd (kp_bp hk6 b67)
     have hn7 := Hd ((hn6.mono (B' := g + 1) hgw5).below b67)
     have HN := Hd (rNeed_any (h6.below b67) (⟨#[58]⟩ : ByteArray))
     replace hA7 := Hd hA7
     replace hga := Hd hga
     clear hV6 hk6 hn6 h6 hg6 HE hV5 hk5 h5 hg5
     unfold ndV
     go_wp2_with fail
     rw [← hW7, ← hga.out]
     replace hW7 := Hd hW7
     refine HN.out.mono ?_
     rintro e w8 ⟨rfl, h8, hg8⟩
     have hV8 := Hd (hV7.out.kp hg8 hrg)
     have hk8 := Hd (grown_trans hk7.out hg8)
     have hn8 := Hd (hn7.out.kp hg8 (by omega))
     have hA8 := Hd (kp_block hg8 hA7.out hra)
     have HC := Hd (rCond_any G h8 hn200 hb1.out)
     have hgw8 : g < w8.heap.size := lt_of_block hV8.out.blk
     clear hV7 hk7 hn7 hA7 HN h8 hg8
     go_wp2_with fail
     refine HC.out.mono ?_
     rintro e w9 ⟨ao3, cap3, rfl, hn9, h9, hg9⟩
     have hV9 := hV8.out.kp hg9 hrg
     have hk9 := Hd (grown_trans hk8.out hg9)
     have hnA := hn8.out.kp hg9 (by omega)
     have hA9 := kp_block hg9 hA8.out hra
     obtain ⟨q0, q1, q2, q3, q4, qf⟩ := hV9.cells
     obtain ⟨r0, r1, r2, r3, r4, rf⟩ := nd_cells hA9
     have hgw9 : g < w9.heap.size := lt_of_block hV9.blk
     have hga9 : ga < w9.heap.size := lt_of_block hA9
     obtain ⟨WB, hWB⟩ : ∃ WB, WB = (w9.alloc (.cells #[.string b.kind, .string b.text, .int .i64 b.from_, .int .i64 b.to_, .slice ao3 b.kids.length cap3] 50)).alloc (.cells #[.string n1.kind, .string n1.text, .int .i64 n1.from_, .int .i64 n1.to_, .slice ao n1.kids.length cap, .string a.kind, .string a.text, .int .i64 a.from_, .int .i64 a.to_, .slice ao2 a.kids.length cap2, .string b.kind, .string b.text, .int .i64 b.from_, .int .i64 b.to_, .slice ao3 b.kids.length cap3] 50) := ⟨_, rfl⟩
     have b9A := fun o => (Below.refl w9.heap.size w9).alloc (Nat.le_refl _) o
     have b9 : Below w9.heap.size w9 WB := by rw [hWB]; exact (b9A _).alloc (by simp) _
     have hKB : KdAt WB (g + 1) [n1, a, b] (.slice (some ⟨w9.heap.size + 1,0, none⟩) 3 3) := by
      have hR : Reps (w9.alloc (.cells #[.string b.kind, .string b.text, .int .i64 b.from_, .int .i64 b.to_, .slice ao3 b.kids.length cap3] 50)) (fun k => g + 1 ≤ k) [n1, a, b] [ndC n1 ao cap, ndC a ao2 cap2, ndC b ao3 cap3] := .cons (hV9.nd.below (b9A _)) (.cons (hnA.below (b9A _)) (.cons ((hn9.mono hgw8).below (b9A _)) .nil))
      have := KdAt.lit hR (by simp; omega) (by simp)
      rw [World.size_alloc] at this
      rw [hWB]
      exact this
     have HM := Hd (rMake_any (h9.below b9) (⟨#[99,111,110,100]⟩ : ByteArray) ⟨#[]⟩ n1.from_ (some ⟨w9.heap.size + 1,0, none⟩) 3 3)
     replace hV9 := Hd hV9
     replace hKB := Hd hKB
     replace hn9 := Hd hn9
     replace hnA := Hd hnA
     replace h9 := Hd h9
     replace hA9 := Hd hA9
     clear hV8 hk8 hn8 hA8 HC
     unfold ndV
     go_wp2_with fail
     rw [← hWB]
     replace hWB := Hd hWB
     refine HM.out.mono ?_
     rintro e wC ⟨rfl, hbC⟩
     have b9C := b9.trans (hbC.mono b9.size)
     have hVC := hV9.out.below b9C
     have hC := Hd (h9.out.below b9C)
     have hkC := Hd (kp_bp hk9.out b9C)
     have hKC := hKB.out.below hbC
     have hcc := hVC.blk
     unfold ndC at hcc
     have hnd := Hd (hKC.node (by simp) (⟨#[99,111,110,100]⟩ : ByteArray) ⟨#[]⟩ n1.from_ s3.at_)
     clear hVC hKC q0 q1 q2 q3 q4 qf r0 r1 r2 r3 r4 rf
     go_wp2_with (refine wpList_store_row rfl 50 _ _ rfl g _ rfl rfl 50 _ hcc info_nd rfl (by simp [Value.oneCell']) ?_)
     refine bodyPost_ret (results_row_tmp rfl _ _ g 50 _ (0,0) _ rfl (setRow_heap _ _ _ _ _ _ hcc) Tryz.underlying50 rfl (by kernel_rfl)) rfl ?_
     exact ⟨some ⟨w9.heap.size + 1,0, none⟩, 3, rfl, (hnd.out.other (fun k hk => row_other _ hk) (Nat.lt_succ_self _)).mono (by rw [hg.out]; omega), hC.out.row hcc rfl _, kp_row hkC.out (Nat.le_of_eq hg.out.symm) _⟩
end Go.Proofs.YtllbbacnakoomaaGreatDoor
namespace Go.Proofs.YtllbbacnakoomaaGreatDoor
open Go.RowKit
set_option linter.unusedVariables false
theorem level_le (t : Ct) : levelT t ≤ 10 := by
 unfold levelT
 split
 ·cases h : levelRows.findIdx? (fun r => r.any fun x => decide (x = t.text)) with
  | none => simp
  | some i =>
    obtain ⟨h1, _⟩ := List.findIdx?_eq_some_iff_getElem.1 h
    have : i < 10 := h1
    simp
    omega
 ·omega
theorem binary_step {L : List Ct} {ta : Option Addr} {tc rb : Nat} {R : Rec} (G : Good L ta tc rb R) {w : World} {s : Ps} {least nest : Nat} {n : T × Bool} {s' : Ps} (h : PS L ta tc rb s w) (hl : least ≤ 1000) (hn : nest ≤ 1000) (hr : binaryF L R least nest s = some (n, s')) :
 Calls Tryz.prog 210 #[.pointer (some ⟨rb, 0, none⟩), .int .i64 least, .int .i64 nest] w (NdRetB L ta tc rb w n s') := by
 have hlt := h.lt
 obtain ⟨W1, hW1⟩ : ∃ W1, W1 = w.alloc (.cells #[.string ⟨#[]⟩, .string ⟨#[]⟩, .int .i64 0, .int .i64 0, .slice none 0 0] 50) := ⟨_, rfl⟩
 have hb1 : Below w.heap.size w W1 := by rw [hW1]; exact (Below.refl w.heap.size w).alloc (Nat.le_refl _) _
 have hc1 : W1.heap[w.heap.size]? = some (.cells #[.string ⟨#[]⟩, .string ⟨#[]⟩, .int .i64 0, .int .i64 0, .slice none 0 0] 50 (0,0)) := by rw [hW1]; exact heap_alloc_new w _
 unfold binaryF at hr
 obtain ⟨⟨⟨n1, un⟩, s1⟩, hr1, hr2⟩ := Option.bind_eq_some_iff.1 hr
 simp only at hr2
 replace hr := Hd hr
 replace hr2 := Hd hr2
 have HA := Hd (G.cast (h.below hb1) hn hr1)
 obtain ⟨g, hg⟩ : ∃ g, g = w.heap.size := ⟨_, rfl⟩
 rw [← hg] at hc1
 have hrg : rb < g := by omega
 replace hg := Hd hg
 replace hb1 := Hd hb1
 go_enter Tryz.func210, Tryz.ntmps210
 go_wp2_with fail
 rw [← hW1, ← hg.out]
 replace hW1 := Hd hW1
 refine HA.out.mono ?_
 rintro e w2 ⟨ao, cap, rfl, hn2, h2, hg2⟩
 have hc2 := kp_block hg2 hc1 (by omega)
 have hgw : g < W1.heap.size := lt_of_block hc1
 have hV := Hd (VarAt.put hc2 (hn2.mono hgw))
 have h3 := Hd (h2.row hc2 rfl (ndC n1 ao cap).toArray)
 have hk3 := Hd (kp_row (kp_pb hb1.out hg2) (Nat.le_of_eq hg.out.symm) (ndC n1 ao cap).toArray)
 unfold ndV
 go_wp2_with (refine wpList_store_row rfl 50 _ _ rfl g _ rfl rfl 50 _ hc2 info_nd rfl (by simp [Value.oneCell']) ?_)
 obtain ⟨W3, hW3⟩ : ∃ W3, W3 = w2.setRow g (ndC n1 ao cap).toArray := ⟨_, rfl⟩
 rw [← hW3] at hV h3 hk3
 rw [show w2.setRow g #[Value.string n1.kind, .string n1.text, .int .i64 n1.from_, .int .i64 n1.to_, .slice ao n1.kids.length cap] = W3 from hW3.symm]
 replace hW3 := Hd hW3
 try dsimp only [Act.put]
 go_loopg [7] KK (fun q v7 wx => ∃ (m : T) (u : Bool) (z : Ps) (ao : Option Addr) (cap : Nat), v7 = .bool u ∧ Hid (VarAt wx g m ao cap) ∧ Hid (PS L ta tc rb z wx) ∧ Hid (w.grownBy wx (some rb)) ∧ Hid (binLoop L R least nest q (m, u) z = some (n, s')))
 case atStart => exact ⟨n1, un, s1, ao, cap, rfl, hV, h3, hk3, hr2⟩
 case round =>
  have hVx := hV
  clear hVx hV h3 hk3
  obtain ⟨m, u, z, ao, cap, rfl, hV, h3, hk3, hL⟩ := hrel
  obtain ⟨w4, hw4⟩ : ∃ w4, w4 = wr := ⟨_, rfl⟩
  subst hw4
  cases gk with
  | zero => exact absurd hL.out (by simp [binLoop])
  | succ gk =>
    have hL2 := hL.out
    unfold binLoop at hL2
    obtain ⟨p4, he4, c0, c1, c2, c3, cf⟩ := h3.out.cells
    clear he4 c0 c1 c2
    cases hbad : z.bad with
    | true =>
      rw [if_pos (.inl hbad)] at hL2
      obtain ⟨rfl, rfl⟩ := Prod.mk.inj (Option.some.inj hL2)
      rw [hbad] at c3
      replace hL2 := Hd hL2
      have hcc := hV.out.blk
      unfold ndC at hcc
      obtain ⟨q0, q1, q2, q3, q4, qf⟩ := hV.out.cells
      go_wp2_with (refine wpList_store_row rfl 50 _ _ rfl g _ rfl rfl 50 _ hcc info_nd rfl (by simp [Value.oneCell']) ?_)
      refine bodyPost_ret (results_row_tmp rfl _ _ g 50 _ (0,0) _ rfl (setRow_heap _ _ _ _ _ _ hcc) Tryz.underlying50 rfl (by kernel_rfl)) rfl ?_
      exact ⟨ao, cap, rfl, (hV.out.nd.other (fun k hk => row_other _ hk) (Nat.lt_succ_self _)).mono (by rw [hg.out]; omega), h3.out.row hcc rfl _, kp_row hk3.out (Nat.le_of_eq hg.out.symm) _⟩
    | false =>
      rw [hbad] at c3
      have HT := Hd (tok_any h3.out)
      obtain ⟨t, ht⟩ : ∃ t, t = tokP L z.at_ := ⟨_, rfl⟩
      rw [← ht] at HT hL2
      unfold ctV at HT
      replace ht := Hd ht
      go_wp2_with fail
      refine HT.out.mono ?_
      rintro e w5 ⟨rfl, hb5⟩
      obtain ⟨W6, hW6⟩ : ∃ W6, W6 = w5.alloc (.cells #[.int .i64 t.kind, .string t.text, .string t.file, .int .i64 t.f, .int .i64 t.t, .int .i64 t.fro, .int .i64 t.cnt] 95) := ⟨_, rfl⟩
      have b56 : Below w5.heap.size w5 W6 := by rw [hW6]; exact (Below.refl w5.heap.size w5).alloc (Nat.le_refl _) _
      have b46 := hb5.trans (b56.mono hb5.size)
      have hx6 : W6.heap[w5.heap.size]? = some (.cells #[.int .i64 t.kind, .string t.text, .string t.file, .int .i64 t.f, .int .i64 t.t, .int .i64 t.fro, .int .i64 t.cnt] 95 (0,0)) := by rw [hW6]; exact heap_alloc_new w5 _
      obtain ⟨gt, hgt⟩ : ∃ g, g = w5.heap.size := ⟨_, rfl⟩
      rw [← hgt] at hx6
      have HLv := level_any (h3.out.below b46).tab t
      have hle := level_le t
      have hk7 : levelT t ≠ 0 → t.kind = 7 := by
       intro h
       unfold levelT at h
       by_cases h7 : t.kind = 7
       ·exact h7
       ·rw [if_neg h7] at h; exact absurd rfl h
      generalize levelT t = lv at HLv hle hk7 hL2
      unfold ctV at HLv
      replace HLv := Hd HLv
      replace hk7 := Hd hk7
      replace hx6 := Hd hx6
      replace hgt := Hd hgt
      replace b46 := Hd b46
      clear b56 HT c3
      go_wp2_with fail
      rw [← hW6, ← hgt.out]
      replace hW6 := Hd hW6
      refine HLv.out.mono ?_
      rintro e w7 ⟨rfl, hb7⟩
      have b47 := b46.out.trans (hb7.mono b46.out.size)
      have hV7 := Hd (hV.out.below b47)
      have h7 := Hd (h3.out.below b47)
      have hk7k := Hd (kp_bp hk3.out b47)
      have hx7 := Hd ((hb7.block _ (lt_of_block hx6.out)).trans hx6.out)
      clear hV h3 hk3 hb5 hb7 b47 HLv
      by_cases hA : lv = 0 ∨ lv < least
      ·rw [if_pos (.inr (by rcases hA with h | h; exact .inl h; exact .inr h))] at hL2
       obtain ⟨rfl, rfl⟩ := Prod.mk.inj (Option.some.inj hL2)
       replace hL2 := Hd hL2
       have hd : ((lv : Int) == 0) = true ∨ (((lv : Int) == 0) = false ∧ (lv : Int) < (least : Int)) := by
        rcases hA with h | h
        ·left; rw [h]; rfl
        ·by_cases h0 : lv = 0
         ·left; rw [h0]; rfl
         ·right; exact ⟨beq_false_of_ne (by omega), by omega⟩
       clear hA
       rcases hd with hd | ⟨hd, hd2⟩
       all_goals
        have hcc := hV7.out.blk
        unfold ndC at hcc
        obtain ⟨q0, q1, q2, q3, q4, qf⟩ := hV7.out.cells
        go_wp2_with (refine wpList_store_row rfl 50 _ _ rfl g _ rfl rfl 50 _ hcc info_nd rfl (by simp [Value.oneCell']) ?_)
        refine bodyPost_ret (results_row_tmp rfl _ _ g 50 _ (0,0) _ rfl (setRow_heap _ _ _ _ _ _ hcc) Tryz.underlying50 rfl (by kernel_rfl)) rfl ?_
        exact ⟨ao, cap, rfl, (hV7.out.nd.other (fun k hk => row_other _ hk) (Nat.lt_succ_self _)).mono (by rw [hg.out]; omega), h7.out.row hcc rfl _, kp_row hk7k.out (Nat.le_of_eq hg.out.symm) _⟩
      ·rw [if_neg (by rintro (h | h | h); rw [hbad] at h; cases h; exact hA (.inl h); exact hA (.inr h))] at hL2
       have hA0 : lv ≠ 0 := fun h => hA (.inl h)
       have hA1 : ¬ lv < least := fun h => hA (.inr h)
       clear hA
       have hkt := hk7.out hA0
       have e1 : ((lv : Int) == 0) = false := beq_false_of_ne (by omega)
       have e2 : ¬ (lv : Int) < (least : Int) := by omega
       have hin := tok_in (L := L) (i := z.at_) (by rw [← ht.out, hkt]; decide)
       have hlen := h7.out.len
       have g2 : IntKind.i64.wrap (z.at_ + 1) = z.at_ + 1 := IntWalk.i64_in _ (by omega)
       have g3 : IntKind.i64.wrap ((lv : Int) + 1) = ((lv + 1 : Nat) : Int) := by rw [IntWalk.i64_in _ (by omega)]; omega
       have hu1 : -1 ≤ z.at_ + 1 := by omega
       have hu2 := hin.2.1
       clear hin hlen
       obtain ⟨⟨⟨b, ub⟩, z2⟩, hq1, hq2⟩ := Option.bind_eq_some_iff.1 hL2
       simp only at hq2
       replace hL2 := Hd hL2
       replace hq2 := Hd hq2
       obtain ⟨p7, he7, d0, d1, d2, d3, df⟩ := h7.out.cells
       have x1 : w7.cell? ⟨gt, 1, none⟩ = some (.string t.text) := by rw [Lib.cell_of_heap hx7.out]; rfl
       obtain ⟨W8, hW8⟩ : ∃ W8, W8 = w7.setCell ⟨rb, 1, none⟩ (.int .i64 (z.at_ + 1)) := ⟨_, rfl⟩
       have k78 : w7.grownBy W8 (some rb) := by rw [hW8]; exact kp_set _ _ _ _
       have h8 : PS L ta tc rb (z.up 1) W8 := by rw [hW8]; exact h7.out.up (n := 1) hu1 hu2
       have hgt2 : some gt ≠ some rb := by
        intro e
        have e' := Option.some.inj e
        obtain ⟨q, hq, _⟩ := h7.out.rd
        have := hq.symm.trans (e' ▸ hx7.out)
        injection this with this
        injection this with _ this _
        revert this
        decide
       have y1 := k78.cell x1 hgt2
       have hV8 := Hd (hV7.out.kp k78 hrg)
       have hk8 := Hd (grown_trans hk7k.out k78)
       have HB := Hd (G.binary h8 (by omega) hn hq1)
       replace hq1 := Hd hq1
       replace h8 := Hd h8
       replace k78 := Hd k78
       clear he7 x1
       go_wp2_with fail
       rw [← hW8]
       replace hW8 := Hd hW8
       clear d0 d1 d2 d3 df
       refine HB.out.mono ?_
       rintro e w9 ⟨ao2, cap2, rfl, hn9, h9, hg9⟩
       have hgw8 : g < W8.heap.size := lt_of_block hV8.out.blk
       have hV9 := hV8.out.kp hg9 hrg
       have hk9 := Hd (grown_trans hk8.out hg9)
       have z1 := hg9.cell y1 hgt2
       obtain ⟨q0, q1, q2, q3, q4, qf⟩ := hV9.cells
       have hgw9 : g < w9.heap.size := lt_of_block hV9.blk
       have hgt9 : gt < w9.heap.size := cell_lt z1
       replace hV9 := Hd hV9
       replace hn9 := Hd hn9
       replace h9 := Hd h9
       obtain ⟨W9, hW9⟩ : ∃ W9, W9 = (w9.alloc (.cells #[.string b.kind, .string b.text, .int .i64 b.from_, .int .i64 b.to_, .slice ao2 b.kids.length cap2] 50)).alloc (.cells #[.string m.kind, .string m.text, .int .i64 m.from_, .int .i64 m.to_, .slice ao m.kids.length cap, .string b.kind, .string b.text, .int .i64 b.from_, .int .i64 b.to_, .slice ao2 b.kids.length cap2] 50) := ⟨_, rfl⟩
       have b89 := fun o => (Below.refl w9.heap.size w9).alloc (Nat.le_refl _) o
       have b8 : Below w9.heap.size w9 W9 := by rw [hW9]; exact (b89 _).alloc (by simp) _
       have hK9 : KdAt W9 (g + 1) [m, b] (.slice (some ⟨w9.heap.size + 1,0, none⟩) 2 2) := by
        have hR : Reps (w9.alloc (.cells #[.string b.kind, .string b.text, .int .i64 b.from_, .int .i64 b.to_, .slice ao2 b.kids.length cap2] 50)) (fun k => g + 1 ≤ k) [m, b] [ndC m ao cap, ndC b ao2 cap2] := .cons (hV9.out.nd.below (b89 _)) (.cons ((hn9.out.mono hgw8).below (b89 _)) .nil)
        have := KdAt.lit hR (by simp; omega) (by simp)
        rw [World.size_alloc] at this
        rw [hW9]
        exact this
       have HM := Hd (rMake_any (h9.out.below b8) (⟨#[98,105,110,97,114,121]⟩ : ByteArray) t.text m.from_ (some ⟨w9.heap.size + 1,0, none⟩) 2 2)
       replace hK9 := Hd hK9
       unfold ndV
       go_wp2_with fail
       rw [← hW9]
       replace hW9 := Hd hW9
       refine HM.out.mono ?_
       rintro e wA ⟨rfl, hbA⟩
       have b8A := b8.trans (hbA.mono b8.size)
       have hVA := hV9.out.below b8A
       have hA := Hd (h9.out.below b8A)
       have hkA := Hd (kp_bp hk9.out b8A)
       have hKA := hK9.out.below hbA
       have hcc := hVA.blk
       unfold ndC at hcc
       have hnd := Hd (hKA.node (by simp) (⟨#[98,105,110,97,114,121]⟩ : ByteArray) t.text m.from_ z2.at_)
       have hblk := Hd hVA.blk
       clear hVA hKA q0 q1 q2 q3 q4 qf z1
       go_wp2_with (refine wpList_store_row rfl 50 _ _ rfl g _ rfl rfl 50 _ hcc info_nd rfl (by simp [Value.oneCell']) ?_)
       obtain ⟨WB, hWB⟩ : ∃ WB, WB = wA.setRow g (ndC (mkP (⟨#[98,105,110,97,114,121]⟩ : ByteArray) t.text m.from_ z2 [m, b]) (some ⟨w9.heap.size + 1,0, none⟩) 2).toArray := ⟨_, rfl⟩
       have hVB := Hd (VarAt.put (n := mkP (⟨#[98,105,110,97,114,121]⟩ : ByteArray) t.text m.from_ z2 [m, b]) hcc hnd.out)
       have hB := Hd (hA.out.row hcc rfl (ndC (mkP (⟨#[98,105,110,97,114,121]⟩ : ByteArray) t.text m.from_ z2 [m, b]) (some ⟨w9.heap.size + 1,0, none⟩) 2).toArray)
       have hkB := Hd (kp_row hkA.out (Nat.le_of_eq hg.out.symm) (ndC (mkP (⟨#[98,105,110,97,114,121]⟩ : ByteArray) t.text m.from_ z2 [m, b]) (some ⟨w9.heap.size + 1,0, none⟩) 2).toArray)
       rw [← hWB] at hVB hB hkB
       try dsimp only [Act.put]
       rw [show wA.setRow g #[Value.string (⟨#[98,105,110,97,114,121]⟩ : ByteArray), .string t.text, .int .i64 m.from_, .int .i64 z2.at_, .slice (some ⟨w9.heap.size + 1,0, none⟩) 2 2] = WB from hWB.symm]
       replace hWB := Hd hWB
       go_roundg gk
       case measure => omega
       case rel => exact ⟨_, false, z2, _, _, rfl, hVB, hB, hkB, hq2⟩
end Go.Proofs.YtllbbacnakoomaaGreatDoor
namespace Go.Proofs.YtllbbacnakoomaaGreatDoor
open Go.RowKit
set_option linter.unusedVariables false
theorem bracketed_any {L : List Ct} {ta : Option Addr} {tc rb : Nat} {s : Ps} {w : World} (h : PS L ta tc rb s w) :
 Calls Tryz.prog 249 #[.pointer (some ⟨rb, 0, none⟩)] w fun e w' => e = .returned (.bool (bracketedP L s)) ∧ Below w.heap.size w w' := by
 have HI := rIs_any h (⟨#[40]⟩ : ByteArray)
 have HR := Hd (fun (x : World) (hx : Below w.heap.size w x) => rest_any (h.below hx) 1 (.inr rfl))
 have HB := Hd (fun (x : World) (hx : Below w.heap.size w x) => begins_any (h.below hx) (tokP L (s.at_ + 1)))
 unfold bracketedP
 unfold ctV at HB HR
 clear h
 cases hi : isP L s (⟨#[40]⟩ : ByteArray) with
 | false =>
   rw [hi] at HI
   go_enter Tryz.func249, Tryz.ntmps249
   go_wp2_with fail
   refine HI.mono ?_
   rintro e w1 ⟨rfl, hb1⟩
   go_wp2
   go_ret
   exact ⟨rfl, hb1⟩
 | true =>
   rw [hi] at HI
   go_enter Tryz.func249, Tryz.ntmps249
   go_wp2_with fail
   refine HI.mono ?_
   rintro e w1 ⟨rfl, hb1⟩
   go_wp2_with fail
   refine (HR.out w1 hb1).mono ?_
   rintro e w2 ⟨rfl, hb2⟩
   have hb12 := hb1.trans (hb2.mono hb1.size)
   go_wp2_with fail
   refine (HB.out w2 hb12).mono ?_
   rintro e w3 ⟨rfl, hb3⟩
   go_wp2
   go_ret
   exact ⟨rfl, hb12.trans (hb3.mono hb12.size)⟩
theorem inBrackets_any {L : List Ct} {ta : Option Addr} {tc rb : Nat} {R : Rec} (G : Good L ta tc rb R) {w : World} {s : Ps} {nest : Nat} {n : T} {s' : Ps} (h : PS L ta tc rb s w) (hn : nest ≤ 1000) (hr : inBrF L R nest s = some (n, s')) :
 Calls Tryz.prog 219 #[.pointer (some ⟨rb, 0, none⟩), .int .i64 nest] w (NdRet L ta tc rb w n s') := by
 have hlt := h.lt
 unfold inBrF at hr
 obtain ⟨⟨m, s1⟩, hr1, hr2⟩ := Option.bind_eq_some_iff.1 hr
 obtain ⟨rfl, rfl⟩ := Prod.mk.inj (Option.some.inj hr2)
 simp only
 clear hr hr2
 obtain ⟨W1, hW1⟩ : ∃ W1, W1 = w.alloc (.cells #[.string ⟨#[]⟩, .string ⟨#[]⟩, .int .i64 0, .int .i64 0, .slice none 0 0] 50) := ⟨_, rfl⟩
 have hb1 : Below w.heap.size w W1 := by rw [hW1]; exact (Below.refl w.heap.size w).alloc (Nat.le_refl _) _
 have hc1 : W1.heap[w.heap.size]? = some (.cells #[.string ⟨#[]⟩, .string ⟨#[]⟩, .int .i64 0, .int .i64 0, .slice none 0 0] 50 (0,0)) := by rw [hW1]; exact heap_alloc_new w _
 have HN := Hd (rNeed_any (h.below hb1) (⟨#[40]⟩ : ByteArray))
 obtain ⟨g, hg⟩ : ∃ g, g = w.heap.size := ⟨_, rfl⟩
 rw [← hg] at hc1
 have hrg : rb < g := by omega
 replace hg := Hd hg
 replace hb1 := Hd hb1
 go_enter Tryz.func219, Tryz.ntmps219
 go_wp2_with fail
 rw [← hW1, ← hg.out]
 replace hW1 := Hd hW1
 refine HN.out.mono ?_
 rintro e w1 ⟨rfl, h1, k1⟩
 have hc2 := kp_block k1 hc1 (by omega)
 have HT := Hd (G.typeName h1 hn hr1)
 have hk2 := Hd (kp_pb hb1.out k1)
 replace hr1 := Hd hr1
 replace h1 := Hd h1
 go_wp2_with fail
 refine HT.out.mono ?_
 rintro e w2 ⟨ao, cap, rfl, hn2, h2, k2⟩
 have hc3 := kp_block k2 hc2 (by omega)
 have hgw : g < w1.heap.size := lt_of_block hc2
 unfold ndV
 obtain ⟨W3, hW3⟩ : ∃ W3, W3 = w2.alloc (.cells #[.string m.kind, .string m.text, .int .i64 m.from_, .int .i64 m.to_, .slice ao m.kids.length cap] 50) := ⟨_, rfl⟩
 have b23 : Below w2.heap.size w2 W3 := by rw [hW3]; exact (Below.refl w2.heap.size w2).alloc (Nat.le_refl _) _
 have hx3 : W3.heap[w2.heap.size]? = some (.cells #[.string m.kind, .string m.text, .int .i64 m.from_, .int .i64 m.to_, .slice ao m.kids.length cap] 50 (0,0)) := by rw [hW3]; exact heap_alloc_new w2 _
 have hg2 : rb < w2.heap.size := h2.lt
 have h3 := h2.below b23
 have HM := Hd (rNeed_any h3 (⟨#[41]⟩ : ByteArray))
 have hn3 := hn2.below b23
 have hk3 := kp_bp (grown_trans hk2.out k2) b23
 have hc4 := (b23.block _ (lt_of_block hc3)).trans hc3
 obtain ⟨g', hg'⟩ : ∃ g', g' = w2.heap.size := ⟨_, rfl⟩
 rw [← hg'] at hx3 hg2
 replace hg' := Hd hg'
 go_wp2_with fail
 rw [← hW3, ← hg'.out]
 replace hW3 := Hd hW3
 refine HM.out.mono ?_
 rintro e w4 ⟨rfl, h4, k4⟩
 have hx4 := kp_block k4 hx3 (by omega)
 have hc5 := kp_block k4 hc4 (by omega)
 have hn4 := Hd ((hn3.kp k4 (by have := h.lt; have := lt_of_block hc2; omega)).mono (B' := g + 1) hgw)
 have hk4 := Hd (grown_trans hk3 k4)
 obtain ⟨q0, q1, q2, q3, q4, qf⟩ := nd_cells hx4
 replace hx4 := Hd hx4
 go_wp2_with (refine wpList_store_row rfl 50 _ _ rfl g _ rfl rfl 50 _ hc5 info_nd rfl (by simp [Value.oneCell']) ?_)
 refine bodyPost_ret (results_cell_row rfl _ _ g 50 _ (0,0) _ rfl (setRow_heap _ _ _ _ _ _ hc5) Tryz.underlying50 rfl (by kernel_rfl)) rfl ?_
 exact ⟨ao, cap, rfl, (hn4.out.other (fun k hk => row_other _ hk) (Nat.lt_succ_self _)).mono (by rw [hg.out]; omega), h4.row hc5 rfl _, kp_row hk4.out (Nat.le_of_eq hg.out.symm) _⟩
end Go.Proofs.YtllbbacnakoomaaGreatDoor
namespace Go.Proofs.YtllbbacnakoomaaGreatDoor
open Go.RowKit
set_option linter.unusedVariables false
theorem stN {ops : Array Oper} {rest : List Oper} {o : Oper} {a : Act} {w : World} {Q : Exit → Act → World → Prop} (hgd : o.guard = none) {x y : Operand} (ho : o.op = .store 50 x y) {g : Nat} {cells : Array Value} (hx : a.eval x = .pointer (some ⟨g, 0, none⟩)) (hy : a.eval y = .agg cells) {old : Array Value} (hg : w.heap[g]? = some (.cells old 50 (0,0))) (hs : cells.size = 5) (hold : old.size = cells.size) (h1 : cells.all (·.oneCell') = true) (h : wpList Tryz.prog ops Q rest (a.put o.dst undef) (w.setRow g cells)) : wpList Tryz.prog ops Q (o :: rest) a w :=
 wpList_store_row hgd 50 x y ho g cells hx hy 50 old hg (by rw [hs]; exact info_nd) hold h1 h
theorem retN {fn : Func} {R : Ending → World → Prop} {a : Act} {w : World} {p : Tmp} {g : Nat} {cs : Array Value} (h : fn.results = #[.cell p 50]) (hp : a.tmps.getD p undef = .pointer (some ⟨g, 0, none⟩)) (hs : cs.size = 5) (hg : w.heap[g]? = some (.cells cs 50 (0,0))) (hd : a.defers = []) (hR : R (.returned (.agg cs)) w) : bodyPost Tryz.prog fn R .ret a w :=
 bodyPost_ret (results_cell_row h _ _ g 50 cs (0,0) _ hp hg Tryz.underlying50 rfl (by rw [hs]; exact info_nd)) hd hR
theorem retT {fn : Func} {R : Ending → World → Prop} {a : Act} {w : World} {p q : Tmp} {g : Nat} {cs : Array Value} (h : fn.results = #[.cell p 50, .tmp q]) (hp : a.tmps.getD p undef = .pointer (some ⟨g, 0, none⟩)) (hs : cs.size = 5) (hg : w.heap[g]? = some (.cells cs 50 (0,0))) (hd : a.defers = []) (hR : R (.returned (.tuple #[.agg cs, a.tmps.getD q undef])) w) : bodyPost Tryz.prog fn R .ret a w :=
 bodyPost_ret (results_row_tmp h _ _ g 50 cs (0,0) _ hp hg Tryz.underlying50 rfl (by rw [hs]; exact info_nd)) hd hR
end Go.Proofs.YtllbbacnakoomaaGreatDoor
