/- Texts of this seat's proofs, laid into one file. -/
import Derived.Test.YtllbbacnakoomaaGreatDoorE12
import Derived.Laws.ResultCell
/- Two results, the first one a struct; Cond. -/
namespace Go.Proofs.YtllbbacnakoomaaGreatDoor
open Go.RowKit
set_option linter.unusedVariables false

theorem results_row_tmp {P : Program} {fn : Func} {p u : Tmp} {ty : TypeId} (h : fn.results = #[.cell p ty, .tmp u]) (tmps : Array Value) (w : World) (g : Nat) (t : TypeId) (cs : Array Value) (fr : Nat × Nat) (d : TypeDesc)
    (hp : tmps.getD p undef = .pointer (some ⟨g, 0, none⟩)) (hg : w.heap[g]? = some (.cells cs t fr))
    (hu : P.underlying ty = some d) (hd : (match d with | .struct _ | .array _ _ => true | _ => false) = true) (hi : (P.info? ty).map (·.size) = some cs.size) :
    (results fn tmps).run P w = .ok (.tuple #[.agg cs, tmps.getD u undef]) w := by
  rw [results_cell_tmp h, hp]
  simp [asAddr, run_loadVar_row w g t ty cs fr d hg hu hd hi, Result.andThen]

set_option maxRecDepth 100000 in
set_option maxHeartbeats 2000000 in
theorem rCond_any {L : List Ct} {ta : Option Addr} {tc rb : Nat} {R : Rec} (G : Good L ta tc rb R) {w : World} {s : Ps} {nest : Nat} {n : T × Bool} {s' : Ps} (h : PS L ta tc rb s w) (hn : nest ≤ 1000) (hr : R.cond nest s = some (n, s')) :
    Calls Tryz.prog 162 #[.pointer (some ⟨rb, 0, none⟩), .int .i64 nest] w (NdRet L ta tc rb w n.1 s') := by
  have hb := fun o => (Below.refl w.heap.size w).alloc (Nat.le_refl _) o
  have hlt := h.lt
  obtain ⟨W1, hW1⟩ : ∃ W1, W1 = w.alloc (.cells #[.string ⟨#[]⟩, .string ⟨#[]⟩, .int .i64 0, .int .i64 0, .slice none 0 0] 50) := ⟨_, rfl⟩
  have hb1 : Below w.heap.size w W1 := by rw [hW1]; exact hb _
  have hc1 : W1.heap[w.heap.size]? = some (.cells #[.string ⟨#[]⟩, .string ⟨#[]⟩, .int .i64 0, .int .i64 0, .slice none 0 0] 50 (0, 0)) := by rw [hW1]; exact heap_alloc_new w _
  have HA := Lib.hid (G.cond (h.below hb1) hn hr)
  obtain ⟨g, hg⟩ : ∃ g, g = w.heap.size := ⟨_, rfl⟩
  rw [← hg] at hc1
  have hrg : rb < g := by omega
  replace hg := Lib.hid hg
  replace hb1 := Lib.hid hb1
  obtain ⟨n1, un⟩ := n
  go_enter Tryz.func162, Tryz.ntmps162
  go_wp2_with fail
  rw [← hW1, ← hg.out]
  replace hW1 := Lib.hid hW1
  refine HA.out.mono ?_
  rintro e w2 ⟨ao, cap, rfl, hn2, h2, hg2⟩
  have hc2 := kp_block hg2 hc1 (by omega)
  have hgw : g < W1.heap.size := lt_of_block hc1
  simp only at hn2
  have hc3 := fun o => (heap_alloc_old w2 o (lt_of_block hc2)).trans hc2
  have hb3 := fun o => (Below.refl w2.heap.size w2).alloc (Nat.le_refl _) o
  have hk2 := Lib.hid (kp_pb hb1.out hg2)
  replace h2 := Lib.hid h2
  replace hn2 := Lib.hid hn2
  unfold ndV
  go_wp2_with (refine wpList_store_row rfl 50 _ _ rfl g _ rfl rfl 50 _ (hc3 _) info_nd rfl (by simp [Value.oneCell']) ?_)
  refine bodyPost_ret (results_cell_row rfl _ _ g 50 _ (0, 0) _ rfl (setRow_heap _ _ _ _ _ _ (hc3 _)) Tryz.underlying50 rfl (by kernel_rfl)) rfl ?_
  exact ⟨ao, cap, rfl, (((hn2.out.below (hb3 _)).mono hgw).other (fun k hk => row_other _ hk) (Nat.lt_succ_self _)).mono (by rw [hg.out]; omega), (h2.out.below (hb3 _)).row (hc3 _) rfl _, kp_row (kp_bp hk2.out (hb3 _)) (Nat.le_of_eq hg.out.symm) _⟩
end Go.Proofs.YtllbbacnakoomaaGreatDoor

/- cond. -/
namespace Go.Proofs.YtllbbacnakoomaaGreatDoor
open Go.RowKit
set_option linter.unusedVariables false

set_option maxRecDepth 100000 in
set_option maxHeartbeats 4000000 in
theorem cond_step {L : List Ct} {ta : Option Addr} {tc rb : Nat} {R : Rec} (G : Good L ta tc rb R) {w : World} {s : Ps} {nest : Nat} {n : T × Bool} {s' : Ps} (h : PS L ta tc rb s w) (hn : nest ≤ 1000) (hr : condF L R nest s = some (n, s')) :
    Calls Tryz.prog 181 #[.pointer (some ⟨rb, 0, none⟩), .int .i64 nest] w (NdRetB L ta tc rb w n s') := by
  have hb := fun o => (Below.refl w.heap.size w).alloc (Nat.le_refl _) o
  have hlt := h.lt
  have HD := Lib.hid (rdeep_any (h.below (hb (.cells #[.string ⟨#[]⟩, .string ⟨#[]⟩, .int .i64 0, .int .i64 0, .slice none 0 0] 50 (0, 0)))) nest (by omega))
  have g1 : IntKind.i64.wrap ((nest : Int) + 1) = ((nest + 1 : Nat) : Int) := by rw [IntWalk.i64_in _ (by omega)]; omega
  unfold condF at hr
  cases hd : s.deep nest with
  | true =>
    rw [hd, if_pos rfl] at hr HD
    obtain ⟨rfl, rfl⟩ := Prod.mk.inj (Option.some.inj hr)
    go_enter Tryz.func181, Tryz.ntmps181
    go_wp2_with fail
    refine HD.out.mono ?_
    rintro e w1 ⟨rfl, h1, hg1⟩
    have hc := kp_block hg1 (heap_alloc_new w _) (by omega)
    have hk := kp_pb (hb _) hg1
    obtain ⟨q0, q1, q2, q3, q4, qf⟩ := nd_cells hc
    replace h1 := Lib.hid h1
    replace hk := Lib.hid hk
    go_wp2_with (refine wpList_store_row rfl 50 _ _ rfl w.heap.size _ rfl rfl 50 _ hc info_nd rfl (by simp [Value.oneCell']) ?_)
    refine bodyPost_ret (results_row_tmp rfl _ _ w.heap.size 50 _ (0, 0) _ rfl (setRow_heap _ _ _ _ _ _ hc) Tryz.underlying50 rfl (by kernel_rfl)) rfl ?_
    exact ⟨none, 0, rfl, NdAt.zero _ _, h1.out.row hc rfl _, kp_row hk.out (Nat.le_refl _) _⟩
  | false =>
    have hn200 : nest + 1 ≤ 1000 := by unfold Ps.deep at hd; simp at hd; omega
    rw [hd, if_neg (by simp)] at hr HD
    obtain ⟨⟨⟨n1, un⟩, s1⟩, hr1, hr2⟩ := Option.bind_eq_some_iff.1 hr
    simp only at hr2
    replace hr := Lib.hid hr
    go_enter Tryz.func181, Tryz.ntmps181
    go_wp2_with fail
    refine HD.out.mono ?_
    rintro e w1 ⟨rfl, h1, hg1⟩
    have hc := kp_block hg1 (heap_alloc_new w _) (by omega)
    have hk := kp_pb (hb _) hg1
    have HA : Hid (Calls Tryz.prog 210 #[.pointer (some ⟨rb, 0, none⟩), .int .i64 1, .int .i64 (nest + 1 : Nat)] w1 (NdRetB L ta tc rb w1 (n1, un) s1)) := Lib.hid (G.binary (least := 1) h1 (by omega) hn200 hr1)
    replace hk := Lib.hid hk
    replace hr2 := Lib.hid hr2
    obtain ⟨g, hg⟩ : ∃ g, g = w.heap.size := ⟨_, rfl⟩
    rw [← hg] at hc
    have hrg : rb < g := by omega
    replace hg := Lib.hid hg
    go_wp2_with fail
    rw [← hg.out]
    refine HA.out.mono ?_
    rintro e w2 ⟨ao, cap, rfl, hn2, h2, hg2⟩
    have hc2 := kp_block hg2 hc (by omega)
    have hgw : g < w1.heap.size := lt_of_block hc
    have hV := Lib.hid (VarAt.put hc2 (hn2.mono hgw))
    have h3 := Lib.hid (h2.row hc2 rfl (ndC n1 ao cap).toArray)
    have hk3 := Lib.hid (kp_row (grown_trans hk.out hg2) (Nat.le_of_eq hg.out.symm) (ndC n1 ao cap).toArray)
    unfold ndV
    go_upto_region 4 with (refine wpList_store_row rfl 50 _ _ rfl g _ rfl rfl 50 _ hc2 info_nd rfl (by simp [Value.oneCell']) ?_)
    obtain ⟨W3, hW3⟩ : ∃ W3, W3 = w2.setRow g (ndC n1 ao cap).toArray := ⟨_, rfl⟩
    rw [← hW3] at hV h3 hk3
    rw [show w2.setRow g #[Value.string n1.kind, .string n1.text, .int .i64 n1.from_, .int .i64 n1.to_, .slice ao n1.kids.length cap] = W3 from hW3.symm]
    replace hW3 := Lib.hid hW3
    have HH := Lib.hid (rHas_any h3.out (⟨#[63]⟩ : ByteArray))
    have hr2' := hr2.out
    clear hr2
    cases hh : hasP L s1 (⟨#[63]⟩ : ByteArray) with
    | false =>
      rw [hh, if_neg (by simp)] at hr2' HH
      obtain ⟨rfl, rfl⟩ := Prod.mk.inj (Option.some.inj hr2')
      replace hr2' := Lib.hid hr2'
      go_wp2_with fail
      refine HH.out.mono ?_
      rintro e w5 ⟨rfl, h5, hg5⟩
      have hV5 := hV.out.kp hg5 hrg
      have hk5 := Lib.hid (grown_trans hk3.out hg5)
      have hcc := hV5.blk
      unfold ndC at hcc
      obtain ⟨q0, q1, q2, q3, q4, qf⟩ := hV5.cells
      replace h5 := Lib.hid h5
      replace hV5 := Lib.hid hV5
      go_wp2_with (refine wpList_store_row rfl 50 _ _ rfl g _ rfl rfl 50 _ hcc info_nd rfl (by simp [Value.oneCell']) ?_)
      refine bodyPost_ret (results_row_tmp rfl _ _ g 50 _ (0, 0) _ rfl (setRow_heap _ _ _ _ _ _ hcc) Tryz.underlying50 rfl (by kernel_rfl)) rfl ?_
      exact ⟨ao, cap, rfl, (hV5.out.nd.other (fun k hk => row_other _ hk) (Nat.lt_succ_self _)).mono (by rw [hg.out]; omega), h5.out.row hcc rfl _, kp_row hk5.out (Nat.le_of_eq hg.out.symm) _⟩
    | true =>
      rw [hh, if_pos rfl] at hr2' HH
      obtain ⟨⟨a, s2⟩, ha1, ha2⟩ := Option.bind_eq_some_iff.1 hr2'
      obtain ⟨⟨⟨b, ub⟩, s3⟩, hb1, hb2⟩ := Option.bind_eq_some_iff.1 ha2
      obtain ⟨rfl, rfl⟩ := Prod.mk.inj (Option.some.inj hb2)
      simp only at hb1 ⊢
      replace hr2' := Lib.hid hr2'
      replace ha2 := Lib.hid ha2
      replace hb2 := Lib.hid hb2
      replace hb1 := Lib.hid hb1
      replace ha1 := Lib.hid ha1
      go_wp2_with fail
      refine HH.out.mono ?_
      rintro e w5 ⟨rfl, h5, hg5⟩
      have hV5 := hV.out.kp hg5 hrg
      have hk5 := Lib.hid (grown_trans hk3.out hg5)
      have HE := Lib.hid (G.expr h5 hn200 ha1.out)
      have hgw5 : g < w5.heap.size := lt_of_block hV5.blk
      replace hV5 := Lib.hid hV5
      clear hV h3 hk3 HH
      go_wp2_with fail
      refine HE.out.mono ?_
      rintro e w6 ⟨ao2, cap2, rfl, hn6, h6, hg6⟩
      have hV6 := hV5.out.kp hg6 hrg
      have hk6 := grown_trans hk5.out hg6
      have hgw6 : g < w6.heap.size := lt_of_block hV6.blk
      obtain ⟨W7, hW7⟩ : ∃ W7, W7 = w6.alloc (.cells #[.string a.kind, .string a.text, .int .i64 a.from_, .int .i64 a.to_, .slice ao2 a.kids.length cap2] 50) := ⟨_, rfl⟩
      have b67 : Below w6.heap.size w6 W7 := by rw [hW7]; exact (Below.refl w6.heap.size w6).alloc (Nat.le_refl _) _
      have hA7 : W7.heap[w6.heap.size]? = some (.cells #[.string a.kind, .string a.text, .int .i64 a.from_, .int .i64 a.to_, .slice ao2 a.kids.length cap2] 50 (0, 0)) := by rw [hW7]; exact heap_alloc_new w6 _
      obtain ⟨ga, hga⟩ : ∃ g, g = w6.heap.size := ⟨_, rfl⟩
      rw [← hga] at hA7
      have hra : ga ≠ rb := by have := h6.lt; omega
      have hV7 := Lib.hid (hV6.below b67)
      have hk7 := Lib.hid (kp_bp hk6 b67)
      have hn7 := Lib.hid ((hn6.mono (B' := g + 1) hgw5).below b67)
      have HN := Lib.hid (rNeed_any (h6.below b67) (⟨#[58]⟩ : ByteArray))
      replace hA7 := Lib.hid hA7
      replace hga := Lib.hid hga
      clear hV6 hk6 hn6 h6 hg6 HE hV5 hk5 h5 hg5
      unfold ndV
      go_wp2_with fail
      rw [← hW7, ← hga.out]
      replace hW7 := Lib.hid hW7
      refine HN.out.mono ?_
      rintro e w8 ⟨rfl, h8, hg8⟩
      have hV8 := Lib.hid (hV7.out.kp hg8 hrg)
      have hk8 := Lib.hid (grown_trans hk7.out hg8)
      have hn8 := Lib.hid (hn7.out.kp hg8 (by omega))
      have hA8 := Lib.hid (kp_block hg8 hA7.out hra)
      have HC := Lib.hid (rCond_any G h8 hn200 hb1.out)
      have hgw8 : g < w8.heap.size := lt_of_block hV8.out.blk
      clear hV7 hk7 hn7 hA7 HN h8 hg8
      go_wp2_with fail
      refine HC.out.mono ?_
      rintro e w9 ⟨ao3, cap3, rfl, hn9, h9, hg9⟩
      have hV9 := hV8.out.kp hg9 hrg
      have hk9 := Lib.hid (grown_trans hk8.out hg9)
      have hnA := hn8.out.kp hg9 (by omega)
      have hA9 := kp_block hg9 hA8.out hra
      obtain ⟨q0, q1, q2, q3, q4, qf⟩ := hV9.cells
      obtain ⟨r0, r1, r2, r3, r4, rf⟩ := nd_cells hA9
      have hgw9 : g < w9.heap.size := lt_of_block hV9.blk
      have hga9 : ga < w9.heap.size := lt_of_block hA9
      obtain ⟨WB, hWB⟩ : ∃ WB, WB = (w9.alloc (.cells #[.string b.kind, .string b.text, .int .i64 b.from_, .int .i64 b.to_, .slice ao3 b.kids.length cap3] 50)).alloc (.cells #[.string n1.kind, .string n1.text, .int .i64 n1.from_, .int .i64 n1.to_, .slice ao n1.kids.length cap, .string a.kind, .string a.text, .int .i64 a.from_, .int .i64 a.to_, .slice ao2 a.kids.length cap2, .string b.kind, .string b.text, .int .i64 b.from_, .int .i64 b.to_, .slice ao3 b.kids.length cap3] 50) := ⟨_, rfl⟩
      have b9A := fun o => (Below.refl w9.heap.size w9).alloc (Nat.le_refl _) o
      have b9 : Below w9.heap.size w9 WB := by rw [hWB]; exact (b9A _).alloc (by simp) _
      have hKB : KdAt WB (g + 1) [n1, a, b] (.slice (some ⟨w9.heap.size + 1, 0, none⟩) 3 3) := by
        have hR : Reps (w9.alloc (.cells #[.string b.kind, .string b.text, .int .i64 b.from_, .int .i64 b.to_, .slice ao3 b.kids.length cap3] 50)) (fun k => g + 1 ≤ k) [n1, a, b] [ndC n1 ao cap, ndC a ao2 cap2, ndC b ao3 cap3] := .cons (hV9.nd.below (b9A _)) (.cons (hnA.below (b9A _)) (.cons ((hn9.mono hgw8).below (b9A _)) .nil))
        have := KdAt.lit hR (by simp; omega) (by simp)
        rw [World.size_alloc] at this
        rw [hWB]
        exact this
      have HM := Lib.hid (rMake_any (h9.below b9) (⟨#[99, 111, 110, 100]⟩ : ByteArray) ⟨#[]⟩ n1.from_ (some ⟨w9.heap.size + 1, 0, none⟩) 3 3)
      replace hV9 := Lib.hid hV9
      replace hKB := Lib.hid hKB
      replace hn9 := Lib.hid hn9
      replace hnA := Lib.hid hnA
      replace h9 := Lib.hid h9
      replace hA9 := Lib.hid hA9
      clear hV8 hk8 hn8 hA8 HC
      unfold ndV
      go_wp2_with fail
      rw [← hWB]
      replace hWB := Lib.hid hWB
      refine HM.out.mono ?_
      rintro e wC ⟨rfl, hbC⟩
      have b9C := b9.trans (hbC.mono b9.size)
      have hVC := hV9.out.below b9C
      have hC := Lib.hid (h9.out.below b9C)
      have hkC := Lib.hid (kp_bp hk9.out b9C)
      have hKC := hKB.out.below hbC
      have hcc := hVC.blk
      unfold ndC at hcc
      have hnd := Lib.hid (hKC.node (by simp) (⟨#[99, 111, 110, 100]⟩ : ByteArray) ⟨#[]⟩ n1.from_ s3.at_)
      clear hVC hKC q0 q1 q2 q3 q4 qf r0 r1 r2 r3 r4 rf
      go_wp2_with (refine wpList_store_row rfl 50 _ _ rfl g _ rfl rfl 50 _ hcc info_nd rfl (by simp [Value.oneCell']) ?_)
      refine bodyPost_ret (results_row_tmp rfl _ _ g 50 _ (0, 0) _ rfl (setRow_heap _ _ _ _ _ _ hcc) Tryz.underlying50 rfl (by kernel_rfl)) rfl ?_
      exact ⟨some ⟨w9.heap.size + 1, 0, none⟩, 3, rfl, (hnd.out.other (fun k hk => row_other _ hk) (Nat.lt_succ_self _)).mono (by rw [hg.out]; omega), hC.out.row hcc rfl _, kp_row hkC.out (Nat.le_of_eq hg.out.symm) _⟩
end Go.Proofs.YtllbbacnakoomaaGreatDoor

/- binary. -/
namespace Go.Proofs.YtllbbacnakoomaaGreatDoor
open Go.RowKit
set_option linter.unusedVariables false

theorem level_le (t : Ct) : levelT t ≤ 10 := by
  unfold levelT
  split
  · cases h : levelRows.findIdx? (fun r => r.any fun x => decide (x = t.text)) with
    | none => simp
    | some i =>
      obtain ⟨h1, _⟩ := List.findIdx?_eq_some_iff_getElem.1 h
      have : i < 10 := h1
      simp
      omega
  · omega

set_option maxRecDepth 100000 in
set_option maxHeartbeats 4000000 in
theorem binary_step {L : List Ct} {ta : Option Addr} {tc rb : Nat} {R : Rec} (G : Good L ta tc rb R) {w : World} {s : Ps} {least nest : Nat} {n : T × Bool} {s' : Ps} (h : PS L ta tc rb s w) (hl : least ≤ 1000) (hn : nest ≤ 1000) (hr : binaryF L R least nest s = some (n, s')) :
    Calls Tryz.prog 210 #[.pointer (some ⟨rb, 0, none⟩), .int .i64 least, .int .i64 nest] w (NdRetB L ta tc rb w n s') := by
  have hlt := h.lt
  obtain ⟨W1, hW1⟩ : ∃ W1, W1 = w.alloc (.cells #[.string ⟨#[]⟩, .string ⟨#[]⟩, .int .i64 0, .int .i64 0, .slice none 0 0] 50) := ⟨_, rfl⟩
  have hb1 : Below w.heap.size w W1 := by rw [hW1]; exact (Below.refl w.heap.size w).alloc (Nat.le_refl _) _
  have hc1 : W1.heap[w.heap.size]? = some (.cells #[.string ⟨#[]⟩, .string ⟨#[]⟩, .int .i64 0, .int .i64 0, .slice none 0 0] 50 (0, 0)) := by rw [hW1]; exact heap_alloc_new w _
  unfold binaryF at hr
  obtain ⟨⟨⟨n1, un⟩, s1⟩, hr1, hr2⟩ := Option.bind_eq_some_iff.1 hr
  simp only at hr2
  replace hr := Lib.hid hr
  replace hr2 := Lib.hid hr2
  have HA := Lib.hid (G.cast (h.below hb1) hn hr1)
  obtain ⟨g, hg⟩ : ∃ g, g = w.heap.size := ⟨_, rfl⟩
  rw [← hg] at hc1
  have hrg : rb < g := by omega
  replace hg := Lib.hid hg
  replace hb1 := Lib.hid hb1
  go_enter Tryz.func210, Tryz.ntmps210
  go_wp2_with fail
  rw [← hW1, ← hg.out]
  replace hW1 := Lib.hid hW1
  refine HA.out.mono ?_
  rintro e w2 ⟨ao, cap, rfl, hn2, h2, hg2⟩
  have hc2 := kp_block hg2 hc1 (by omega)
  have hgw : g < W1.heap.size := lt_of_block hc1
  have hV := Lib.hid (VarAt.put hc2 (hn2.mono hgw))
  have h3 := Lib.hid (h2.row hc2 rfl (ndC n1 ao cap).toArray)
  have hk3 := Lib.hid (kp_row (kp_pb hb1.out hg2) (Nat.le_of_eq hg.out.symm) (ndC n1 ao cap).toArray)
  unfold ndV
  go_wp2_with (refine wpList_store_row rfl 50 _ _ rfl g _ rfl rfl 50 _ hc2 info_nd rfl (by simp [Value.oneCell']) ?_)
  obtain ⟨W3, hW3⟩ : ∃ W3, W3 = w2.setRow g (ndC n1 ao cap).toArray := ⟨_, rfl⟩
  rw [← hW3] at hV h3 hk3
  rw [show w2.setRow g #[Value.string n1.kind, .string n1.text, .int .i64 n1.from_, .int .i64 n1.to_, .slice ao n1.kids.length cap] = W3 from hW3.symm]
  replace hW3 := Lib.hid hW3
  try dsimp only [Act.put]
  go_loopg [7] KK (fun q v7 wx => ∃ (m : T) (u : Bool) (z : Ps) (ao : Option Addr) (cap : Nat), v7 = .bool u ∧ Hid (VarAt wx g m ao cap) ∧ Hid (PS L ta tc rb z wx) ∧ Hid (w.grownBy wx (some rb)) ∧ Hid (binLoop L R least nest q (m, u) z = some (n, s')))
  case atStart => exact ⟨n1, un, s1, ao, cap, rfl, hV, h3, hk3, hr2⟩
  case round =>
    have hVx := hV
    clear hVx hV h3 hk3
    obtain ⟨m, u, z, ao, cap, rfl, hV, h3, hk3, hL⟩ := hrel
    obtain ⟨w4, hw4⟩ : ∃ w4, w4 = wr := ⟨_, rfl⟩
    subst hw4
    cases gk with
    | zero => exact absurd hL.out (by simp [binLoop])
    | succ gk =>
      have hL2 := hL.out
      unfold binLoop at hL2
      obtain ⟨p4, he4, c0, c1, c2, c3, cf⟩ := h3.out.cells
      clear he4 c0 c1 c2
      cases hbad : z.bad with
      | true =>
        rw [if_pos (.inl hbad)] at hL2
        obtain ⟨rfl, rfl⟩ := Prod.mk.inj (Option.some.inj hL2)
        rw [hbad] at c3
        replace hL2 := Lib.hid hL2
        have hcc := hV.out.blk
        unfold ndC at hcc
        obtain ⟨q0, q1, q2, q3, q4, qf⟩ := hV.out.cells
        go_wp2_with (refine wpList_store_row rfl 50 _ _ rfl g _ rfl rfl 50 _ hcc info_nd rfl (by simp [Value.oneCell']) ?_)
        refine bodyPost_ret (results_row_tmp rfl _ _ g 50 _ (0, 0) _ rfl (setRow_heap _ _ _ _ _ _ hcc) Tryz.underlying50 rfl (by kernel_rfl)) rfl ?_
        exact ⟨ao, cap, rfl, (hV.out.nd.other (fun k hk => row_other _ hk) (Nat.lt_succ_self _)).mono (by rw [hg.out]; omega), h3.out.row hcc rfl _, kp_row hk3.out (Nat.le_of_eq hg.out.symm) _⟩
      | false =>
        rw [hbad] at c3
        have HT := Lib.hid (tok_any h3.out)
        obtain ⟨t, ht⟩ : ∃ t, t = tokP L z.at_ := ⟨_, rfl⟩
        rw [← ht] at HT hL2
        unfold ctV at HT
        replace ht := Lib.hid ht
        go_wp2_with fail
        refine HT.out.mono ?_
        rintro e w5 ⟨rfl, hb5⟩
        obtain ⟨W6, hW6⟩ : ∃ W6, W6 = w5.alloc (.cells #[.int .i64 t.kind, .string t.text, .string t.file, .int .i64 t.f, .int .i64 t.t, .int .i64 t.fro, .int .i64 t.cnt] 95) := ⟨_, rfl⟩
        have b56 : Below w5.heap.size w5 W6 := by rw [hW6]; exact (Below.refl w5.heap.size w5).alloc (Nat.le_refl _) _
        have b46 := hb5.trans (b56.mono hb5.size)
        have hx6 : W6.heap[w5.heap.size]? = some (.cells #[.int .i64 t.kind, .string t.text, .string t.file, .int .i64 t.f, .int .i64 t.t, .int .i64 t.fro, .int .i64 t.cnt] 95 (0, 0)) := by rw [hW6]; exact heap_alloc_new w5 _
        obtain ⟨gt, hgt⟩ : ∃ g, g = w5.heap.size := ⟨_, rfl⟩
        rw [← hgt] at hx6
        have HLv := level_any (h3.out.below b46).tab t
        have hle := level_le t
        have hk7 : levelT t ≠ 0 → t.kind = 7 := by
          intro h
          unfold levelT at h
          by_cases h7 : t.kind = 7
          · exact h7
          · rw [if_neg h7] at h; exact absurd rfl h
        generalize levelT t = lv at HLv hle hk7 hL2
        unfold ctV at HLv
        replace HLv := Lib.hid HLv
        replace hk7 := Lib.hid hk7
        replace hx6 := Lib.hid hx6
        replace hgt := Lib.hid hgt
        replace b46 := Lib.hid b46
        clear b56 HT c3
        go_wp2_with fail
        rw [← hW6, ← hgt.out]
        replace hW6 := Lib.hid hW6
        refine HLv.out.mono ?_
        rintro e w7 ⟨rfl, hb7⟩
        have b47 := b46.out.trans (hb7.mono b46.out.size)
        have hV7 := Lib.hid (hV.out.below b47)
        have h7 := Lib.hid (h3.out.below b47)
        have hk7k := Lib.hid (kp_bp hk3.out b47)
        have hx7 := Lib.hid ((hb7.block _ (lt_of_block hx6.out)).trans hx6.out)
        clear hV h3 hk3 hb5 hb7 b47 HLv
        by_cases hA : lv = 0 ∨ lv < least
        · rw [if_pos (.inr (by rcases hA with h | h; exact .inl h; exact .inr h))] at hL2
          obtain ⟨rfl, rfl⟩ := Prod.mk.inj (Option.some.inj hL2)
          replace hL2 := Lib.hid hL2
          have hd : ((lv : Int) == 0) = true ∨ (((lv : Int) == 0) = false ∧ (lv : Int) < (least : Int)) := by
            rcases hA with h | h
            · left; rw [h]; rfl
            · by_cases h0 : lv = 0
              · left; rw [h0]; rfl
              · right; exact ⟨beq_false_of_ne (by omega), by omega⟩
          clear hA
          rcases hd with hd | ⟨hd, hd2⟩
          all_goals
            have hcc := hV7.out.blk
            unfold ndC at hcc
            obtain ⟨q0, q1, q2, q3, q4, qf⟩ := hV7.out.cells
            go_wp2_with (refine wpList_store_row rfl 50 _ _ rfl g _ rfl rfl 50 _ hcc info_nd rfl (by simp [Value.oneCell']) ?_)
            refine bodyPost_ret (results_row_tmp rfl _ _ g 50 _ (0, 0) _ rfl (setRow_heap _ _ _ _ _ _ hcc) Tryz.underlying50 rfl (by kernel_rfl)) rfl ?_
            exact ⟨ao, cap, rfl, (hV7.out.nd.other (fun k hk => row_other _ hk) (Nat.lt_succ_self _)).mono (by rw [hg.out]; omega), h7.out.row hcc rfl _, kp_row hk7k.out (Nat.le_of_eq hg.out.symm) _⟩
        · rw [if_neg (by rintro (h | h | h); rw [hbad] at h; cases h; exact hA (.inl h); exact hA (.inr h))] at hL2
          have hA0 : lv ≠ 0 := fun h => hA (.inl h)
          have hA1 : ¬ lv < least := fun h => hA (.inr h)
          clear hA
          have hkt := hk7.out hA0
          have e1 : ((lv : Int) == 0) = false := beq_false_of_ne (by omega)
          have e2 : ¬ (lv : Int) < (least : Int) := by omega
          have hin := tok_in (L := L) (i := z.at_) (by rw [← ht.out, hkt]; decide)
          have hlen := h7.out.len
          have g2 : IntKind.i64.wrap (z.at_ + 1) = z.at_ + 1 := IntWalk.i64_in _ (by omega)
          have g3 : IntKind.i64.wrap ((lv : Int) + 1) = ((lv + 1 : Nat) : Int) := by rw [IntWalk.i64_in _ (by omega)]; omega
          have hu1 : -1 ≤ z.at_ + 1 := by omega
          have hu2 := hin.2.1
          clear hin hlen
          obtain ⟨⟨⟨b, ub⟩, z2⟩, hq1, hq2⟩ := Option.bind_eq_some_iff.1 hL2
          simp only at hq2
          replace hL2 := Lib.hid hL2
          replace hq2 := Lib.hid hq2
          obtain ⟨p7, he7, d0, d1, d2, d3, df⟩ := h7.out.cells
          have x1 : w7.cell? ⟨gt, 1, none⟩ = some (.string t.text) := by rw [Lib.cell_of_heap hx7.out]; rfl
          obtain ⟨W8, hW8⟩ : ∃ W8, W8 = w7.setCell ⟨rb, 1, none⟩ (.int .i64 (z.at_ + 1)) := ⟨_, rfl⟩
          have k78 : w7.grownBy W8 (some rb) := by rw [hW8]; exact kp_set _ _ _ _
          have h8 : PS L ta tc rb (z.up 1) W8 := by rw [hW8]; exact h7.out.up (n := 1) hu1 hu2
          have hgt2 : some gt ≠ some rb := by
            intro e
            have e' := Option.some.inj e
            obtain ⟨q, hq, _⟩ := h7.out.rd
            have := hq.symm.trans (e' ▸ hx7.out)
            injection this with this
            injection this with _ this _
            revert this
            decide
          have y1 := k78.cell x1 hgt2
          have hV8 := Lib.hid (hV7.out.kp k78 hrg)
          have hk8 := Lib.hid (grown_trans hk7k.out k78)
          have HB := Lib.hid (G.binary h8 (by omega) hn hq1)
          replace hq1 := Lib.hid hq1
          replace h8 := Lib.hid h8
          replace k78 := Lib.hid k78
          clear he7 x1
          go_wp2_with fail
          rw [← hW8]
          replace hW8 := Lib.hid hW8
          clear d0 d1 d2 d3 df
          refine HB.out.mono ?_
          rintro e w9 ⟨ao2, cap2, rfl, hn9, h9, hg9⟩
          have hgw8 : g < W8.heap.size := lt_of_block hV8.out.blk
          have hV9 := hV8.out.kp hg9 hrg
          have hk9 := Lib.hid (grown_trans hk8.out hg9)
          have z1 := hg9.cell y1 hgt2
          obtain ⟨q0, q1, q2, q3, q4, qf⟩ := hV9.cells
          have hgw9 : g < w9.heap.size := lt_of_block hV9.blk
          have hgt9 : gt < w9.heap.size := cell_lt z1
          replace hV9 := Lib.hid hV9
          replace hn9 := Lib.hid hn9
          replace h9 := Lib.hid h9
          obtain ⟨W9, hW9⟩ : ∃ W9, W9 = (w9.alloc (.cells #[.string b.kind, .string b.text, .int .i64 b.from_, .int .i64 b.to_, .slice ao2 b.kids.length cap2] 50)).alloc (.cells #[.string m.kind, .string m.text, .int .i64 m.from_, .int .i64 m.to_, .slice ao m.kids.length cap, .string b.kind, .string b.text, .int .i64 b.from_, .int .i64 b.to_, .slice ao2 b.kids.length cap2] 50) := ⟨_, rfl⟩
          have b89 := fun o => (Below.refl w9.heap.size w9).alloc (Nat.le_refl _) o
          have b8 : Below w9.heap.size w9 W9 := by rw [hW9]; exact (b89 _).alloc (by simp) _
          have hK9 : KdAt W9 (g + 1) [m, b] (.slice (some ⟨w9.heap.size + 1, 0, none⟩) 2 2) := by
            have hR : Reps (w9.alloc (.cells #[.string b.kind, .string b.text, .int .i64 b.from_, .int .i64 b.to_, .slice ao2 b.kids.length cap2] 50)) (fun k => g + 1 ≤ k) [m, b] [ndC m ao cap, ndC b ao2 cap2] := .cons (hV9.out.nd.below (b89 _)) (.cons ((hn9.out.mono hgw8).below (b89 _)) .nil)
            have := KdAt.lit hR (by simp; omega) (by simp)
            rw [World.size_alloc] at this
            rw [hW9]
            exact this
          have HM := Lib.hid (rMake_any (h9.out.below b8) (⟨#[98, 105, 110, 97, 114, 121]⟩ : ByteArray) t.text m.from_ (some ⟨w9.heap.size + 1, 0, none⟩) 2 2)
          replace hK9 := Lib.hid hK9
          unfold ndV
          go_wp2_with fail
          rw [← hW9]
          replace hW9 := Lib.hid hW9
          refine HM.out.mono ?_
          rintro e wA ⟨rfl, hbA⟩
          have b8A := b8.trans (hbA.mono b8.size)
          have hVA := hV9.out.below b8A
          have hA := Lib.hid (h9.out.below b8A)
          have hkA := Lib.hid (kp_bp hk9.out b8A)
          have hKA := hK9.out.below hbA
          have hcc := hVA.blk
          unfold ndC at hcc
          have hnd := Lib.hid (hKA.node (by simp) (⟨#[98, 105, 110, 97, 114, 121]⟩ : ByteArray) t.text m.from_ z2.at_)
          have hblk := Lib.hid hVA.blk
          clear hVA hKA q0 q1 q2 q3 q4 qf z1
          go_wp2_with (refine wpList_store_row rfl 50 _ _ rfl g _ rfl rfl 50 _ hcc info_nd rfl (by simp [Value.oneCell']) ?_)
          obtain ⟨WB, hWB⟩ : ∃ WB, WB = wA.setRow g (ndC (mkP (⟨#[98, 105, 110, 97, 114, 121]⟩ : ByteArray) t.text m.from_ z2 [m, b]) (some ⟨w9.heap.size + 1, 0, none⟩) 2).toArray := ⟨_, rfl⟩
          have hVB := Lib.hid (VarAt.put (n := mkP (⟨#[98, 105, 110, 97, 114, 121]⟩ : ByteArray) t.text m.from_ z2 [m, b]) hcc hnd.out)
          have hB := Lib.hid (hA.out.row hcc rfl (ndC (mkP (⟨#[98, 105, 110, 97, 114, 121]⟩ : ByteArray) t.text m.from_ z2 [m, b]) (some ⟨w9.heap.size + 1, 0, none⟩) 2).toArray)
          have hkB := Lib.hid (kp_row hkA.out (Nat.le_of_eq hg.out.symm) (ndC (mkP (⟨#[98, 105, 110, 97, 114, 121]⟩ : ByteArray) t.text m.from_ z2 [m, b]) (some ⟨w9.heap.size + 1, 0, none⟩) 2).toArray)
          rw [← hWB] at hVB hB hkB
          try dsimp only [Act.put]
          rw [show wA.setRow g #[Value.string (⟨#[98, 105, 110, 97, 114, 121]⟩ : ByteArray), .string t.text, .int .i64 m.from_, .int .i64 z2.at_, .slice (some ⟨w9.heap.size + 1, 0, none⟩) 2 2] = WB from hWB.symm]
          replace hWB := Lib.hid hWB
          go_roundg gk
          case measure => omega
          case rel => exact ⟨_, false, z2, _, _, rfl, hVB, hB, hkB, hq2⟩
end Go.Proofs.YtllbbacnakoomaaGreatDoor

/- Brackets. -/
namespace Go.Proofs.YtllbbacnakoomaaGreatDoor
open Go.RowKit
set_option linter.unusedVariables false

set_option maxRecDepth 100000 in
theorem bracketed_any {L : List Ct} {ta : Option Addr} {tc rb : Nat} {s : Ps} {w : World} (h : PS L ta tc rb s w) :
    Calls Tryz.prog 249 #[.pointer (some ⟨rb, 0, none⟩)] w fun e w' => e = .returned (.bool (bracketedP L s)) ∧ Below w.heap.size w w' := by
  have HI := rIs_any h (⟨#[40]⟩ : ByteArray)
  have HR := Lib.hid (fun (x : World) (hx : Below w.heap.size w x) => rest_any (h.below hx) 1 (.inr rfl))
  have HB := Lib.hid (fun (x : World) (hx : Below w.heap.size w x) => begins_any (h.below hx) (tokP L (s.at_ + 1)))
  unfold bracketedP
  unfold ctV at HB HR
  clear h
  cases hi : isP L s (⟨#[40]⟩ : ByteArray) with
  | false =>
    rw [hi] at HI
    go_enter Tryz.func249, Tryz.ntmps249
    go_wp2_with fail
    refine HI.mono ?_
    rintro e w1 ⟨rfl, hb1⟩
    go_wp2
    go_ret
    exact ⟨rfl, hb1⟩
  | true =>
    rw [hi] at HI
    go_enter Tryz.func249, Tryz.ntmps249
    go_wp2_with fail
    refine HI.mono ?_
    rintro e w1 ⟨rfl, hb1⟩
    go_wp2_with fail
    refine (HR.out w1 hb1).mono ?_
    rintro e w2 ⟨rfl, hb2⟩
    have hb12 := hb1.trans (hb2.mono hb1.size)
    go_wp2_with fail
    refine (HB.out w2 hb12).mono ?_
    rintro e w3 ⟨rfl, hb3⟩
    go_wp2
    go_ret
    exact ⟨rfl, hb12.trans (hb3.mono hb12.size)⟩

set_option maxRecDepth 100000 in
theorem inBrackets_any {L : List Ct} {ta : Option Addr} {tc rb : Nat} {R : Rec} (G : Good L ta tc rb R) {w : World} {s : Ps} {nest : Nat} {n : T} {s' : Ps} (h : PS L ta tc rb s w) (hn : nest ≤ 1000) (hr : inBrF L R nest s = some (n, s')) :
    Calls Tryz.prog 219 #[.pointer (some ⟨rb, 0, none⟩), .int .i64 nest] w (NdRet L ta tc rb w n s') := by
  have hlt := h.lt
  unfold inBrF at hr
  obtain ⟨⟨m, s1⟩, hr1, hr2⟩ := Option.bind_eq_some_iff.1 hr
  obtain ⟨rfl, rfl⟩ := Prod.mk.inj (Option.some.inj hr2)
  simp only
  clear hr hr2
  obtain ⟨W1, hW1⟩ : ∃ W1, W1 = w.alloc (.cells #[.string ⟨#[]⟩, .string ⟨#[]⟩, .int .i64 0, .int .i64 0, .slice none 0 0] 50) := ⟨_, rfl⟩
  have hb1 : Below w.heap.size w W1 := by rw [hW1]; exact (Below.refl w.heap.size w).alloc (Nat.le_refl _) _
  have hc1 : W1.heap[w.heap.size]? = some (.cells #[.string ⟨#[]⟩, .string ⟨#[]⟩, .int .i64 0, .int .i64 0, .slice none 0 0] 50 (0, 0)) := by rw [hW1]; exact heap_alloc_new w _
  have HN := Lib.hid (rNeed_any (h.below hb1) (⟨#[40]⟩ : ByteArray))
  obtain ⟨g, hg⟩ : ∃ g, g = w.heap.size := ⟨_, rfl⟩
  rw [← hg] at hc1
  have hrg : rb < g := by omega
  replace hg := Lib.hid hg
  replace hb1 := Lib.hid hb1
  go_enter Tryz.func219, Tryz.ntmps219
  go_wp2_with fail
  rw [← hW1, ← hg.out]
  replace hW1 := Lib.hid hW1
  refine HN.out.mono ?_
  rintro e w1 ⟨rfl, h1, k1⟩
  have hc2 := kp_block k1 hc1 (by omega)
  have HT := Lib.hid (G.typeName h1 hn hr1)
  have hk2 := Lib.hid (kp_pb hb1.out k1)
  replace hr1 := Lib.hid hr1
  replace h1 := Lib.hid h1
  go_wp2_with fail
  refine HT.out.mono ?_
  rintro e w2 ⟨ao, cap, rfl, hn2, h2, k2⟩
  have hc3 := kp_block k2 hc2 (by omega)
  have hgw : g < w1.heap.size := lt_of_block hc2
  unfold ndV
  obtain ⟨W3, hW3⟩ : ∃ W3, W3 = w2.alloc (.cells #[.string m.kind, .string m.text, .int .i64 m.from_, .int .i64 m.to_, .slice ao m.kids.length cap] 50) := ⟨_, rfl⟩
  have b23 : Below w2.heap.size w2 W3 := by rw [hW3]; exact (Below.refl w2.heap.size w2).alloc (Nat.le_refl _) _
  have hx3 : W3.heap[w2.heap.size]? = some (.cells #[.string m.kind, .string m.text, .int .i64 m.from_, .int .i64 m.to_, .slice ao m.kids.length cap] 50 (0, 0)) := by rw [hW3]; exact heap_alloc_new w2 _
  have hg2 : rb < w2.heap.size := h2.lt
  have h3 := h2.below b23
  have HM := Lib.hid (rNeed_any h3 (⟨#[41]⟩ : ByteArray))
  have hn3 := hn2.below b23
  have hk3 := kp_bp (grown_trans hk2.out k2) b23
  have hc4 := (b23.block _ (lt_of_block hc3)).trans hc3
  obtain ⟨g', hg'⟩ : ∃ g', g' = w2.heap.size := ⟨_, rfl⟩
  rw [← hg'] at hx3 hg2
  replace hg' := Lib.hid hg'
  go_wp2_with fail
  rw [← hW3, ← hg'.out]
  replace hW3 := Lib.hid hW3
  refine HM.out.mono ?_
  rintro e w4 ⟨rfl, h4, k4⟩
  have hx4 := kp_block k4 hx3 (by omega)
  have hc5 := kp_block k4 hc4 (by omega)
  have hn4 := Lib.hid ((hn3.kp k4 (by have := h.lt; have := lt_of_block hc2; omega)).mono (B' := g + 1) hgw)
  have hk4 := Lib.hid (grown_trans hk3 k4)
  obtain ⟨q0, q1, q2, q3, q4, qf⟩ := nd_cells hx4
  replace hx4 := Lib.hid hx4
  go_wp2_with (refine wpList_store_row rfl 50 _ _ rfl g _ rfl rfl 50 _ hc5 info_nd rfl (by simp [Value.oneCell']) ?_)
  refine bodyPost_ret (results_cell_row rfl _ _ g 50 _ (0, 0) _ rfl (setRow_heap _ _ _ _ _ _ hc5) Tryz.underlying50 rfl (by kernel_rfl)) rfl ?_
  exact ⟨ao, cap, rfl, (hn4.out.other (fun k hk => row_other _ hk) (Nat.lt_succ_self _)).mono (by rw [hg.out]; omega), h4.row hc5 rfl _, kp_row hk4.out (Nat.le_of_eq hg.out.symm) _⟩
end Go.Proofs.YtllbbacnakoomaaGreatDoor

/- A rule's walk in one bundle: the reader, the nodes that were read, the variables' blocks, the row that is under way. -/
namespace Go.Proofs.YtllbbacnakoomaaGreatDoor
open Go.RowKit
set_option linter.unusedVariables false

/-- a node and where its kids lie -/
structure Nd where
  (n : T) (ao : Option Addr) (cap : Nat)
def Nd.cs (x : Nd) : List Value := ndC x.n x.ao x.cap

/-- the blocks in which nodes lie: those of the nodes that were handed in, and those of the call; no variable's, not the row's that is under way -/
def Ft (F : Nat → Prop) (m : Nat) (vs : List (Nat × Obj)) (O : Option Nat) (k : Nat) : Prop := (F k ∨ m ≤ k) ∧ (∀ x ∈ vs, x.1 ≠ k) ∧ O ≠ some k

/-- what a rule that is handed a row may turn -/
structure Grown2 (w w' : World) (r : Nat) (O : Option Nat) : Prop where
  os : w'.os = w.os
  tape : w'.tape = w.tape
  output : w'.output = w.output
  size : w.heap.size ≤ w'.heap.size
  block : ∀ k, k < w.heap.size → k ≠ r → O ≠ some k → w'.heap[k]? = w.heap[k]?
  env : ∀ (b : Nat) x fz, w.heap[b]? = some (.cells x 113 fz) → w'.heap[b]? = some (.cells x 113 fz)

theorem Grown2.grown {w w' : World} {r : Nat} (h : Grown2 w w' r none) : w.grownBy w' (some r) :=
  ⟨h.os, h.tape, h.output, h.size, fun k hk hne => h.block k hk (fun e => hne (by rw [e])) (by simp)⟩

structure Cx (L : List Ct) (ta : Option Addr) (tc rb : Nat) (F : Nat → Prop) (O0 : Option Nat) (w0 : World) (s : Ps) (ns : List Nd) (vs : List (Nat × Obj)) (ks : List T) (v : Value) (w : World) : Prop where
  ps : PS L ta tc rb s w
  kp : Grown2 w0 w rb O0
  fr : ∀ k, F k → k ≠ rb ∧ k < w0.heap.size
  rb0 : rb < w0.heap.size
  tlo : ∀ b o, ta = some ⟨b, o, none⟩ → b < w0.heap.size
  vok : ∀ x ∈ vs, w.heap[x.1]? = some x.2 ∧ x.1 ≠ rb ∧ (w0.heap.size ≤ x.1 ∨ O0 = some x.1)
  vnd : (vs.map (·.1)).Nodup
  own : ∃ css, Own w 0 50 5 v css ∧ Reps w (Ft F w0.heap.size vs v.ownBlock) ks css
  olo : ∀ k, v.ownBlock = some k → k ≠ rb ∧ (w0.heap.size ≤ k ∨ O0 = some k)
  ovs : ∀ x ∈ vs, v.ownBlock ≠ some x.1
  nok : ∀ x ∈ ns, Rep w (Ft F w0.heap.size vs v.ownBlock) x.n x.cs

theorem nd_at {vs : List (Nat × Obj)} (h : (vs.map (·.1)).Nodup) {i j : Nat} {x y : Nat × Obj} (hi : vs[i]? = some x) (hj : vs[j]? = some y) (e : x.1 = y.1) : i = j := by
  have h' := List.pairwise_iff_getElem.1 h
  obtain ⟨a1, a2⟩ := List.getElem?_eq_some_iff.1 hi
  obtain ⟨b1, b2⟩ := List.getElem?_eq_some_iff.1 hj
  rcases Nat.lt_trichotomy i j with k | k | k
  · exact absurd (by rw [List.getElem_map, List.getElem_map, a2, b2]; exact e) (h' i j (by simpa using a1) (by simpa using b1) k)
  · exact k
  · exact absurd (by rw [List.getElem_map, List.getElem_map, a2, b2]; exact e.symm) (h' j i (by simpa using b1) (by simpa using a1) k)

variable {L : List Ct} {ta : Option Addr} {tc rb : Nat} {F : Nat → Prop} {O0 : Option Nat} {w0 : World} {s s' : Ps} {ns : List Nd} {vs : List (Nat × Obj)} {ks : List T} {v : Value} {w w' : World}

theorem PS.tlt (h : PS L ta tc rb s w) : ∀ b o, ta = some ⟨b, o, none⟩ → b < w.heap.size := fun b o e => by
  obtain ⟨c, fz, hc⟩ := h.tty b o e
  exact lt_of_block hc

/-- a token's block turned, not one of the row's -/
theorem PS.otherT (h : PS L ta tc rb s w) {g : Nat} {c : Array Value} {e : TypeId} {fz : Nat × Nat} (hg : w.heap[g]? = some (.cells c e fz)) (he : e ≠ 138 ∧ e ≠ 113 ∧ (e ≠ 95 ∨ ∀ b o, ta = some ⟨b, o, none⟩ → b ≠ g)) (hs : c.size ≠ 256) (hk : ∀ k, k ≠ g → w'.heap[k]? = w.heap[k]?) : PS L ta tc rb s w' := by
  rcases he.2.2 with h1 | h1
  · exact h.other hg ⟨he.1, he.2.1, h1⟩ hs hk
  have hne : ∀ {b : Nat} {y : Array Value} {e' : TypeId} {fy : Nat × Nat}, w.heap[b]? = some (.cells y e' fy) → e ≠ e' → b ≠ g := by
    rintro b y e' fy hb hee rfl
    rw [hg] at hb
    injection hb with hb
    injection hb with _ hb _
    exact hee hb
  obtain ⟨p, hp, hev⟩ := h.rd
  have htk : ∀ b o, ta = some ⟨b, o, none⟩ → w'.heap[b]? = w.heap[b]? := fun b o e => hk b (h1 b o e)
  refine ⟨?_, h.tne, h.len, h.cap, h.tsz, ⟨p, (hk _ (hne hp he.1)).trans hp, hev.moved fun b x fz hx => (hk b (hne hx he.2.1)).trans hx⟩, h.lo, h.hi, h.tab.block fun b y e' fy hy hs' => hk b (by
    rintro rfl
    rw [hg] at hy
    injection hy with hy
    injection hy with hy _ _
    rw [← hy] at hs'
    exact hs hs'), fun b o e => ?_⟩
  · intro hn
    obtain ⟨b, o, rfl, hat⟩ := h.toks hn
    exact ⟨b, o, rfl, fun i cs hi j u hj => (World.cell?_of_block (a := ⟨b, o + i * 7 + j, none⟩) (htk b o rfl)).trans (hat i cs hi j u hj)⟩
  · obtain ⟨y, fy, hy⟩ := h.tty b o e
    exact ⟨y, fy, (htk b o e).trans hy⟩

theorem Cx.start (h : PS L ta tc rb s w) : Cx L ta tc rb (fun _ => False) none w s [] [] [] (.slice none 0 0) w :=
  ⟨h, ⟨rfl, rfl, rfl, Nat.le_refl _, fun _ _ _ _ => rfl, fun _ _ _ h => h⟩, fun _ h => h.elim, h.lt, h.tlt, by simp, by simp, ⟨[], Own.nil _ _ _ _, .nil⟩, by simp [Value.ownBlock], by simp, by simp⟩

theorem Cx.startN (h : PS L ta tc rb s w) {G : Nat → Prop} (hG : ¬ G rb) {ns : List Nd} (hn : ∀ x ∈ ns, Rep w G x.n x.cs) : Cx L ta tc rb (fun k => G k ∧ k < w.heap.size) none w s ns [] [] (.slice none 0 0) w :=
  ⟨h, ⟨rfl, rfl, rfl, Nat.le_refl _, fun _ _ _ _ => rfl, fun _ _ _ h => h⟩, fun k hk => ⟨by rintro rfl; exact hG hk.1, hk.2⟩, h.lt, h.tlt, by simp, by simp, ⟨[], Own.nil _ _ _ _, .nil⟩, by simp [Value.ownBlock], by simp, fun x hx =>
    (hn x hx).wide fun k hk hl => ⟨.inl ⟨hk, hl⟩, by simp, by simp [Value.ownBlock]⟩⟩

/-- the rule called one that turns the reader -/
theorem Cx.call (C : Cx L ta tc rb F O0 w0 s ns vs ks v w) (h : PS L ta tc rb s' w') (k : w.grownBy w' (some rb)) : Cx L ta tc rb F O0 w0 s' ns vs ks v w' := by
  have hne : ∀ k, Ft F w0.heap.size vs v.ownBlock k → k ≠ rb := by
    rintro k ⟨h | h, _, _⟩
    · exact (C.fr k h).1
    · have := C.rb0; omega
  have hK : KeptOn (Ft F w0.heap.size vs v.ownBlock) w w' := fun i hi hl => k.block i hl (by intro e; exact hne i hi (Option.some.inj e))
  obtain ⟨p, hp, _⟩ := C.ps.rd
  refine ⟨h, ⟨k.os.trans C.kp.os, k.tape.trans C.kp.tape, k.output.trans C.kp.output, Nat.le_trans C.kp.size k.size, fun i h1 h2 h3 => (k.block i (Nat.lt_of_lt_of_le h1 C.kp.size) (by intro e; exact h2 (Option.some.inj e))).trans (C.kp.block i h1 h2 h3), fun b x fz hx => kp_env k hp b x fz (C.kp.env b x fz hx)⟩, C.fr, C.rb0, C.tlo, fun x hx => ?_, C.vnd, ?_, C.olo, C.ovs, fun x hx => (C.nok x hx).later hK⟩
  · obtain ⟨h1, h2⟩ := C.vok x hx
    exact ⟨kp_block k h1 h2.1, h2⟩
  · obtain ⟨css, h1, h2⟩ := C.own
    refine ⟨css, h1.kept k ?_, h2.later hK⟩
    cases hv : v.ownBlock with
    | none => exact .inl rfl
    | some i =>
      right
      intro e
      exact (C.olo i hv).1 (Option.some.inj e)

theorem Cx.below (C : Cx L ta tc rb F O0 w0 s ns vs ks v w) (hb : Below w.heap.size w w') : Cx L ta tc rb F O0 w0 s ns vs ks v w' := C.call (C.ps.below hb) (kp_of_below hb _)

theorem Own.block_lt {w : World} {B e sz : Nat} {v : Value} {css : List (List Value)} (h : Own w B e sz v css) {k : Nat} (hk : v.ownBlock = some k) : k < w.heap.size := by
  obtain ⟨c, fz, hc⟩ := h.size_lt k hk
  exact lt_of_block hc

/-- a node that a call gave, in new blocks or in those of the nodes that are there -/
theorem Cx.retF (C : Cx L ta tc rb F O0 w0 s ns vs ks v w) {n : T} {ao : Option Addr} {cap : Nat} (hn : Rep w' (fun k => Ft F w0.heap.size vs v.ownBlock k ∨ w.heap.size ≤ k) n (ndC n ao cap)) (h : PS L ta tc rb s' w') (k : w.grownBy w' (some rb)) : Cx L ta tc rb F O0 w0 s' (⟨n, ao, cap⟩ :: ns) vs ks v w' := by
  have C' := C.call h k
  refine ⟨C'.ps, C'.kp, C'.fr, C'.rb0, C'.tlo, C'.vok, C'.vnd, C'.own, C'.olo, C'.ovs, fun x hx => ?_⟩
  rcases List.mem_cons.1 hx with rfl | hx
  · refine hn.wide fun i hi _ => ?_
    rcases hi with hi | hi
    · exact hi
    · refine ⟨.inr (Nat.le_trans C.kp.size hi), fun y hy e => ?_, fun e => ?_⟩
      · have := lt_of_block (C.vok y hy).1
        omega
      · obtain ⟨css, h1, _⟩ := C.own
        have := h1.block_lt e
        omega
  · exact C'.nok x hx

theorem Cx.ret (C : Cx L ta tc rb F O0 w0 s ns vs ks v w) {n : T} {ao : Option Addr} {cap : Nat} (hn : NdAt w' w.heap.size n ao cap) (h : PS L ta tc rb s' w') (k : w.grownBy w' (some rb)) : Cx L ta tc rb F O0 w0 s' (⟨n, ao, cap⟩ :: ns) vs ks v w' :=
  C.retF (hn.wide fun i hi _ => .inr hi) h k

/-- a node without kids -/
theorem Cx.leaf (C : Cx L ta tc rb F O0 w0 s ns vs ks v w) (k t : ByteArray) (f o : Int) : Cx L ta tc rb F O0 w0 s (⟨.mk k t f o [], none, 0⟩ :: ns) vs ks v w :=
  C.ret (NdAt.leaf _ _ _ _ _ _) C.ps (kp_refl _ _)

/-- a block that is new -/
theorem Cx.belowV (C : Cx L ta tc rb F O0 w0 s ns vs ks v w) (hb : Below w.heap.size w w') {a : Nat} {o : Obj} (hg : w'.heap[a]? = some o) (hge : w.heap.size ≤ a) : Cx L ta tc rb F O0 w0 s ns ((a, o) :: vs) ks v w' := by
  have C' := C.below hb
  have hlt : ∀ x ∈ vs, x.1 < w.heap.size := fun x hx => lt_of_block (C.vok x hx).1
  have hown : ∀ k, v.ownBlock = some k → k < w.heap.size := fun k hk => by
    obtain ⟨css, h1, _⟩ := C.own
    exact h1.block_lt hk
  have hw : ∀ k, (Ft F w0.heap.size vs v.ownBlock k ∧ k < w.heap.size) → Ft F w0.heap.size ((a, o) :: vs) v.ownBlock k := by
    rintro k ⟨⟨h1, h2, h3⟩, h4⟩
    refine ⟨h1, fun x hx => ?_, h3⟩
    rcases List.mem_cons.1 hx with rfl | hx
    · simp only; omega
    · exact h2 x hx
  refine ⟨C'.ps, C'.kp, C'.fr, C'.rb0, C'.tlo, fun x hx => ?_, ?_, ?_, C'.olo, fun x hx => ?_, fun x hx => ?_⟩
  · rcases List.mem_cons.1 hx with rfl | hx
    · exact ⟨hg, by have := C.ps.lt; simp only; omega, .inl (Nat.le_trans C.kp.size hge)⟩
    · exact C'.vok x hx
  · rw [List.map_cons, List.nodup_cons]
    refine ⟨fun hm => ?_, C.vnd⟩
    obtain ⟨y, hy, e⟩ := List.mem_map.1 hm
    have := hlt y hy
    simp only at e
    omega
  · obtain ⟨css, h1, h2⟩ := C.own
    exact ⟨css, h1.below hb, ((h2.wide (G := fun k => Ft F w0.heap.size vs v.ownBlock k ∧ k < w.heap.size) fun k h1 h2 => ⟨h1, h2⟩).later (KeptOn.of_below hb)).wide fun k h _ => hw k h⟩
  · rcases List.mem_cons.1 hx with rfl | hx
    · intro e
      have := hown _ e
      simp only at this
      omega
    · exact C.ovs x hx
  · exact (((C.nok x hx).wide (G := fun k => Ft F w0.heap.size vs v.ownBlock k ∧ k < w.heap.size) fun k h1 h2 => ⟨h1, h2⟩).later (KeptOn.of_below hb)).wide fun k h _ => hw k h

/-- a new block -/
theorem Cx.alloc (C : Cx L ta tc rb F O0 w0 s ns vs ks v w) (o : Obj) {a : Nat} (ha : a = w.heap.size) : Cx L ta tc rb F O0 w0 s ns ((a, o) :: vs) ks v (w.alloc o) := by
  subst ha
  exact C.belowV ((Below.refl w.heap.size w).alloc (Nat.le_refl _) o) (heap_alloc_new w o) (Nat.le_refl _)

theorem Cx.var (C : Cx L ta tc rb F O0 w0 s ns vs ks v w) {i g : Nat} {o : Obj} (h : vs[i]? = some (g, o)) : w.heap[g]? = some o := (C.vok _ (List.mem_of_getElem? h)).1

theorem set_at {α : Type} {l : List α} {i j : Nat} {a x : α} (h : (l.set i a)[j]? = some x) : (j = i ∧ x = a) ∨ (j ≠ i ∧ l[j]? = some x) := by
  rw [List.getElem?_set] at h
  by_cases e : i = j
  · subst e
    left
    simp at h
    exact ⟨rfl, h.2.symm⟩
  · rw [if_neg e] at h
    exact .inr ⟨fun h => e h.symm, h⟩

/-- a variable's block turned -/
theorem Cx.turn (C : Cx L ta tc rb F O0 w0 s ns vs ks v w) {i g : Nat} {c c' : Array Value} {t : TypeId} {fz : Nat × Nat} (h : vs[i]? = some (g, .cells c t fz)) (ht : t ≠ 138 ∧ t ≠ 113) (hO : O0 = none ∨ t ≠ 95) (hs : c.size ≠ 256)
    (h1 : w'.heap[g]? = some (.cells c' t fz)) (h2 : ∀ k, k ≠ g → w'.heap[k]? = w.heap[k]?) (h3 : w'.os = w.os ∧ w'.tape = w.tape ∧ w'.output = w.output ∧ w.heap.size ≤ w'.heap.size) : Cx L ta tc rb F O0 w0 s ns (vs.set i (g, .cells c' t fz)) ks v w' := by
  have hb := C.var h
  have hg0 := (C.vok _ (List.mem_of_getElem? h)).2
  simp only at hg0
  have hge : ∀ x ∈ vs.set i (g, .cells c' t fz), ∃ y ∈ vs, y.1 = x.1 := by
    intro x hx
    obtain ⟨j, hj⟩ := List.getElem?_of_mem hx
    rcases set_at hj with ⟨_, rfl⟩ | ⟨_, hj⟩
    · exact ⟨_, List.mem_of_getElem? h, rfl⟩
    · exact ⟨x, List.mem_of_getElem? hj, rfl⟩
  have hft : ∀ k, Ft F w0.heap.size vs v.ownBlock k → Ft F w0.heap.size (vs.set i (g, .cells c' t fz)) v.ownBlock k := by
    rintro k ⟨h1, h2, h3⟩
    refine ⟨h1, fun x hx => ?_, h3⟩
    obtain ⟨y, hy, e⟩ := hge x hx
    rw [← e]
    exact h2 y hy
  have hK : KeptOn (Ft F w0.heap.size vs v.ownBlock) w w' := fun k hk _ => h2 _ (fun e => hk.2.1 _ (List.mem_of_getElem? h) e.symm)
  refine ⟨C.ps.otherT hb ⟨ht.1, ht.2, hO.symm.imp id fun hO b o e => by
    have := C.tlo b o e
    rcases hg0.2 with h | h
    · omega
    · rw [hO] at h; cases h⟩ hs h2, ⟨h3.1.trans C.kp.os, h3.2.1.trans C.kp.tape, h3.2.2.1.trans C.kp.output, Nat.le_trans C.kp.size h3.2.2.2, fun k k1 k2 k3 => (h2 _ (by
    rintro rfl
    rcases hg0.2 with e | e
    · omega
    · exact k3 e)).trans (C.kp.block k k1 k2 k3), fun b x fz' hx => (h2 _ (by
    rintro rfl
    have := C.kp.env _ _ _ hx
    rw [hb] at this
    injection this with this
    injection this with _ this _
    exact ht.2 this)).trans (C.kp.env b x fz' hx)⟩, C.fr, C.rb0, C.tlo, fun x hx => ?_, ?_, ?_, C.olo, fun x hx => ?_, fun x hx => ?_⟩
  · obtain ⟨j, hj⟩ := List.getElem?_of_mem hx
    rcases set_at hj with ⟨_, rfl⟩ | ⟨hne, hj⟩
    · exact ⟨h1, hg0⟩
    · have := C.vok x (List.mem_of_getElem? hj)
      exact ⟨(h2 _ (fun e => hne (nd_at C.vnd hj h e))).trans this.1, this.2⟩
  · have e : (vs.set i (g, .cells c' t fz)).map (·.1) = vs.map (·.1) := by
      refine List.ext_getElem? fun j => ?_
      rw [List.getElem?_map, List.getElem?_map, List.getElem?_set]
      by_cases hij : i = j
      · subst hij
        rw [if_pos rfl, h, if_pos (List.getElem?_eq_some_iff.1 h).1]
        rfl
      · rw [if_neg hij]
    rw [e]
    exact C.vnd
  · obtain ⟨css, k1, k2⟩ := C.own
    refine ⟨css, ?_, (k2.later hK).wide fun k hk _ => hft k hk⟩
    refine ⟨⟨k1.1.1, ?_⟩, k1.2⟩
    rcases k1.1.2 with h0 | ⟨g', cap, cur, hv, hg1, hg, r⟩
    · exact .inl h0
    · refine .inr ⟨g', cap, cur, hv, hg1, (h2 _ ?_).trans hg, r⟩
      intro e
      exact C.ovs _ (List.mem_of_getElem? h) (by rw [hv, ← e]; rfl)
  · obtain ⟨y, hy, e⟩ := hge x hx
    rw [← e]
    exact C.ovs y hy
  · exact ((C.nok x hx).later hK).wide fun k hk _ => hft k hk

/-- a node is put into a variable's block -/
theorem Cx.set (C : Cx L ta tc rb F O0 w0 s ns vs ks v w) {i g : Nat} {c : Array Value} {fz : Nat × Nat} (h : vs[i]? = some (g, .cells c 50 fz)) (hs : c.size = 5) (cs : Array Value) : Cx L ta tc rb F O0 w0 s ns (vs.set i (g, .cells cs 50 fz)) ks v (w.setRow g cs) :=
  C.turn h (by decide) (.inr (by decide)) (by omega) (setRow_heap _ _ _ _ _ _ (C.var h)) (fun k hk => row_other _ hk) ⟨rfl, rfl, rfl, by simp only [World.setRow, Array.size_modify]; exact Nat.le_refl _⟩

/-- a token is put into a variable's block -/
theorem Cx.setT {F : Nat → Prop} (C : Cx L ta tc rb F none w0 s ns vs ks v w) {i g : Nat} {c : Array Value} {fz : Nat × Nat} (h : vs[i]? = some (g, .cells c 95 fz)) (hs : c.size = 7) (cs : Array Value) : Cx L ta tc rb F none w0 s ns (vs.set i (g, .cells cs 95 fz)) ks v (w.setRow g cs) :=
  C.turn h (by decide) (.inl rfl) (by omega) (setRow_heap _ _ _ _ _ _ (C.var h)) (fun k hk => row_other _ hk) ⟨rfl, rfl, rfl, by simp only [World.setRow, Array.size_modify]; exact Nat.le_refl _⟩

/-- a cell of a variable's block -/
theorem Cx.setc (C : Cx L ta tc rb F O0 w0 s ns vs ks v w) {i g : Nat} {c : Array Value} {t : TypeId} {fz : Nat × Nat} (h : vs[i]? = some (g, .cells c t fz)) (ht : t ≠ 138 ∧ t ≠ 113 ∧ t ≠ 95) (hs : c.size ≠ 256) (j : Nat) (u : Value) : Cx L ta tc rb F O0 w0 s ns (vs.set i (g, .cells (c.setIfInBounds j u) t fz)) ks v (w.setCell ⟨g, j, none⟩ u) :=
  C.turn h ⟨ht.1, ht.2.1⟩ (.inr ht.2.2) hs (rd_set (C.var h)) (fun k hk => Below.heap_setCell _ _ _ _ (fun e => hk e)) ⟨rfl, rfl, rfl, by simp [World.size_setCell]⟩

/-- less is held -/
theorem Cx.weak (C : Cx L ta tc rb F O0 w0 s ns vs ks v w) {ns' : List Nd} {vs' : List (Nat × Obj)} (hn : ∀ x ∈ ns', x ∈ ns) (hv : vs'.Sublist vs) : Cx L ta tc rb F O0 w0 s ns' vs' ks v w := by
  have hft : ∀ k, Ft F w0.heap.size vs v.ownBlock k → Ft F w0.heap.size vs' v.ownBlock k := fun k ⟨h1, h2, h3⟩ => ⟨h1, fun x hx => h2 x (hv.subset hx), h3⟩
  obtain ⟨css, h1, h2⟩ := C.own
  refine ⟨C.ps, C.kp, C.fr, C.rb0, C.tlo, fun x hx => C.vok x (hv.subset hx), List.Pairwise.sublist (hv.map _) C.vnd, ⟨css, h1, h2.wide fun k hk _ => hft k hk⟩, C.olo, fun x hx => C.ovs x (hv.subset hx), fun x hx => (C.nok x (hn x hx)).wide fun k hk _ => hft k hk⟩
/-- scopes that were there at the start -/
theorem Cx.env (C : Cx L ta tc rb F O0 w0 s ns vs ks v w) {p : Option Addr} {e : Ev} (h : EvAt w0 p e) : EvAt w p e := h.moved C.kp.env

theorem Cx.up (C : Cx L ta tc rb F O0 w0 s ns vs ks v w) {n : Int} (h1 : -1 ≤ s.at_ + n) (h2 : s.at_ + n ≤ L.length) : Cx L ta tc rb F O0 w0 (s.up n) ns vs ks v (w.setCell ⟨rb, 1, none⟩ (.int .i64 (s.at_ + n))) := C.call (C.ps.up h1 h2) (kp_set _ _ _ _)
theorem Cx.into (C : Cx L ta tc rb F O0 w0 s ns vs ks v w) {p : Option Addr} {e : Ev} (h : EvAt w p e) : Cx L ta tc rb F O0 w0 (s.into e) ns vs ks v (w.setCell ⟨rb, 2, none⟩ (.pointer p)) := C.call (C.ps.into h) (kp_set _ _ _ _)

theorem Cx.sl (C : Cx L ta tc rb F O0 w0 s ns vs ks v w) : ∃ ao cap, v = .slice ao ks.length cap := by
  obtain ⟨css, h1, h2⟩ := C.own
  obtain ⟨ao, cap, rfl, _⟩ := h1.rown h2.len
  exact ⟨ao, cap, rfl⟩

theorem Reps.pick {w : World} {G : Nat → Prop} : ∀ {xs : List Nd}, (∀ x ∈ xs, Rep w G x.n x.cs) → Reps w G (xs.map (·.n)) (xs.map Nd.cs)
  | [], _ => .nil
  | x :: xs, h => .cons (h x (by simp)) (Reps.pick fun y hy => h y (by simp [hy]))

/-- a literal of nodes: the row that is under way from here on -/
theorem Cx.lit (C : Cx L ta tc rb F O0 w0 s ns vs ks v w) (xs : List Nd) (h : ∀ x ∈ xs, x ∈ ns) (hl : xs.length ≤ 1000) {o : Obj} (ho : o = .cells (xs.map Nd.cs).flatten.toArray 50 (0, 0)) {a n : Nat} (ha : a = w.heap.size) (hn : n = xs.length) : Cx L ta tc rb F O0 w0 s ns vs (xs.map (·.n)) (.slice (some ⟨a, 0, none⟩) n n) (w.alloc o) := by
  subst ho ha hn
  have hb := (Below.refl w.heap.size w).alloc (Nat.le_refl _) (.cells (xs.map Nd.cs).flatten.toArray 50 (0, 0))
  have C' := C.below hb
  have hsz : ∀ c ∈ xs.map Nd.cs, c.length = 5 := by
    intro c hc
    obtain ⟨x, _, rfl⟩ := List.mem_map.1 hc
    rfl
  have hf : (xs.map Nd.cs).flatten.length = xs.length * 5 := by rw [flatten_len hsz, List.length_map]
  have hw : ∀ k, (Ft F w0.heap.size vs v.ownBlock k ∧ k < w.heap.size) → Ft F w0.heap.size vs (some w.heap.size) k := by
    rintro k ⟨⟨h1, h2, h3⟩, h4⟩
    refine ⟨h1, h2, fun e => ?_⟩
    have := Option.some.inj e
    omega
  have hN : ∀ x ∈ ns, Rep (w.alloc (.cells (xs.map Nd.cs).flatten.toArray 50 (0, 0))) (Ft F w0.heap.size vs (some w.heap.size)) x.n x.cs := fun x hx =>
    (((C.nok x hx).wide (G := fun k => Ft F w0.heap.size vs v.ownBlock k ∧ k < w.heap.size) fun k h1 h2 => ⟨h1, h2⟩).later (KeptOn.of_below hb)).wide fun k h _ => hw k h
  have hO : Own (w.alloc (.cells (xs.map Nd.cs).flatten.toArray 50 (0, 0))) 0 50 5 (.slice (some ⟨w.heap.size, 0, none⟩) xs.length xs.length) (xs.map Nd.cs) := by
    refine ⟨⟨by rw [flatten_len hsz], .inr ⟨w.heap.size, xs.length, (xs.map Nd.cs).flatten.toArray, by rw [List.length_map], Nat.zero_le _, heap_alloc_new w _, by rw [List.length_map]; exact Nat.le_refl _, by unfold maxLen; omega, by rw [List.size_toArray, hf], ?_⟩⟩, hsz⟩
    rw [List.length_map, ← hf, List.take_length]
  refine ⟨C'.ps, C'.kp, C'.fr, C'.rb0, C'.tlo, C'.vok, C'.vnd, ⟨_, hO, Reps.pick fun x hx => hN x (h x hx)⟩, fun k hk => ?_, fun x hx e => ?_, hN⟩
  · have := Option.some.inj hk
    simp only at this
    have h1 := C.ps.lt
    exact ⟨by omega, .inl (by have := C.kp.size; omega)⟩
  · have h1 := lt_of_block (C.vok x hx).1
    have := Option.some.inj e
    simp only at this
    omega

/-- a literal of nodes that becomes a node's kids at once -/
theorem Cx.litN (C : Cx L ta tc rb F O0 w0 s ns vs ks v w) (xs : List Nd) (h : ∀ x ∈ xs, x ∈ ns) (hl : xs.length ≤ 1000) {o : Obj} (ho : o = .cells (xs.map Nd.cs).flatten.toArray 50 (0, 0)) {a n : Nat} (ha : a = w.heap.size) (hn : n = xs.length) (k t : ByteArray) (f : Int) : Cx L ta tc rb F O0 w0 s (⟨mkP k t f s (xs.map (·.n)), some ⟨a, 0, none⟩, n⟩ :: ns) vs ks v (w.alloc o) := by
  subst ho ha hn
  have hb := (Below.refl w.heap.size w).alloc (Nat.le_refl _) (.cells (xs.map Nd.cs).flatten.toArray 50 (0, 0))
  have hsz : ∀ c ∈ xs.map Nd.cs, c.length = 5 := by
    intro c hc
    obtain ⟨x, _, rfl⟩ := List.mem_map.1 hc
    rfl
  have hlm : (xs.map (·.n)).length = xs.length := List.length_map _
  refine C.retF (w' := w.alloc (.cells (xs.map Nd.cs).flatten.toArray 50 (0, 0))) ?_ (C.ps.below hb) (kp_of_below hb _)
  unfold mkP
  have hR : Reps (w.alloc (.cells (xs.map Nd.cs).flatten.toArray 50 (0, 0))) (fun k => Ft F w0.heap.size vs v.ownBlock k ∨ w.heap.size ≤ k) (xs.map (·.n)) (xs.map Nd.cs) :=
    Reps.pick fun x hx => ((C.nok x (h x hx)).later (KeptOn.of_below hb)).wide fun k hk _ => .inl hk
  have := Rep.mk (k := k) (t := t) (f := f) (o := s.at_) (ao := some ⟨w.heap.size, 0, none⟩) (cap := xs.length) hR (fun _ => ⟨w.heap.size, 0, rfl, .inr (Nat.le_refl _), (by
    obtain ⟨b, o, e, r⟩ := row_new w hsz 50 rfl rfl (by assumption)
    simp only [Option.some.injEq, Addr.mk.injEq, and_true] at e
    obtain ⟨rfl, rfl⟩ := e
    exact r)⟩) ⟨by omega, by omega⟩
  unfold ndC
  exact this

/-- nothing is under way -/
theorem Cx.fresh (C : Cx L ta tc rb F O0 w0 s ns vs ks v w) : Cx L ta tc rb F O0 w0 s ns vs [] (.slice none 0 0) w := by
  have hft : ∀ k, Ft F w0.heap.size vs v.ownBlock k → Ft F w0.heap.size vs (Value.ownBlock (.slice none 0 0)) k := fun k ⟨h1, h2, h3⟩ => ⟨h1, h2, by simp [Value.ownBlock]⟩
  exact ⟨C.ps, C.kp, C.fr, C.rb0, C.tlo, C.vok, C.vnd, ⟨[], Own.nil _ _ _ _, .nil⟩, by simp [Value.ownBlock], by simp [Value.ownBlock], fun x hx => (C.nok x hx).wide fun k hk _ => hft k hk⟩

/-- the row that was under way is a node's -/
theorem Cx.nodeOf {ao : Option Addr} {n cap : Nat} (C : Cx L ta tc rb F none w0 s ns vs ks (.slice ao n cap) w) (hl : ks.length ≤ 1000000000) (k t : ByteArray) (f o : Int) : Cx L ta tc rb F none w0 s (⟨.mk k t f o ks, ao, cap⟩ :: ns) vs [] (.slice none 0 0) w := by
  have C' := C.fresh
  refine ⟨C'.ps, C'.kp, C'.fr, C'.rb0, C'.tlo, C'.vok, C'.vnd, C'.own, C'.olo, C'.ovs, fun x hx => ?_⟩
  rcases List.mem_cons.1 hx with rfl | hx
  · obtain ⟨css, h1, h2⟩ := C.own
    obtain ⟨ao', cap', hv, hc, hm, hr, _⟩ := h1.rown h2.len
    injection hv with e1 e2 e3
    subst e1 e2 e3
    refine .mk (h2.wide fun k hk _ => ⟨hk.1, hk.2.1, by simp [Value.ownBlock]⟩) ?_ ⟨hc, hl⟩
    intro hne
    obtain ⟨b, o, rfl, hat⟩ := hr hne
    refine ⟨b, o, rfl, ⟨.inr ?_, fun x hx e => C.ovs x hx (by rw [e]; rfl), by simp [Value.ownBlock]⟩, hat⟩
    rcases (C.olo b rfl).2 with h | h
    · exact h
    · cases h
  · exact C'.nok x hx

theorem Cx.made {ao : Option Addr} {n cap : Nat} (C : Cx L ta tc rb F none w0 s ns vs ks (.slice ao n cap) w) (hb : Below w.heap.size w w') (hl : ks.length ≤ 1000000000) (k t : ByteArray) (f : Int) : Cx L ta tc rb F none w0 s (⟨mkP k t f s ks, ao, cap⟩ :: ns) vs [] (.slice none 0 0) w' := (C.below hb).nodeOf hl k t f s.at_

/-- what a rule gives at its end -/
theorem Cx.out (C : Cx L ta tc rb (fun _ => False) none w0 s ns vs ks v w) {n : T} {ao : Option Addr} {cap : Nat} (h : (⟨n, ao, cap⟩ : Nd) ∈ ns) : NdAt w w0.heap.size n ao cap ∧ PS L ta tc rb s w ∧ w0.grownBy w (some rb) :=
  ⟨(C.nok _ h).wide fun k hk _ => hk.1.elim (fun h => h.elim) id, C.ps, C.kp.grown⟩

theorem Cx.outF {G : Nat → Prop} (C : Cx L ta tc rb (fun k => G k ∧ k < w0.heap.size) none w0 s ns vs ks v w) {n : T} {ao : Option Addr} {cap : Nat} (h : (⟨n, ao, cap⟩ : Nd) ∈ ns) : Rep w (fun k => G k ∨ w0.heap.size ≤ k) n (ndC n ao cap) ∧ PS L ta tc rb s w ∧ w0.grownBy w (some rb) :=
  ⟨(C.nok _ h).wide fun k hk _ => hk.1.elim (fun h => .inl h.1) .inr, C.ps, C.kp.grown⟩

theorem Cx.nrb (C : Cx L ta tc rb F O0 w0 s ns vs ks v w) : ¬ Ft F w0.heap.size vs v.ownBlock rb := by
  rintro ⟨h | h, _, _⟩
  · exact (C.fr _ h).1 rfl
  · have := C.rb0; omega

/-- what a rule that is handed a node gives -/
def NdRetF (L : List Ct) (ta : Option Addr) (tc rb : Nat) (H : Nat → Prop) (w : World) (n : T) (s : Ps) (e : Ending) (w' : World) : Prop :=
  ∃ ao cap, e = .returned (ndV n ao cap) ∧ Rep w' (fun k => H k ∨ w.heap.size ≤ k) n (ndC n ao cap) ∧ PS L ta tc rb s w' ∧ w.grownBy w' (some rb)

abbrev bxO (n : T) (ao : Option Addr) (cap : Nat) : Obj := .cells #[.string n.kind, .string n.text, .int .i64 n.from_, .int .i64 n.to_, .slice ao n.kids.length cap] 50 (0, 0)
abbrev rowA (n : T) (ao : Option Addr) (cap : Nat) : Array Value := #[.string n.kind, .string n.text, .int .i64 n.from_, .int .i64 n.to_, .slice ao n.kids.length cap]
/-- a zero node in a block -/
abbrev nzO : Obj := .cells #[.string ⟨#[]⟩, .string ⟨#[]⟩, .int .i64 0, .int .i64 0, .slice none 0 0] 50 (0, 0)
/-- a node without kids in a block -/
abbrev lfO (n : T) : Obj := .cells #[.string n.kind, .string n.text, .int .i64 n.from_, .int .i64 n.to_, .slice none 0 0] 50 (0, 0)
/-- a token in a block -/
abbrev ctO (t : Ct) : Obj := .cells #[.int .i64 t.kind, .string t.text, .string t.file, .int .i64 t.f, .int .i64 t.t, .int .i64 t.fro, .int .i64 t.cnt] 95 (0, 0)

theorem ct_box {g : Nat} {t : Ct} (h : w.heap[g]? = some (ctO t)) : w.cell? ⟨g, 0, none⟩ = some (.int .i64 t.kind) ∧ w.cell? ⟨g, 1, none⟩ = some (.string t.text) ∧ w.cell? ⟨g, 2, none⟩ = some (.string t.file) ∧ w.cell? ⟨g, 3, none⟩ = some (.int .i64 t.f) ∧ w.cell? ⟨g, 4, none⟩ = some (.int .i64 t.t) ∧ w.cell? ⟨g, 5, none⟩ = some (.int .i64 t.fro) ∧ w.cell? ⟨g, 6, none⟩ = some (.int .i64 t.cnt) ∧ ∀ j, w.frozen? ⟨g, j, none⟩ = false := by
  refine ⟨?_, ?_, ?_, ?_, ?_, ?_, ?_, fun j => Lib.frozen_of_heap h j⟩ <;> rw [Lib.cell_of_heap h] <;> rfl

theorem mem1 {x : Nd} {l : List Nd} : ∀ y ∈ [x], y ∈ x :: l := by
  intro y hy
  simp at hy
  subst hy
  exact .head _
theorem hasP_ok {L : List Ct} {s : Ps} {x : ByteArray} (h : s.bad = false) : hasP L s x = isP L s x := by unfold hasP; rw [h]; rfl
theorem hasW_ok {L : List Ct} {s : Ps} {x : ByteArray} (h : s.bad = false) : hasW L s x = wordP L s x := by unfold hasW; rw [h]; rfl

open Classical in
theorem wp_scope_gh {P : Program} {a : Act} {w : World} {Q : Exit → Act → World → Prop} {c rest : Code} (l : Nat) (J : Nat → Act → World → Prop) (hf : findLabel c l = some (.seq .skip rest))
    (first : (Hid (∀ n a w, J n a w → rest.wp P (Exit.jump l (fun a w => ∃ n, J n a w) Q) a w)) → c.wp P (Exit.jump l (fun a w => ∃ n, J n a w) Q) a w)
    (pass : ∀ n a w, J n a w → rest.wp P (Exit.jump l (fun a' w' => ∃ n', n' < n ∧ J n' a' w') Q) a w) : (Code.scope c).wp P Q a w := by
  refine wp_scope_loop l (fun a w => ∃ n, J n a w) (fun a w => leastOf (fun n => J n a w)) hf ?_ ?_
  · intro h
    exact first (Lib.hid (fun n a w hj => h.out a w ⟨n, hj⟩))
  · rintro a w hj
    have hl := leastOf_spec hj
    refine Code.wp_mono ?_ (pass _ a w hl.1)
    intro e a' w' q
    cases e <;> first
      | exact q
      | exact ⟨q.1, ⟨_, q.2.choose_spec.2⟩, Nat.lt_of_le_of_lt ((leastOf_spec ⟨_, q.2.choose_spec.2⟩).2 _ q.2.choose_spec.2) q.2.choose_spec.1⟩

theorem PS.grown {g : Nat} {c : Array Value} {fz : Nat × Nat} (h : PS L ta tc rb s w) (hg : w.heap[g]? = some (.cells c 50 fz)) (hs : c.size ≠ 256) (hk : w.grownBy w' (some g)) : PS L ta tc rb s w' := by
  have hne : ∀ {b : Nat} {y : Array Value} {e' : TypeId} {fy : Nat × Nat}, w.heap[b]? = some (.cells y e' fy) → 50 ≠ e' → w'.heap[b]? = some (.cells y e' fy) := by
    intro b y e' fy hb hee
    refine kp_block hk hb ?_
    rintro rfl
    rw [hg] at hb
    injection hb with hb
    injection hb with _ hb _
    exact hee hb
  obtain ⟨p, hp, hev⟩ := h.rd
  refine ⟨?_, h.tne, h.len, h.cap, h.tsz, ⟨p, hne hp (by decide), hev.moved fun b x fz hx => hne hx (by decide)⟩, h.lo, h.hi, h.tab.block fun b y e' fy hy hs' => hk.block b (lt_of_block hy) (by
    intro e
    have := Option.some.inj e
    subst this
    rw [hg] at hy
    injection hy with hy
    injection hy with hy _ _
    rw [← hy] at hs'
    exact hs hs'), fun b o e => ?_⟩
  · intro hn
    obtain ⟨b, o, rfl, hat⟩ := h.toks hn
    refine ⟨b, o, rfl, fun i cs hi j u hj => ?_⟩
    obtain ⟨y, fy, hy⟩ := h.tty b o rfl
    exact (World.cell?_of_block (a := ⟨b, o + i * 7 + j, none⟩) ((hne hy (by decide)).trans hy.symm)).trans (hat i cs hi j u hj)
  · obtain ⟨y, fy, hy⟩ := h.tty b o e
    exact ⟨y, fy, hne hy (by decide)⟩

/-- the row that is under way turned: one node more -/
theorem Cx.snoc (C : Cx L ta tc rb F O0 w0 s ns vs ks v w) {x : Nd} (hx : x ∈ ns) {css : List (List Value)} (h1 : Own w 0 50 5 v css) (h2 : Reps w (Ft F w0.heap.size vs v.ownBlock) ks css) {n g' cap : Nat} (ho : Own w' 0 50 5 (.slice (some ⟨g', 0, none⟩) n cap) (css ++ [x.cs])) (hg : w.grownBy w' v.ownBlock) (hl : v.ownBlock = some g' ∨ w.heap.size ≤ g') :
    n = ks.length + 1 ∧ Cx L ta tc rb F O0 w0 s ns vs (ks ++ [x.n]) (.slice (some ⟨g', 0, none⟩) n cap) w' := by
  have hn : n = ks.length + 1 := by
    obtain ⟨_, _, e, _⟩ := ho.row
    injection e with _ e _
    rw [e, List.length_append, h2.len]
    rfl
  have hblk : ∀ k, k < w.heap.size → v.ownBlock ≠ some k → w'.heap[k]? = w.heap[k]? := fun k hk hne => hg.block k hk (fun e => hne e.symm)
  have hps : PS L ta tc rb s w' := by
    cases hv : v.ownBlock with
    | none =>
      rw [hv] at hg
      exact C.ps.below ⟨hg.os, hg.tape, hg.output, hg.size, fun k hk => hg.block k hk (by simp)⟩
    | some b =>
      rw [hv] at hg
      rcases h1.1.2 with ⟨rfl, _⟩ | ⟨g, cap', cur, rfl, _, hgb, _, _, hs, _⟩
      · simp [Value.ownBlock] at hv
      · simp only [Value.ownBlock, Option.some.injEq] at hv
        subst hv
        exact C.ps.grown hgb (by omega) hg
  have hft : ∀ k, (Ft F w0.heap.size vs v.ownBlock k ∧ k < w.heap.size) → Ft F w0.heap.size vs (some g') k := by
    rintro k ⟨⟨a, b, c⟩, d⟩
    refine ⟨a, b, fun e => ?_⟩
    have e' := Option.some.inj e
    rcases hl with hl | hl
    · exact c (by rw [hl, e'])
    · omega
  have hK : KeptOn (fun k => Ft F w0.heap.size vs v.ownBlock k ∧ k < w.heap.size) w w' := fun k hk hl => hblk k hl hk.1.2.2
  have hN : ∀ y ∈ ns, Rep w' (Ft F w0.heap.size vs (some g')) y.n y.cs := fun y hy => (((C.nok y hy).wide (G := fun k => Ft F w0.heap.size vs v.ownBlock k ∧ k < w.heap.size) fun k h1 h2 => ⟨h1, h2⟩).later hK).wide fun k h _ => hft k h
  refine ⟨hn, hps, ⟨hg.os.trans C.kp.os, hg.tape.trans C.kp.tape, hg.output.trans C.kp.output, Nat.le_trans C.kp.size hg.size, fun k a b c => (hblk k (Nat.lt_of_lt_of_le a C.kp.size) (fun e => by
      rcases (C.olo k e).2 with h | h
      · omega
      · exact c h)).trans (C.kp.block k a b c), fun b y fz hy => (hblk b (lt_of_block (C.kp.env b y fz hy)) (fun e => by
      obtain ⟨c, fz', hc⟩ := h1.size_lt b e
      rw [C.kp.env b y fz hy] at hc
      injection hc with hc
      injection hc with _ hc _
      revert hc
      decide)).trans (C.kp.env b y fz hy)⟩, C.fr, C.rb0, C.tlo, fun y hy => ?_, C.vnd, ⟨css ++ [x.cs], ho, ?_⟩, fun k hk => ?_, fun y hy e => ?_, hN⟩
  · obtain ⟨a, b⟩ := C.vok y hy
    exact ⟨(hblk _ (lt_of_block a) (C.ovs y hy)).trans a, b⟩
  · exact ((((h2.snoc (C.nok x hx)).wide (G := fun k => Ft F w0.heap.size vs v.ownBlock k ∧ k < w.heap.size) fun k h1 h2 => ⟨h1, h2⟩).later hK).wide fun k h _ => hft k h)
  · have e := Option.some.inj hk
    simp only at e
    subst e
    rcases hl with hl | hl
    · exact C.olo _ hl
    · have h1 := C.ps.lt
      exact ⟨by omega, .inl (by have := C.kp.size; omega)⟩
  · have e' := Option.some.inj e
    simp only at e'
    rcases hl with hl | hl
    · exact C.ovs y hy (by rw [hl, e'])
    · have := lt_of_block (C.vok y hy).1
      omega

/-- 'kids = append(kids, x)' in a region that does not draw -/
theorem wpList_snoc (C : Cx L ta tc rb F O0 w0 s ns vs ks v w) {x : Nd} (hx : x ∈ ns) (hl : ks.length + 1 ≤ 1000000000) {ops : Array Oper} {rest : List Oper} {o : Oper} {a : Act} {Q : Exit → Act → World → Prop}
    (hgd : o.guard = none) {sl xo : Operand} (ho : o.op = .call { callee := .builtin .append, args := #[sl, xo], argTypes := #[48, 48] }) (hs : a.eval sl = v) {c g : Nat} (hxo : a.eval xo = .slice (some ⟨g, 0, none⟩) 1 c) (hg : g = w.heap.size)
    (h : ∀ m ao cap w', Hid ((ks ++ [x.n]).length = m) → Cx L ta tc rb F O0 w0 s ns vs (ks ++ [x.n]) (.slice ao m cap) w' → wpList Tryz.prog ops Q rest (a.put o.dst (.slice ao m cap)) w') :
    wpList Tryz.prog ops Q (o :: rest) a (w.alloc (.cells x.cs.toArray 50 (0, 0))) := by
  obtain ⟨css, h1, h2⟩ := C.own
  refine wpList_append1L E50 hgd ho h1 hs hxo hg rfl (by intro u hu; unfold Nd.cs ndC at hu; simp at hu; rcases hu with rfl | rfl | rfl | rfl | rfl <;> rfl) (by rw [h2.len]; exact hl) (by decide) (Nat.zero_le _) ?_
  intro n g' cap w' k1 k2 k3
  obtain ⟨k0, k4⟩ := C.snoc hx h1 h2 k1 k2 k3
  exact h n _ cap w' (Lib.hid (by rw [k0, List.length_append]; rfl)) k4

/-! ## 'from, t := r.At, r.Tok()': a region that draws -/

abbrev ctZ : Obj := .cells #[.int .i64 0, .string ⟨#[]⟩, .string ⟨#[]⟩, .int .i64 0, .int .i64 0, .int .i64 0, .int .i64 0] 95 (0, 0)

abbrev set7 (w : World) (g : Nat) (v0 v1 v2 v3 v4 v5 v6 : Value) : World := ((((((w.setCell ⟨g, 0, none⟩ v0).setCell ⟨g, 1, none⟩ v1).setCell ⟨g, 2, none⟩ v2).setCell ⟨g, 3, none⟩ v3).setCell ⟨g, 4, none⟩ v4).setCell ⟨g, 5, none⟩ v5).setCell ⟨g, 6, none⟩ v6

theorem ct_set7 {w : World} {g : Nat} {a0 a1 a2 a3 a4 a5 a6 v0 v1 v2 v3 v4 v5 v6 : Value} {e : TypeId} {fz : Nat × Nat} (h : w.heap[g]? = some (.cells #[a0, a1, a2, a3, a4, a5, a6] e fz)) : (set7 w g v0 v1 v2 v3 v4 v5 v6).heap[g]? = some (.cells #[v0, v1, v2, v3, v4, v5, v6] e fz) :=
  rd_set (c := #[v0, v1, v2, v3, v4, v5, a6]) (rd_set (c := #[v0, v1, v2, v3, v4, a5, a6]) (rd_set (c := #[v0, v1, v2, v3, a4, a5, a6]) (rd_set (c := #[v0, v1, v2, a3, a4, a5, a6]) (rd_set (c := #[v0, v1, a2, a3, a4, a5, a6]) (rd_set (c := #[v0, a1, a2, a3, a4, a5, a6]) (rd_set h))))))

theorem ct_set7_below {B : Nat} {a w : World} {g : Nat} {v0 v1 v2 v3 v4 v5 v6 : Value} (h : Below B a w) (hg : B ≤ g) : Below B a (set7 w g v0 v1 v2 v3 v4 v5 v6) :=
  ((((((h.setCell hg _).setCell hg _).setCell hg _).setCell hg _).setCell hg _).setCell hg _).setCell hg _

theorem cell_set1 {w : World} {g b i j : Nat} {x u : Value} (h : w.cell? ⟨b, j, none⟩ = some u) (hne : g ≠ b) : (w.setCell ⟨g, i, none⟩ x).cell? ⟨b, j, none⟩ = some u := by
  have e : (w.setCell ⟨g, i, none⟩ x).heap[b]? = w.heap[b]? := Below.heap_setCell _ _ _ _ (fun e => hne e.symm)
  exact (World.cell?_of_block (a := ⟨b, j, none⟩) e).trans h

theorem cell_set7 {w : World} {g b j : Nat} {v0 v1 v2 v3 v4 v5 v6 u : Value} (h : w.cell? ⟨b, j, none⟩ = some u) (hne : g ≠ b) : (set7 w g v0 v1 v2 v3 v4 v5 v6).cell? ⟨b, j, none⟩ = some u :=
  cell_set1 (cell_set1 (cell_set1 (cell_set1 (cell_set1 (cell_set1 (cell_set1 h hne) hne) hne) hne) hne) hne) hne

theorem cells7 {w : World} {b : Nat} {a0 a1 a2 a3 a4 a5 a6 : Value} {e : TypeId} (h : w.heap[b]? = some (.cells #[a0, a1, a2, a3, a4, a5, a6] e (0, 0))) : w.cell? ⟨b, 0, none⟩ = some a0 ∧ w.cell? ⟨b, 1, none⟩ = some a1 ∧ w.cell? ⟨b, 2, none⟩ = some a2 ∧ w.cell? ⟨b, 3, none⟩ = some a3 ∧ w.cell? ⟨b, 4, none⟩ = some a4 ∧ w.cell? ⟨b, 5, none⟩ = some a5 ∧ w.cell? ⟨b, 6, none⟩ = some a6 ∧ ∀ j, w.frozen? ⟨b, j, none⟩ = false := by
  refine ⟨?_, ?_, ?_, ?_, ?_, ?_, ?_, fun j => Lib.frozen_of_heap h j⟩ <;> rw [Lib.cell_of_heap h] <;> rfl

theorem kept_one {w w1 : World} {a : Obj} (h : Below (w.alloc a).drew.heap.size (w.alloc a).drew w1) : w1.heap[w.heap.size]? = some a :=
  (h.block _ (by simp)).trans (heap_alloc_new w a)

theorem tok_reg {L : List Ct} {ta : Option Addr} {tc rb : Nat} {s : Ps} {w : World} (h : PS L ta tc rb s w) : ∀ x, Below w.heap.size w x → Calls Tryz.prog 100 #[.pointer (some ⟨rb, 0, none⟩)] x fun e w' => e = .returned (ctV (tokP L s.at_)) ∧ w'.cell? ⟨rb, 1, none⟩ = some (.int .i64 s.at_) ∧ x.heap.size ≤ w'.heap.size ∧ Below x.heap.size x w' ∧ Below w.heap.size w w' ∧ rb < w'.heap.size ∧ (∀ o, (w'.alloc o).cell? ⟨rb, 1, none⟩ = some (.int .i64 s.at_)) ∧ ∀ g, g ≠ rb → ∀ v0 v1 v2 v3 v4 v5 v6, (set7 w' g v0 v1 v2 v3 v4 v5 v6).cell? ⟨rb, 1, none⟩ = some (.int .i64 s.at_) := fun x hx => (tok_any (h.below hx)).mono fun e w' ⟨h1, h2⟩ => by
  have hw := hx.trans (h2.mono hx.size)
  obtain ⟨_, _, _, d1, _⟩ := (h.below hw).cells
  exact ⟨h1, d1, h2.size, h2, hw, (h.below hw).lt, fun o => kept_cell ((Below.refl _ w').alloc (Nat.le_refl _) o) d1, fun g hg v0 v1 v2 v3 v4 v5 v6 => cell_set7 d1 hg⟩
end Go.Proofs.YtllbbacnakoomaaGreatDoor

/- Open: a reader from where a Parser is. -/
namespace Go.Proofs.YtllbbacnakoomaaGreatDoor
open Go.RowKit
set_option linter.unusedVariables false

/-- tokens in memory, as a Parser has them -/
structure TkAt (L : List Ct) (ta : Option Addr) (tc : Nat) (w : World) : Prop where
  toks : Row w 7 ta (L.map ctC)
  len : L.length ≤ 1000000
  cap : L.length ≤ tc
  tsz : ∀ t ∈ L, t.text.size ≤ 1000000000
  tab : SpTab w
  tty : ∀ b o, ta = some ⟨b, o, none⟩ → ∃ c fz, w.heap[b]? = some (.cells c 95 fz)

theorem TkAt.below {L : List Ct} {ta : Option Addr} {tc : Nat} {w w' : World} (h : TkAt L ta tc w) (hb : Below w.heap.size w w') : TkAt L ta tc w' :=
  ⟨h.toks.below hb, h.len, h.cap, h.tsz, h.tab.below hb, fun b o e => by
    obtain ⟨c, fz, hc⟩ := h.tty b o e
    exact ⟨c, fz, (hb.block _ (lt_of_block hc)).trans hc⟩⟩

/-- a Parser as a value -/
abbrev paV (L : List Ct) (ta : Option Addr) (tc : Nat) (i : Int) (p : Option Addr) (nest : Nat) : Value := .agg #[.slice ta L.length tc, .int .i64 i, .pointer p, .int .i64 nest]

set_option maxRecDepth 100000 in
theorem open_any {L : List Ct} {ta : Option Addr} {tc nest : Nat} {i : Int} {p : Option Addr} {e : Ev} {w : World} (h : TkAt L ta tc w) (he : EvAt w p e) (h1 : -1 ≤ i) (h2 : i ≤ L.length) :
    Calls Tryz.prog 57 #[paV L ta tc i p nest] w fun r w' => ∃ rb, r = .returned (.pointer (some ⟨rb, 0, none⟩)) ∧ w.heap.size ≤ rb ∧ PS L ta tc rb ⟨i, e, false⟩ w' ∧ Below w.heap.size w w' := by
  have hb : ∀ o1 o2, Below w.heap.size w ((w.alloc o1).alloc o2) := fun o1 o2 => ((Below.refl _ w).alloc (Nat.le_refl _) o1).alloc (by simp) o2
  have hP : ∀ o1, Hid (PS L ta tc (w.heap.size + 1) ⟨i, e, false⟩ ((w.alloc o1).alloc (.cells (rdC ta L.length tc p ⟨i, e, false⟩) 138 (0, 0)))) := fun o1 => Lib.hid (by
    have h' := h.below (hb o1 (.cells (rdC ta L.length tc p ⟨i, e, false⟩) 138 (0, 0)))
    refine ⟨h'.toks, fun b o eb => ?_, h.len, h.cap, h.tsz, ⟨p, heap_alloc2_new w o1 _, he.under (hb _ _)⟩, h1, h2, h'.tab, h'.tty⟩
    obtain ⟨c, fz, hc⟩ := h.tty b o eb
    have := lt_of_block hc
    omega)
  clear h he
  go_enter Tryz.func57, Tryz.ntmps57
  go_wp2
  go_ret
  exact ⟨_, rfl, Nat.le_succ _, (hP _).out, hb _ _⟩
end Go.Proofs.YtllbbacnakoomaaGreatDoor
