/- Texts of this seat's proofs, laid into one file. -/
import Derived.Test.YtfaoamdlknlgpaaGreatSubstHashDoneG36
import Derived.Test.YtfaoamdlknlgpaaGreatSubstHashDoneG37
import Derived.Deep.RegionHeld3
/- subst: what comes of a thing of a body: a paste. -/
namespace Go.Proofs.YtfaoamdlknlgpaaGreat
open Go.RowKit
set_option linter.unusedVariables false

/-- what makes things, behind a pointer -/
structure FH (fb mb : Nat) (rv fv sv : Value) (w : World) : Prop where
  cells : ∃ fz, w.heap[fb]? = some (.cells #[.pointer (some ⟨mb, 0, none⟩), rv, fv, sv] 140 fz)

theorem FH.below {fb mb : Nat} {rv fv sv : Value} {w w' : World} (h : FH fb mb rv fv sv w) (hb : Below w.heap.size w w') : FH fb mb rv fv sv w' := by
  obtain ⟨fz, hc⟩ := h.cells
  exact ⟨fz, (hb.block _ (lt_of_block hc)).trans hc⟩

theorem info_thing : (Tryz.prog.info? 143).map (·.size) = some 5 := by kernel_rfl

set_option maxHeartbeats 2000000 in
set_option maxRecDepth 100000 in
theorem thing_paste (fb mb : Nat) (m : Mac) (T : List (Tm × Value)) (pao : Option Addr) (pcap : Nat) (bao : Option Addr) (bcap : Nat) (rv fv sv : Value) (i : Nat) (t : Tm) (w : World) (hM : MH mb m T pao pcap bao bcap w) (hF : FH fb mb rv fv sv w) (hi : m.body[i]? = some t) (hp : pasteP t = true) :
    Calls Tryz.prog 85 #[.pointer (some ⟨fb, 0, none⟩), .int .i64 i] w fun e w' => e = .returned (.tuple #[.agg #[.slice none 0 0, .bool true, .string t.file, .int .i64 t.f, .int .i64 t.t], .int .i64 1]) ∧ Below w.heap.size w w' := by
  obtain ⟨n, hn⟩ : ∃ n, n = T.length := ⟨_, rfl⟩
  have HN : Hid (T.length = n) := Lib.hid hn.symm
  have hil : i < n := by rw [hn, ← List.length_map (f := (·.1)), hM.body]; exact (List.getElem?_eq_some_iff.1 hi).1
  obtain ⟨bb, bo, t', sa, sn, sc, rfl, hT, hB, _⟩ := hM.tok (i := i) (by rw [← hn]; exact hil)
  obtain rfl : t' = t := by rw [hB] at hi; exact Option.some.inj hi
  have hlen := hM.len
  have hbcap := hM.cap
  rw [← hn] at hlen hbcap
  have HC : Hid (∀ x, Below w.heap.size w x → x.cell? ⟨fb, 0, none⟩ = some (.pointer (some ⟨mb, 0, none⟩)) ∧ x.cell? ⟨fb, 1, none⟩ = some rv ∧ x.cell? ⟨fb, 2, none⟩ = some fv ∧ x.cell? ⟨fb, 3, none⟩ = some sv ∧ x.cell? ⟨mb, 4, none⟩ = some (.slice (some ⟨bb, bo, none⟩) n bcap)) := Lib.hid fun x hx => by
    obtain ⟨fz, hfc⟩ := (hF.below hx).cells
    obtain ⟨mz, hmc⟩ := (hM.below hx).cells
    rw [HN.out] at hmc
    exact ⟨by rw [Lib.cell_of_heap hfc]; rfl, by rw [Lib.cell_of_heap hfc]; rfl, by rw [Lib.cell_of_heap hfc]; rfl, by rw [Lib.cell_of_heap hfc]; rfl, (cells8 hmc).2.2.2.2.1⟩
  have HT : Hid (∀ x, Below w.heap.size w x → x.cell? ⟨bb, bo + i * 8, none⟩ = some (.int .i64 t'.kind) ∧ x.cell? ⟨bb, bo + i * 8 + 1, none⟩ = some (.string t'.text) ∧ x.cell? ⟨bb, bo + i * 8 + 2, none⟩ = some (.bool t'.sp) ∧ x.cell? ⟨bb, bo + i * 8 + 3, none⟩ = some (.string t'.file) ∧ x.cell? ⟨bb, bo + i * 8 + 4, none⟩ = some (.int .i64 t'.f) ∧ x.cell? ⟨bb, bo + i * 8 + 5, none⟩ = some (.int .i64 t'.t) ∧ x.cell? ⟨bb, bo + i * 8 + 6, none⟩ = some (.bool t'.made) ∧ x.cell? ⟨bb, bo + i * 8 + 7, none⟩ = some (.slice sa sn sc)) := Lib.hid fun x hx => by
    obtain ⟨b', o', t'', sa', sn', sc', e1, e2, e3, e4⟩ := (hM.below hx).tok (i := i) (by rw [← hn]; exact hil)
    rw [hT] at e2
    simp only [Option.some.injEq, Prod.mk.injEq, Value.slice.injEq] at e2
    obtain ⟨rfl, rfl, rfl, rfl⟩ := e2
    simp only [Option.some.injEq, Addr.mk.injEq, and_true] at e1
    obtain ⟨rfl, rfl⟩ := e1
    exact e4
  have hil' : (i : Int) < n := by omega
  obtain ⟨W1, hW1⟩ : ∃ W1, W1 = w.alloc (.cells #[.slice none 0 0, .bool false, .string ⟨#[]⟩, .int .i64 0, .int .i64 0] 143) := ⟨_, rfl⟩
  have b1 : Hid (Below w.heap.size w W1) := Lib.hid (by rw [hW1]; exact (Below.refl _ w).alloc (Nat.le_refl _) _)
  have hc1 : Hid (W1.heap[w.heap.size]? = some (.cells #[.slice none 0 0, .bool false, .string ⟨#[]⟩, .int .i64 0, .int .i64 0] 143 (0, 0))) := Lib.hid (by rw [hW1]; exact heap_alloc_new w _)
  have hs1 : Hid (W1.heap.size = w.heap.size + 1) := Lib.hid (by rw [hW1]; simp)
  obtain ⟨W2, hW2⟩ : ∃ W2, W2 = W1.alloc (.cells #[.int .i64 t'.kind, .string t'.text, .bool t'.sp, .string t'.file, .int .i64 t'.f, .int .i64 t'.t, .bool t'.made, .slice sa sn sc] 34) := ⟨_, rfl⟩
  have b2 : Hid (Below w.heap.size w W2) := Lib.hid (by rw [hW2]; exact b1.out.alloc b1.out.size _)
  have hc2 : Hid (W2.heap[w.heap.size]? = some (.cells #[.slice none 0 0, .bool false, .string ⟨#[]⟩, .int .i64 0, .int .i64 0] 143 (0, 0))) := Lib.hid (by rw [hW2]; exact (Lib.alloc_old _ _ _ (lt_of_block hc1.out)).trans hc1.out)
  have hk2 : Hid (W2.heap[w.heap.size + 1]? = some (.cells #[.int .i64 t'.kind, .string t'.text, .bool t'.sp, .string t'.file, .int .i64 t'.f, .int .i64 t'.t, .bool t'.made, .slice sa sn sc] 34 (0, 0))) := Lib.hid (by rw [hW2, ← hs1.out]; exact heap_alloc_new W1 _)
  have hs2 : Hid (W2.heap.size = w.heap.size + 2) := Lib.hid (by rw [hW2, World.size_alloc, hs1.out])
  have HP := mPaste_any t' (.slice sa sn sc) W2
  unfold tmC at HP
  rw [hp] at HP
  replace HP := Lib.hid HP
  obtain ⟨f0, f1, f2, f3, m4⟩ := HC.out W1 b1.out
  obtain ⟨t0, t1, t2, t3, t4, t5, t6, t7⟩ := HT.out W1 b1.out
  replace hM := Lib.hid hM
  replace hF := Lib.hid hF
  replace hT := Lib.hid hT
  replace hB := Lib.hid hB
  replace hp := Lib.hid hp
  replace hi := Lib.hid hi
  clear hn
  go_enter Tryz.func85, Tryz.ntmps85
  go_upto_region 1 with fail
  rw [← hW1]
  replace hW1 := Lib.hid hW1
  go_upto_region 2 with fail
  rw [← hW2, hs1.out]
  replace hW2 := Lib.hid hW2
  clear f0 f1 f2 f3 m4 t0 t1 t2 t3 t4 t5 t6 t7
  obtain ⟨k0, k1, k2, k3, k4, k5, k6, k7⟩ := cells8 hk2.out
  go_wp2_with fail
  refine HP.out.mono ?_
  rintro e w3 ⟨rfl, hb3⟩
  have b3 : Hid (Below w.heap.size w w3) := Lib.hid (b2.out.trans (hb3.mono b2.out.size))
  have hc3 : Hid (w3.heap[w.heap.size]? = some (.cells #[.slice none 0 0, .bool false, .string ⟨#[]⟩, .int .i64 0, .int .i64 0] 143 (0, 0))) := Lib.hid ((hb3.block _ (lt_of_block hc2.out)).trans hc2.out)
  have hk3 : Hid (w3.heap[w.heap.size + 1]? = some (.cells #[.int .i64 t'.kind, .string t'.text, .bool t'.sp, .string t'.file, .int .i64 t'.f, .int .i64 t'.t, .bool t'.made, .slice sa sn sc] 34 (0, 0))) := Lib.hid ((hb3.block _ (lt_of_block hk2.out)).trans hk2.out)
  have hs3 : Hid (w.heap.size + 2 ≤ w3.heap.size) := Lib.hid (by rw [← hs2.out]; exact hb3.size)
  clear k0 k1 k2 k3 k4 k5 k6 k7 hb3
  obtain ⟨k0, k1, k2, k3, k4, k5, k6, k7⟩ := cells8 hk3.out
  go_wp2_with (refine wpList_store_row rfl 143 (.tmp 4) (.tmp 27) rfl w.heap.size _ rfl rfl 143 _ hc3.out info_thing rfl (by simp [Value.oneCell']) ?_)
  have hr4 := setRow_heap _ _ _ #[Value.slice none 0 0, .bool true, .string t'.file, .int .i64 t'.f, .int .i64 t'.t] _ _ hc3.out
  obtain ⟨m0, m1, m2, m3, m4⟩ := cells5 hr4
  refine bodyPost_ret (v := .tuple #[.agg #[.slice none 0 0, .bool true, .string t'.file, .int .i64 t'.f, .int .i64 t'.t], .int .i64 1]) (by simp [results, Tryz.results85, go_sem, m0, m1, m2, m3, m4]) rfl ?_
  exact ⟨rfl, Below.row b3.out (Nat.le_refl _) _⟩

set_option maxHeartbeats 2000000 in
set_option maxRecDepth 100000 in
theorem thing_plain (fb mb : Nat) (m : Mac) (T : List (Tm × Value)) (pao : Option Addr) (pcap : Nat) (bao : Option Addr) (bcap : Nat) (rv fv sv : Value) (i : Nat) (t : Tm) (w : World) (hM : MH mb m T pao pcap bao bcap w) (hF : FH fb mb rv fv sv w) (hi : m.body[i]? = some t) (S : List (List Value)) (hS : SiteIn w sv S) (hp : pasteP t = false) (hh : hashedP m i = false) (ho : ofP m.fn m.params t < 0) :
    Calls Tryz.prog 85 #[.pointer (some ⟨fb, 0, none⟩), .int .i64 i] w fun e w' => (∃ v, e = .returned (.tuple #[.agg #[v, .bool false, .string ⟨#[]⟩, .int .i64 0, .int .i64 0], .int .i64 1]) ∧ OwnZ [⟨{ t with made := false }, S, -1, 0, false⟩] w.heap.size v w') ∧ Below w.heap.size w w' := by
  obtain ⟨n, hn⟩ : ∃ n, n = T.length := ⟨_, rfl⟩
  have HN : Hid (T.length = n) := Lib.hid hn.symm
  have hil : i < n := by rw [hn, ← List.length_map (f := (·.1)), hM.body]; exact (List.getElem?_eq_some_iff.1 hi).1
  obtain ⟨bb, bo, t', sa, sn, sc, rfl, hT, hB, _⟩ := hM.tok (i := i) (by rw [← hn]; exact hil)
  obtain rfl : t' = t := by rw [hB] at hi; exact Option.some.inj hi
  have hlen := hM.len
  have hbcap := hM.cap
  rw [← hn] at hlen hbcap
  have HC : Hid (∀ x, Below w.heap.size w x → x.cell? ⟨fb, 0, none⟩ = some (.pointer (some ⟨mb, 0, none⟩)) ∧ x.cell? ⟨fb, 1, none⟩ = some rv ∧ x.cell? ⟨fb, 2, none⟩ = some fv ∧ x.cell? ⟨fb, 3, none⟩ = some sv ∧ x.cell? ⟨mb, 4, none⟩ = some (.slice (some ⟨bb, bo, none⟩) n bcap)) := Lib.hid fun x hx => by
    obtain ⟨fz, hfc⟩ := (hF.below hx).cells
    obtain ⟨mz, hmc⟩ := (hM.below hx).cells
    rw [HN.out] at hmc
    exact ⟨by rw [Lib.cell_of_heap hfc]; rfl, by rw [Lib.cell_of_heap hfc]; rfl, by rw [Lib.cell_of_heap hfc]; rfl, by rw [Lib.cell_of_heap hfc]; rfl, (cells8 hmc).2.2.2.2.1⟩
  have HT : Hid (∀ x, Below w.heap.size w x → x.cell? ⟨bb, bo + i * 8, none⟩ = some (.int .i64 t'.kind) ∧ x.cell? ⟨bb, bo + i * 8 + 1, none⟩ = some (.string t'.text) ∧ x.cell? ⟨bb, bo + i * 8 + 2, none⟩ = some (.bool t'.sp) ∧ x.cell? ⟨bb, bo + i * 8 + 3, none⟩ = some (.string t'.file) ∧ x.cell? ⟨bb, bo + i * 8 + 4, none⟩ = some (.int .i64 t'.f) ∧ x.cell? ⟨bb, bo + i * 8 + 5, none⟩ = some (.int .i64 t'.t) ∧ x.cell? ⟨bb, bo + i * 8 + 6, none⟩ = some (.bool t'.made) ∧ x.cell? ⟨bb, bo + i * 8 + 7, none⟩ = some (.slice sa sn sc)) := Lib.hid fun x hx => by
    obtain ⟨b', o', t'', sa', sn', sc', e1, e2, e3, e4⟩ := (hM.below hx).tok (i := i) (by rw [← hn]; exact hil)
    rw [hT] at e2
    simp only [Option.some.injEq, Prod.mk.injEq, Value.slice.injEq] at e2
    obtain ⟨rfl, rfl, rfl, rfl⟩ := e2
    simp only [Option.some.injEq, Addr.mk.injEq, and_true] at e1
    obtain ⟨rfl, rfl⟩ := e1
    exact e4
  have hil' : (i : Int) < n := by omega
  obtain ⟨W1, hW1⟩ : ∃ W1, W1 = w.alloc (.cells #[.slice none 0 0, .bool false, .string ⟨#[]⟩, .int .i64 0, .int .i64 0] 143) := ⟨_, rfl⟩
  have b1 : Hid (Below w.heap.size w W1) := Lib.hid (by rw [hW1]; exact (Below.refl _ w).alloc (Nat.le_refl _) _)
  have hc1 : Hid (W1.heap[w.heap.size]? = some (.cells #[.slice none 0 0, .bool false, .string ⟨#[]⟩, .int .i64 0, .int .i64 0] 143 (0, 0))) := Lib.hid (by rw [hW1]; exact heap_alloc_new w _)
  have hs1 : Hid (W1.heap.size = w.heap.size + 1) := Lib.hid (by rw [hW1]; simp)
  obtain ⟨W2, hW2⟩ : ∃ W2, W2 = W1.alloc (.cells #[.int .i64 t'.kind, .string t'.text, .bool t'.sp, .string t'.file, .int .i64 t'.f, .int .i64 t'.t, .bool t'.made, .slice sa sn sc] 34) := ⟨_, rfl⟩
  have b2 : Hid (Below w.heap.size w W2) := Lib.hid (by rw [hW2]; exact b1.out.alloc b1.out.size _)
  have hc2 : Hid (W2.heap[w.heap.size]? = some (.cells #[.slice none 0 0, .bool false, .string ⟨#[]⟩, .int .i64 0, .int .i64 0] 143 (0, 0))) := Lib.hid (by rw [hW2]; exact (Lib.alloc_old _ _ _ (lt_of_block hc1.out)).trans hc1.out)
  have hk2 : Hid (W2.heap[w.heap.size + 1]? = some (.cells #[.int .i64 t'.kind, .string t'.text, .bool t'.sp, .string t'.file, .int .i64 t'.f, .int .i64 t'.t, .bool t'.made, .slice sa sn sc] 34 (0, 0))) := Lib.hid (by rw [hW2, ← hs1.out]; exact heap_alloc_new W1 _)
  have hs2 : Hid (W2.heap.size = w.heap.size + 2) := Lib.hid (by rw [hW2, World.size_alloc, hs1.out])
  have HP := mPaste_any t' (.slice sa sn sc) W2
  unfold tmC at HP
  rw [hp] at HP
  replace HP := Lib.hid HP
  obtain ⟨f0, f1, f2, f3, m4⟩ := HC.out W1 b1.out
  obtain ⟨t0, t1, t2, t3, t4, t5, t6, t7⟩ := HT.out W1 b1.out
  replace hM := Lib.hid hM
  replace hF := Lib.hid hF
  replace hT := Lib.hid hT
  replace hB := Lib.hid hB
  replace hp := Lib.hid hp
  replace hi := Lib.hid hi
  clear hn
  go_enter Tryz.func85, Tryz.ntmps85
  go_upto_region 1 with fail
  rw [← hW1]
  replace hW1 := Lib.hid hW1
  go_upto_region 2 with fail
  rw [← hW2, hs1.out]
  replace hW2 := Lib.hid hW2
  clear f0 f1 f2 f3 m4 t0 t1 t2 t3 t4 t5 t6 t7
  obtain ⟨k0, k1, k2, k3, k4, k5, k6, k7⟩ := cells8 hk2.out
  go_wp2_with fail
  refine HP.out.mono ?_
  rintro e w3 ⟨rfl, hb3⟩
  have b3 : Hid (Below w.heap.size w w3) := Lib.hid (b2.out.trans (hb3.mono b2.out.size))
  have hc3 : Hid (w3.heap[w.heap.size]? = some (.cells #[.slice none 0 0, .bool false, .string ⟨#[]⟩, .int .i64 0, .int .i64 0] 143 (0, 0))) := Lib.hid ((hb3.block _ (lt_of_block hc2.out)).trans hc2.out)
  have hk3 : Hid (w3.heap[w.heap.size + 1]? = some (.cells #[.int .i64 t'.kind, .string t'.text, .bool t'.sp, .string t'.file, .int .i64 t'.f, .int .i64 t'.t, .bool t'.made, .slice sa sn sc] 34 (0, 0))) := Lib.hid ((hb3.block _ (lt_of_block hk2.out)).trans hk2.out)
  have hs3 : Hid (w.heap.size + 2 ≤ w3.heap.size) := Lib.hid (by rw [← hs2.out]; exact hb3.size)
  clear k0 k1 k2 k3 k4 k5 k6 k7 hb3
  obtain ⟨f0, f1, f2, f3, m4⟩ := HC.out w3 b3.out
  have HH := sHashed_any mb m T pao pcap (some ⟨bb, bo, none⟩) bcap i (by rw [HN.out]; exact hil) w3 (hM.out.below b3.out)
  rw [hh] at HH
  replace HH := Lib.hid HH
  go_wp2_with fail
  refine HH.out.mono ?_
  rintro e w4 ⟨rfl, hb4⟩
  have b4 : Hid (Below w.heap.size w w4) := Lib.hid (b3.out.trans (hb4.mono b3.out.size))
  have hc4 : Hid (w4.heap[w.heap.size]? = some (.cells #[.slice none 0 0, .bool false, .string ⟨#[]⟩, .int .i64 0, .int .i64 0] 143 (0, 0))) := Lib.hid ((hb4.block _ (lt_of_block hc3.out)).trans hc3.out)
  have hk4 : Hid (w4.heap[w.heap.size + 1]? = some (.cells #[.int .i64 t'.kind, .string t'.text, .bool t'.sp, .string t'.file, .int .i64 t'.f, .int .i64 t'.t, .bool t'.made, .slice sa sn sc] 34 (0, 0))) := Lib.hid ((hb4.block _ (lt_of_block hk3.out)).trans hk3.out)
  have hs4 : Hid (w.heap.size + 2 ≤ w4.heap.size) := Lib.hid (Nat.le_trans hs3.out hb4.size)
  replace hh := Lib.hid hh
  clear f0 f1 f2 f3 m4 hb4
  obtain ⟨xo, hxo⟩ : ∃ xo, xo = ofP m.fn m.params t' := ⟨_, rfl⟩
  have HOf : Hid (∀ x, Below w.heap.size w x → Calls Tryz.prog 80 #[.pointer (some ⟨mb, 0, none⟩), .agg #[.int .i64 t'.kind, .string t'.text, .bool t'.sp, .string t'.file, .int .i64 t'.f, .int .i64 t'.t, .bool t'.made, .slice sa sn sc]] x fun e w' => e = .returned (.int .i64 xo) ∧ Below x.heap.size x w') := Lib.hid fun x hx => by
    rw [hxo]
    exact (hM.out.below hx).of t' (.slice sa sn sc)
  rw [← hxo] at ho
  replace hxo := Lib.hid hxo
  go_upto_region 8 with fail
  go_cut [8] from 71 to 76 (fun s8 wx => s8 = .int .i64 xo ∧ Hid (Below w4.heap.size w4 wx))
  case first =>
    obtain ⟨f0, f1, f2, f3, m4⟩ := HC.out w4 b4.out
    obtain ⟨k0, k1, k2, k3, k4, k5, k6, k7⟩ := cells8 hk4.out
    go_region_with (first | (go_at_call 80; refine (HOf.out _ b4.out.drew).mono ?_; rintro e w5 ⟨rfl, hb5⟩))
    all_goals
      go_wp2_with fail
      go_meet
      case rel => exact ⟨rfl, Lib.hid ((Below.refl w4.heap.size w4).drew.trans hb5)⟩
  case rest =>
    obtain ⟨rfl, hbc⟩ := hcut
    have b5 : Hid (Below w.heap.size w wc) := Lib.hid (b4.out.trans (hbc.out.mono b4.out.size))
    have hc5 : Hid (wc.heap[w.heap.size]? = some (.cells #[.slice none 0 0, .bool false, .string ⟨#[]⟩, .int .i64 0, .int .i64 0] 143 (0, 0))) := Lib.hid ((hbc.out.block _ (lt_of_block hc4.out)).trans hc4.out)
    have hk5 : Hid (wc.heap[w.heap.size + 1]? = some (.cells #[.int .i64 t'.kind, .string t'.text, .bool t'.sp, .string t'.file, .int .i64 t'.f, .int .i64 t'.t, .bool t'.made, .slice sa sn sc] 34 (0, 0))) := Lib.hid ((hbc.out.block _ (lt_of_block hk4.out)).trans hk4.out)
    have hs5 : Hid (w.heap.size + 2 ≤ wc.heap.size) := Lib.hid (Nat.le_trans hs4.out hbc.out.size)
    have HCl := mClone_any sv S (w.heap.size + 2) wc hs5.out (hS.below b5.out)
    replace HCl := Lib.hid HCl
    obtain ⟨f0, f1, f2, f3, m4⟩ := HC.out wc b5.out
    go_wp2_with fail
    refine HCl.out.mono ?_
    rintro e w6 ⟨v6, rfl, hb6, hown6, _⟩
    obtain ⟨va, vc, rfl, _, _, _, _⟩ := hown6.row
    have hk6 := (hb6.block _ (lt_of_block hk5.out)).trans hk5.out
    have hc6 := (hb6.block _ (lt_of_block hc5.out)).trans hc5.out
    have b6 := b5.out.trans (hb6.mono b5.out.size)
    obtain ⟨k0, k1, k2, k3, k4, k5, k6, k7⟩ := cells8x hk6
    have fr := fun j => Lib.frozen_of_heap hk6 j
    obtain ⟨W7, hW7⟩ : ∃ W7, W7 = (w6.setCell ⟨w.heap.size + 1, 7, none⟩ (.slice va S.length vc)).setCell ⟨w.heap.size + 1, 6, none⟩ (.bool false) := ⟨_, rfl⟩
    have hk7 : Hid (W7.heap[w.heap.size + 1]? = some (.cells #[.int .i64 t'.kind, .string t'.text, .bool t'.sp, .string t'.file, .int .i64 t'.f, .int .i64 t'.t, .bool false, .slice va S.length vc] 34 (0, 0))) := Lib.hid (by
      have := set_at (set_at hk6 7 (.slice va S.length vc)) 6 (.bool false)
      rw [hW7]
      simpa using this)
    have hc7 : Hid (W7.heap[w.heap.size]? = some (.cells #[.slice none 0 0, .bool false, .string ⟨#[]⟩, .int .i64 0, .int .i64 0] 143 (0, 0))) := Lib.hid (by
      rw [hW7]
      exact (Below.heap_setCell _ _ _ _ (by simp)).trans ((Below.heap_setCell _ _ _ _ (by simp)).trans hc6))
    have b7 : Hid (Below w.heap.size w W7) := Lib.hid (by
      rw [hW7]
      exact (b6.setCell (p := ⟨w.heap.size + 1, 7, none⟩) (Nat.le_add_right _ _) _).setCell (p := ⟨w.heap.size + 1, 6, none⟩) (Nat.le_add_right _ _) _)
    have hown7 : Hid (Own W7 (w.heap.size + 2) 66 5 (.slice va S.length vc) S) := Lib.hid (by
      rw [hW7]
      exact (hown6.setBelow (by omega) _).setBelow (by omega) _)
    have hs7 : Hid (w.heap.size + 2 ≤ W7.heap.size) := Lib.hid (by
      rw [hW7]
      simp only [World.size_setCell]
      exact Nat.le_trans hs5.out hb6.size)
    have hc8 : ∀ o, (W7.alloc o).heap[w.heap.size]? = some (.cells #[.slice none 0 0, .bool false, .string ⟨#[]⟩, .int .i64 0, .int .i64 0] 143 (0, 0)) := fun o => (Lib.alloc_old _ _ _ (lt_of_block hc7.out)).trans hc7.out
    replace hown6 := Lib.hid hown6
    replace hk6 := Lib.hid hk6
    replace hc6 := Lib.hid hc6
    replace b6 := Lib.hid b6
    replace hb6 := Lib.hid hb6
    replace hc8 := Lib.hid hc8
    go_upto_region 11 with fail
    rw [← hW7]
    replace hW7 := Lib.hid hW7
    clear k0 k1 k2 k3 k4 k5 k6 k7 fr f0 f1 f2 f3 m4
    obtain ⟨k0, k1, k2, k3, k4, k5, k6, k7⟩ := cells8 hk7.out
    go_wp2_with (refine wpList_store_row rfl 143 (.tmp 4) (.tmp 89) rfl w.heap.size _ rfl rfl 143 _ (hc8.out _) info_thing rfl (by simp [Value.oneCell']) ?_)
    have hr9 := setRow_heap _ _ _ #[Value.slice (some ⟨W7.heap.size, 0, none⟩) 1 1, .bool false, .string ⟨#[]⟩, .int .i64 0, .int .i64 0] _ _ (hc8.out (.cells #[.int .i64 t'.kind, .string t'.text, .bool t'.sp, .string t'.file, .int .i64 t'.f, .int .i64 t'.t, .bool false, .slice va S.length vc, .int .i64 (-1), .int .i64 0, .bool false] 118))
    obtain ⟨m0, m1, m2, m3, m4⟩ := cells5 hr9
    refine bodyPost_ret (v := .tuple #[.agg #[.slice (some ⟨W7.heap.size, 0, none⟩) 1 1, .bool false, .string ⟨#[]⟩, .int .i64 0, .int .i64 0], .int .i64 1]) (by simp [results, Tryz.results85, go_sem, m0, m1, m2, m3, m4]) rfl ?_
    refine ⟨⟨_, rfl, [(⟨{ t' with made := false }, S, -1, 0, false⟩, .slice va S.length vc)], rfl, ?_, ?_⟩, Below.row (b7.out.alloc b7.out.size _) (Nat.le_refl _) _⟩
    · exact ((own_lit1 W7 118 11 (pzC ⟨{ t' with made := false }, S, -1, 0, false⟩ (.slice va S.length vc)) rfl).rowBelow (by have := hs7.out; omega) _).mono b7.out.size
    · intro p hp
      simp only [List.mem_singleton] at hp
      subst hp
      exact ((hown7.out.alloc _).rowBelow (by omega) _).mono (by omega)
end Go.Proofs.YtfaoamdlknlgpaaGreat

/- subst: what comes of a hash ahead of a parameter. -/
namespace Go.Proofs.YtfaoamdlknlgpaaGreat
open Go.RowKit
set_option linter.unusedVariables false

theorem idxFrom_stepN {x : ByteArray} : ∀ (zs : List ByteArray) (i : Nat), Lib.idxFromS zs x i = match zs with | [] => -1 | z :: r => if z = x then (i : Int) else Lib.idxFromS r x (i + 1)
  | [], i => rfl
  | z :: r, i => by
    by_cases h : z = x
    · simp [Lib.idxFromS, h]
    · simp [Lib.idxFromS, h]

/-- lists of arguments as they may be -/
def ArgsOk (L : List (List Tf)) : Prop := L.length ≤ 1000000 ∧ ∀ X ∈ L, X.length ≤ 1000 ∧ ∀ x ∈ X, x.1.text.size ≤ 1000 ∧ SitesOk x.2

theorem ArgsOk.at {L : List (List Tf)} (h : ArgsOk L) (p : Nat) : (L[p]?.getD []).length ≤ 1000 ∧ ∀ x ∈ L[p]?.getD [], x.1.text.size ≤ 1000 ∧ SitesOk x.2 := by
  cases hp : L[p]? with
  | none => simp
  | some X => exact h.2 X (List.mem_of_getElem? hp)

theorem strz_in {X : List Tf} {u : Value} {w : World} (h : ToksRd w u X) (hk : X.length ≤ 1000 ∧ ∀ x ∈ X, x.1.text.size ≤ 1000 ∧ SitesOk x.2) :
    Calls Tryz.prog 16 #[u] w fun e w' => e = .returned (.string ⟨(strzL (X.map (·.1))).toArray⟩) ∧ Below w.heap.size w w' := by
  obtain ⟨ao, cap, T, rfl, h2, h5, h6, h7⟩ := h
  have hm : T.map (·.1) = X.map (·.1) := by
    apply List.ext_getElem?
    intro i
    rw [List.getElem?_map, List.getElem?_map]
    cases hT : T[i]? with
    | none =>
      rw [List.getElem?_eq_none (by rw [← h6]; exact List.getElem?_eq_none_iff.1 hT)]
      rfl
    | some p =>
      obtain ⟨x, hx⟩ : ∃ x, X[i]? = some x := ⟨_, List.getElem?_eq_getElem (by rw [← h6]; exact (List.getElem?_eq_some_iff.1 hT).1)⟩
      rw [hx]
      simp [(h7 i p x hT hx).1]
  have hx : ∀ p ∈ T, ∃ x ∈ X, p.1 = x.1 ∧ SiteIn w p.2 x.2 := by
    intro p hp
    obtain ⟨i, hi⟩ := List.getElem?_of_mem hp
    obtain ⟨x, hx⟩ : ∃ x, X[i]? = some x := ⟨_, List.getElem?_eq_getElem (by rw [← h6]; exact (List.getElem?_eq_some_iff.1 hi).1)⟩
    exact ⟨x, List.mem_of_getElem? hx, h7 i p x hi hx⟩
  have := pStringize_any T ao cap (by omega) (by omega) (by
    intro p hp
    obtain ⟨x, h1, h2, _⟩ := hx p hp
    rw [h2]
    exact (hk.2 x h1).1) w h5 (by
    intro p hp
    obtain ⟨x, h1, h2, ao, cap, h3, _⟩ := hx p hp
    exact ⟨ao, _, cap, h3⟩)
  rw [h6, hm] at this
  exact this

theorem of_lt {fn : Bool} {ps : List ByteArray} {t : Tm} (h : ¬ ofP fn ps t < 0) : ofP fn ps t < ps.length := by
  unfold ofP at h ⊢
  split
  · rename_i hc; rw [if_pos hc] at h; omega
  · unfold Lib.idxOfS
    have : ∀ (zs : List ByteArray) (i : Nat), Lib.idxFromS zs t.text i < i + zs.length := by
      intro zs
      induction zs with
      | nil => intro i; simp [Lib.idxFromS]; omega
      | cons z r ih =>
        intro i
        rw [idxFrom_stepN]
        simp only
        split
        · simp; omega
        · have := ih (i + 1)
          simp
          omega
    have := this ps 0
    omega

theorem cells8m {w : World} {b : Nat} {a0 a1 a2 a3 a4 a5 a6 a7 : Value} {e : TypeId} {fz : Nat × Nat} (h : w.heap[b]? = some (.cells #[a0, a1, a2, a3, a4, a5, a6, a7] e fz)) : w.cell? ⟨b, 2, none⟩ = some a2 ∧ w.cell? ⟨b, 3, none⟩ = some a3 ∧ w.cell? ⟨b, 4, none⟩ = some a4 ∧ w.cell? ⟨b, 5, none⟩ = some a5 := by
  obtain ⟨_, _, c2, c3, c4, c5, _, _⟩ := cells8 h
  exact ⟨c2, c3, c4, c5⟩

theorem set8_otherN {w : World} {T g : Nat} {b0 b1 b2 b3 b4 b5 b6 b7 : Value} {o : Obj} (h : w.heap[g]? = some o) (hne : g ≠ T) : (set8 w T b0 b1 b2 b3 b4 b5 b6 b7).heap[g]? = some o := by
  unfold set8
  iterate 8 rw [Below.heap_setCell _ _ _ _ (by simpa using hne)]
  exact h

theorem set8_size (w : World) (T : Nat) (b0 b1 b2 b3 b4 b5 b6 b7 : Value) : (set8 w T b0 b1 b2 b3 b4 b5 b6 b7).heap.size = w.heap.size := by
  unfold set8
  simp only [World.size_setCell]

set_option maxHeartbeats 2000000 in
set_option maxRecDepth 100000 in
theorem thing_hash (fb mb : Nat) (m : Mac) (T : List (Tm × Value)) (pao : Option Addr) (pcap : Nat) (bao : Option Addr) (bcap : Nat) (rv fv sv : Value) (i : Nat) (t : Tm) (w : World) (hM : MH mb m T pao pcap bao bcap w) (hF : FH fb mb rv fv sv w) (hi : m.body[i]? = some t) (X : List Tf) (s : ByteArray) (hs : s = ⟨(strzL (X.map (·.1))).toArray⟩) (u : Tm) (hu : m.body[i + 1]? = some u) (kp : Nat) (hkp : ofP m.fn m.params u = kp) (RR : List (List Tf)) (hX : X = RR[kp]?.getD []) (hkl : kp ≤ 1000000) (hRl : RR.length ≤ 1000000) (S : List (List Value)) (hR : LsRd w rv RR) (hXk : X.length ≤ 1000 ∧ ∀ x ∈ X, x.1.text.size ≤ 1000 ∧ SitesOk x.2) (hS : SiteIn w sv S) (hp : pasteP t = false) (hh : hashedP m i = true) :
    Calls Tryz.prog 85 #[.pointer (some ⟨fb, 0, none⟩), .int .i64 i] w fun e w' => (∃ v, e = .returned (.tuple #[.agg #[v, .bool false, .string ⟨#[]⟩, .int .i64 0, .int .i64 0], .int .i64 2]) ∧ OwnZ [⟨⟨4, s, t.sp, t.file, t.f, t.t, true⟩, S, -1, 0, false⟩] w.heap.size v w') ∧ Below w.heap.size w w' := by
  obtain ⟨n, hn⟩ : ∃ n, n = T.length := ⟨_, rfl⟩
  have HN : Hid (T.length = n) := Lib.hid hn.symm
  have hil : i < n := by rw [hn, ← List.length_map (f := (·.1)), hM.body]; exact (List.getElem?_eq_some_iff.1 hi).1
  obtain ⟨bb, bo, t', sa, sn, sc, rfl, hT, hB, _⟩ := hM.tok (i := i) (by rw [← hn]; exact hil)
  obtain rfl : t' = t := by rw [hB] at hi; exact Option.some.inj hi
  have hlen := hM.len
  have hbcap := hM.cap
  rw [← hn] at hlen hbcap
  have HC : Hid (∀ x, Below w.heap.size w x → x.cell? ⟨fb, 0, none⟩ = some (.pointer (some ⟨mb, 0, none⟩)) ∧ x.cell? ⟨fb, 1, none⟩ = some rv ∧ x.cell? ⟨fb, 2, none⟩ = some fv ∧ x.cell? ⟨fb, 3, none⟩ = some sv ∧ x.cell? ⟨mb, 4, none⟩ = some (.slice (some ⟨bb, bo, none⟩) n bcap)) := Lib.hid fun x hx => by
    obtain ⟨fz, hfc⟩ := (hF.below hx).cells
    obtain ⟨mz, hmc⟩ := (hM.below hx).cells
    rw [HN.out] at hmc
    exact ⟨by rw [Lib.cell_of_heap hfc]; rfl, by rw [Lib.cell_of_heap hfc]; rfl, by rw [Lib.cell_of_heap hfc]; rfl, by rw [Lib.cell_of_heap hfc]; rfl, (cells8 hmc).2.2.2.2.1⟩
  have HT : Hid (∀ x, Below w.heap.size w x → x.cell? ⟨bb, bo + i * 8, none⟩ = some (.int .i64 t'.kind) ∧ x.cell? ⟨bb, bo + i * 8 + 1, none⟩ = some (.string t'.text) ∧ x.cell? ⟨bb, bo + i * 8 + 2, none⟩ = some (.bool t'.sp) ∧ x.cell? ⟨bb, bo + i * 8 + 3, none⟩ = some (.string t'.file) ∧ x.cell? ⟨bb, bo + i * 8 + 4, none⟩ = some (.int .i64 t'.f) ∧ x.cell? ⟨bb, bo + i * 8 + 5, none⟩ = some (.int .i64 t'.t) ∧ x.cell? ⟨bb, bo + i * 8 + 6, none⟩ = some (.bool t'.made) ∧ x.cell? ⟨bb, bo + i * 8 + 7, none⟩ = some (.slice sa sn sc)) := Lib.hid fun x hx => by
    obtain ⟨b', o', t'', sa', sn', sc', e1, e2, e3, e4⟩ := (hM.below hx).tok (i := i) (by rw [← hn]; exact hil)
    rw [hT] at e2
    simp only [Option.some.injEq, Prod.mk.injEq, Value.slice.injEq] at e2
    obtain ⟨rfl, rfl, rfl, rfl⟩ := e2
    simp only [Option.some.injEq, Addr.mk.injEq, and_true] at e1
    obtain ⟨rfl, rfl⟩ := e1
    exact e4
  have hil' : (i : Int) < n := by omega
  obtain ⟨W1, hW1⟩ : ∃ W1, W1 = w.alloc (.cells #[.slice none 0 0, .bool false, .string ⟨#[]⟩, .int .i64 0, .int .i64 0] 143) := ⟨_, rfl⟩
  have b1 : Hid (Below w.heap.size w W1) := Lib.hid (by rw [hW1]; exact (Below.refl _ w).alloc (Nat.le_refl _) _)
  have hc1 : Hid (W1.heap[w.heap.size]? = some (.cells #[.slice none 0 0, .bool false, .string ⟨#[]⟩, .int .i64 0, .int .i64 0] 143 (0, 0))) := Lib.hid (by rw [hW1]; exact heap_alloc_new w _)
  have hs1 : Hid (W1.heap.size = w.heap.size + 1) := Lib.hid (by rw [hW1]; simp)
  obtain ⟨W2, hW2⟩ : ∃ W2, W2 = W1.alloc (.cells #[.int .i64 t'.kind, .string t'.text, .bool t'.sp, .string t'.file, .int .i64 t'.f, .int .i64 t'.t, .bool t'.made, .slice sa sn sc] 34) := ⟨_, rfl⟩
  have b2 : Hid (Below w.heap.size w W2) := Lib.hid (by rw [hW2]; exact b1.out.alloc b1.out.size _)
  have hc2 : Hid (W2.heap[w.heap.size]? = some (.cells #[.slice none 0 0, .bool false, .string ⟨#[]⟩, .int .i64 0, .int .i64 0] 143 (0, 0))) := Lib.hid (by rw [hW2]; exact (Lib.alloc_old _ _ _ (lt_of_block hc1.out)).trans hc1.out)
  have hk2 : Hid (W2.heap[w.heap.size + 1]? = some (.cells #[.int .i64 t'.kind, .string t'.text, .bool t'.sp, .string t'.file, .int .i64 t'.f, .int .i64 t'.t, .bool t'.made, .slice sa sn sc] 34 (0, 0))) := Lib.hid (by rw [hW2, ← hs1.out]; exact heap_alloc_new W1 _)
  have hs2 : Hid (W2.heap.size = w.heap.size + 2) := Lib.hid (by rw [hW2, World.size_alloc, hs1.out])
  have HP := mPaste_any t' (.slice sa sn sc) W2
  unfold tmC at HP
  rw [hp] at HP
  replace HP := Lib.hid HP
  obtain ⟨f0, f1, f2, f3, m4⟩ := HC.out W1 b1.out
  obtain ⟨t0, t1, t2, t3, t4, t5, t6, t7⟩ := HT.out W1 b1.out
  replace hM := Lib.hid hM
  replace hF := Lib.hid hF
  replace hT := Lib.hid hT
  replace hB := Lib.hid hB
  replace hp := Lib.hid hp
  replace hi := Lib.hid hi
  clear hn
  go_enter Tryz.func85, Tryz.ntmps85
  go_upto_region 1 with fail
  rw [← hW1]
  replace hW1 := Lib.hid hW1
  go_upto_region 2 with fail
  rw [← hW2, hs1.out]
  replace hW2 := Lib.hid hW2
  clear f0 f1 f2 f3 m4 t0 t1 t2 t3 t4 t5 t6 t7
  obtain ⟨k0, k1, k2, k3, k4, k5, k6, k7⟩ := cells8 hk2.out
  go_wp2_with fail
  refine HP.out.mono ?_
  rintro e w3 ⟨rfl, hb3⟩
  have b3 : Hid (Below w.heap.size w w3) := Lib.hid (b2.out.trans (hb3.mono b2.out.size))
  have hc3 : Hid (w3.heap[w.heap.size]? = some (.cells #[.slice none 0 0, .bool false, .string ⟨#[]⟩, .int .i64 0, .int .i64 0] 143 (0, 0))) := Lib.hid ((hb3.block _ (lt_of_block hc2.out)).trans hc2.out)
  have hk3 : Hid (w3.heap[w.heap.size + 1]? = some (.cells #[.int .i64 t'.kind, .string t'.text, .bool t'.sp, .string t'.file, .int .i64 t'.f, .int .i64 t'.t, .bool t'.made, .slice sa sn sc] 34 (0, 0))) := Lib.hid ((hb3.block _ (lt_of_block hk2.out)).trans hk2.out)
  have hs3 : Hid (w.heap.size + 2 ≤ w3.heap.size) := Lib.hid (by rw [← hs2.out]; exact hb3.size)
  clear k0 k1 k2 k3 k4 k5 k6 k7 hb3
  obtain ⟨f0, f1, f2, f3, m4⟩ := HC.out w3 b3.out
  have HH := sHashed_any mb m T pao pcap (some ⟨bb, bo, none⟩) bcap i (by rw [HN.out]; exact hil) w3 (hM.out.below b3.out)
  rw [hh] at HH
  replace HH := Lib.hid HH
  go_wp2_with fail
  refine HH.out.mono ?_
  rintro e w4 ⟨rfl, hb4⟩
  have b4 : Hid (Below w.heap.size w w4) := Lib.hid (b3.out.trans (hb4.mono b3.out.size))
  have hc4 : Hid (w4.heap[w.heap.size]? = some (.cells #[.slice none 0 0, .bool false, .string ⟨#[]⟩, .int .i64 0, .int .i64 0] 143 (0, 0))) := Lib.hid ((hb4.block _ (lt_of_block hc3.out)).trans hc3.out)
  have hk4 : Hid (w4.heap[w.heap.size + 1]? = some (.cells #[.int .i64 t'.kind, .string t'.text, .bool t'.sp, .string t'.file, .int .i64 t'.f, .int .i64 t'.t, .bool t'.made, .slice sa sn sc] 34 (0, 0))) := Lib.hid ((hb4.block _ (lt_of_block hk3.out)).trans hk3.out)
  have hs4 : Hid (w.heap.size + 2 ≤ w4.heap.size) := Lib.hid (Nat.le_trans hs3.out hb4.size)
  replace hh := Lib.hid hh
  clear f0 f1 f2 f3 m4 hb4
  have hil1 : i + 1 < n := by rw [← HN.out, ← List.length_map (f := (·.1)), hM.out.body]; exact (List.getElem?_eq_some_iff.1 hu).1
  obtain ⟨bb', bo', u', sa1, sn1, sc1, e1, hT1, hB2, _⟩ := hM.out.tok (i := i + 1) (by rw [HN.out]; exact hil1)
  simp only [Option.some.injEq, Addr.mk.injEq, and_true] at e1
  obtain ⟨rfl, rfl⟩ := e1
  obtain rfl : u' = u := by rw [hB2] at hu; exact Option.some.inj hu
  have HU : Hid (∀ x, Below w.heap.size w x → x.cell? ⟨bb, bo + (i + 1) * 8, none⟩ = some (.int .i64 u'.kind) ∧ x.cell? ⟨bb, bo + (i + 1) * 8 + 1, none⟩ = some (.string u'.text) ∧ x.cell? ⟨bb, bo + (i + 1) * 8 + 2, none⟩ = some (.bool u'.sp) ∧ x.cell? ⟨bb, bo + (i + 1) * 8 + 3, none⟩ = some (.string u'.file) ∧ x.cell? ⟨bb, bo + (i + 1) * 8 + 4, none⟩ = some (.int .i64 u'.f) ∧ x.cell? ⟨bb, bo + (i + 1) * 8 + 5, none⟩ = some (.int .i64 u'.t) ∧ x.cell? ⟨bb, bo + (i + 1) * 8 + 6, none⟩ = some (.bool u'.made) ∧ x.cell? ⟨bb, bo + (i + 1) * 8 + 7, none⟩ = some (.slice sa1 sn1 sc1)) := Lib.hid fun x hx => by
    obtain ⟨b', o', t'', sa', sn', sc', e1, e2, e3, e4⟩ := (hM.out.below hx).tok (i := i + 1) (by rw [HN.out]; exact hil1)
    rw [hT1] at e2
    simp only [Option.some.injEq, Prod.mk.injEq, Value.slice.injEq] at e2
    obtain ⟨rfl, rfl, rfl, rfl⟩ := e2
    simp only [Option.some.injEq, Addr.mk.injEq, and_true] at e1
    obtain ⟨rfl, rfl⟩ := e1
    exact e4
  have HF : Hid (∀ x, Below w.heap.size w x → x.cell? ⟨fb, 0, none⟩ = some (.pointer (some ⟨mb, 0, none⟩)) ∧ x.cell? ⟨fb, 1, none⟩ = some rv ∧ x.cell? ⟨mb, 4, none⟩ = some (.slice (some ⟨bb, bo, none⟩) n bcap) ∧ x.cell? ⟨bb, bo + (i + 1) * 8, none⟩ = some (.int .i64 u'.kind) ∧ x.cell? ⟨bb, bo + (i + 1) * 8 + 1, none⟩ = some (.string u'.text) ∧ x.cell? ⟨bb, bo + (i + 1) * 8 + 2, none⟩ = some (.bool u'.sp) ∧ x.cell? ⟨bb, bo + (i + 1) * 8 + 3, none⟩ = some (.string u'.file) ∧ x.cell? ⟨bb, bo + (i + 1) * 8 + 4, none⟩ = some (.int .i64 u'.f) ∧ x.cell? ⟨bb, bo + (i + 1) * 8 + 5, none⟩ = some (.int .i64 u'.t) ∧ x.cell? ⟨bb, bo + (i + 1) * 8 + 6, none⟩ = some (.bool u'.made) ∧ x.cell? ⟨bb, bo + (i + 1) * 8 + 7, none⟩ = some (.slice sa1 sn1 sc1)) := Lib.hid fun x hx => ⟨(HC.out x hx).1, (HC.out x hx).2.1, (HC.out x hx).2.2.2.2, HU.out x hx⟩
  have HOf : Hid (∀ x, Below w.heap.size w x → Calls Tryz.prog 80 #[.pointer (some ⟨mb, 0, none⟩), .agg #[.int .i64 u'.kind, .string u'.text, .bool u'.sp, .string u'.file, .int .i64 u'.f, .int .i64 u'.t, .bool u'.made, .slice sa1 sn1 sc1]] x fun e w' => e = .returned (.int .i64 kp) ∧ Below w.heap.size w w' ∧ Below x.heap.size x w') := Lib.hid fun x hx => by
    rw [← hkp]
    exact ((hM.out.below hx).of u' (.slice sa1 sn1 sc1)).mono fun e w' ⟨h1, h2⟩ => ⟨h1, hx.trans (h2.mono hx.size), h2⟩
  have HArg : Hid (∀ x, Below w.heap.size w x → Calls Tryz.prog 102 #[rv, .int .i64 kp] x fun e w' => (∃ y, e = .returned y ∧ ToksRd w' y X) ∧ w' = x) := Lib.hid fun x hx => by
    rw [hX]
    exact (sArg_any RR rv kp hRl hkl x (hR.below hx)).mono fun e w' ⟨⟨y, h1, h2⟩, h3⟩ => ⟨⟨y, h1, by rw [h3]; exact h2⟩, h3⟩
  have HStr : Hid (∀ x y, Below w.heap.size w x → ToksRd x y X → Calls Tryz.prog 16 #[y] x fun e w' => e = .returned (.string s) ∧ Below w.heap.size w w' ∧ Below x.heap.size x w') := Lib.hid fun x y hx hy => by
    rw [hs]
    exact (strz_in hy hXk).mono fun e w' ⟨h1, h2⟩ => ⟨h1, hx.trans (h2.mono hx.size), h2⟩
  replace hs := Lib.hid hs
  replace hX := Lib.hid hX
  replace hXk := Lib.hid hXk
  replace hkp := Lib.hid hkp
  replace hu := Lib.hid hu
  replace hB2 := Lib.hid hB2
  replace hT1 := Lib.hid hT1
  have g1 : IntKind.i64.wrap ((i : Int) + 1) = (i : Int) + 1 := IntWalk.i64_in _ (by omega)
  have g2 : (i : Int) + 1 < n := by omega
  have g3 : (0 : Int) ≤ (i : Int) + 1 := by omega
  have g4 : ((i : Int) + 1).toNat = i + 1 := by omega
  have hb4d := b4.out.drew
  go_upto_region 5 with fail
  go_cut [7] from 34 to 55 (fun s7 wx => s7 = .string s ∧ Hid (Below w4.heap.size w4 wx))
  case first =>
    obtain ⟨s0, s1, s4, y0, y1, y2, y3, y4, y5, y6, y7⟩ := HF.out _ hb4d
    go_region_held3 (fun x : World => x.cell? ⟨fb, 0, none⟩ = some (.pointer (some ⟨mb, 0, none⟩)) ∧ x.cell? ⟨fb, 1, none⟩ = some rv ∧ x.cell? ⟨mb, 4, none⟩ = some (.slice (some ⟨bb, bo, none⟩) n bcap) ∧ x.cell? ⟨bb, bo + (i + 1) * 8, none⟩ = some (.int .i64 u'.kind) ∧ x.cell? ⟨bb, bo + (i + 1) * 8 + 1, none⟩ = some (.string u'.text) ∧ x.cell? ⟨bb, bo + (i + 1) * 8 + 2, none⟩ = some (.bool u'.sp) ∧ x.cell? ⟨bb, bo + (i + 1) * 8 + 3, none⟩ = some (.string u'.file) ∧ x.cell? ⟨bb, bo + (i + 1) * 8 + 4, none⟩ = some (.int .i64 u'.f) ∧ x.cell? ⟨bb, bo + (i + 1) * 8 + 5, none⟩ = some (.int .i64 u'.t) ∧ x.cell? ⟨bb, bo + (i + 1) * 8 + 6, none⟩ = some (.bool u'.made) ∧ x.cell? ⟨bb, bo + (i + 1) * 8 + 7, none⟩ = some (.slice sa1 sn1 sc1)) (first | with_reducible exact ⟨s0, s1, s4, y0, y1, y2, y3, y4, y5, y6, y7⟩ | with_reducible exact HF.out _ hb5 | with_reducible exact HF.out _ hb6) (first | (go_at_call 80; refine (HOf.out _ hb4d).mono ?_; rintro e w5 ⟨rfl, hb5, hbx5⟩) | (go_at_call 102; refine (HArg.out _ hb5).mono ?_; rintro e w5x ⟨⟨y, rfl, hy⟩, hw5⟩; replace hw5 := hw5.symm; subst hw5) | (go_at_call 16; refine (HStr.out _ _ hb5 hy).mono ?_; rintro e w6 ⟨rfl, hb6, hbx6⟩))
    all_goals
      go_wp2_with fail
      go_meet
      case rel => exact ⟨rfl, Lib.hid ((Below.refl w4.heap.size w4).drew.trans (hbx5.trans (hbx6.mono hbx5.size)))⟩
  case rest =>
    obtain ⟨rfl, hbc⟩ := hcut
    have b5 : Hid (Below w.heap.size w wc) := Lib.hid (b4.out.trans (hbc.out.mono b4.out.size))
    have hc5 : Hid (wc.heap[w.heap.size]? = some (.cells #[.slice none 0 0, .bool false, .string ⟨#[]⟩, .int .i64 0, .int .i64 0] 143 (0, 0))) := Lib.hid ((hbc.out.block _ (lt_of_block hc4.out)).trans hc4.out)
    have hk5 : Hid (wc.heap[w.heap.size + 1]? = some (.cells #[.int .i64 t'.kind, .string t'.text, .bool t'.sp, .string t'.file, .int .i64 t'.f, .int .i64 t'.t, .bool t'.made, .slice sa sn sc] 34 (0, 0))) := Lib.hid ((hbc.out.block _ (lt_of_block hk4.out)).trans hk4.out)
    have hs5 : Hid (w.heap.size + 2 ≤ wc.heap.size) := Lib.hid (Nat.le_trans hs4.out hbc.out.size)
    clear g1 g2 g3 g4 hb4d
    -- region 6: the token anew
    have hbz := (Below.refl wc.heap.size wc).drew
    have HF2 : Hid (∀ x, Below wc.heap.size wc x → x.cell? ⟨fb, 3, none⟩ = some sv ∧ x.cell? ⟨w.heap.size + 1, 2, none⟩ = some (.bool t'.sp) ∧ x.cell? ⟨w.heap.size + 1, 3, none⟩ = some (.string t'.file) ∧ x.cell? ⟨w.heap.size + 1, 4, none⟩ = some (.int .i64 t'.f) ∧ x.cell? ⟨w.heap.size + 1, 5, none⟩ = some (.int .i64 t'.t)) := Lib.hid fun x hx => by
      obtain ⟨c0, c1, c2, c3, c4, c5, c6, c7⟩ := cells8 ((hx.block _ (lt_of_block hk5.out)).trans hk5.out)
      exact ⟨(HC.out x (b5.out.trans (hx.mono b5.out.size))).2.2.2.1, c2, c3, c4, c5⟩
    have HCl : Hid (∀ x, Below wc.heap.size wc x → Calls Tryz.prog 59 #[sv] x fun e w' => ∃ v', e = .returned v' ∧ Below wc.heap.size wc w' ∧ Own w' (w.heap.size + 2) 66 5 v' S) := Lib.hid fun x hx =>
      (mClone_any sv S (w.heap.size + 2) x (Nat.le_trans hs5.out hx.size) (hS.below (b5.out.trans (hx.mono b5.out.size)))).mono fun e w' ⟨v', h1, h2, h3, _⟩ => ⟨v', h1, hx.trans (h2.mono hx.size), h3⟩
    obtain ⟨sq, hsq⟩ : ∃ q, q = S.length := ⟨_, rfl⟩
    replace hS := Lib.hid hS
    have hsq' : Hid (S.length = sq) := Lib.hid hsq.symm
    clear hsq
    go_upto_region 6 with fail
    go_cut [] from 56 to 66 (fun wx => ∃ va vc, Hid (wx.heap[w.heap.size + 1]? = some (.cells #[.int .i64 4, .string s, .bool t'.sp, .string t'.file, .int .i64 t'.f, .int .i64 t'.t, .bool true, .slice va sq vc] 34 (0, 0))) ∧ Hid (wx.heap[w.heap.size]? = some (.cells #[.slice none 0 0, .bool false, .string ⟨#[]⟩, .int .i64 0, .int .i64 0] 143 (0, 0))) ∧ Hid (Own wx (w.heap.size + 2) 66 5 (.slice va sq vc) S) ∧ Hid (Below w.heap.size w wx) ∧ Hid (w.heap.size + 2 ≤ wx.heap.size))
    case first =>
      obtain ⟨s3, y2, y3, y4, y5⟩ := HF2.out _ hbz
      go_region_held3 (fun x : World => x.cell? ⟨fb, 3, none⟩ = some sv ∧ x.cell? ⟨w.heap.size + 1, 2, none⟩ = some (.bool t'.sp) ∧ x.cell? ⟨w.heap.size + 1, 3, none⟩ = some (.string t'.file) ∧ x.cell? ⟨w.heap.size + 1, 4, none⟩ = some (.int .i64 t'.f) ∧ x.cell? ⟨w.heap.size + 1, 5, none⟩ = some (.int .i64 t'.t)) (first | with_reducible exact ⟨s3, y2, y3, y4, y5⟩ | with_reducible exact hx6 | with_reducible exact hx8) (first | (go_at_call 59; refine (HCl.out _ hbz).mono ?_; rintro e w6 ⟨v6, rfl, hb6, hown6⟩; obtain ⟨va6, vc6, rfl, _, _, _, _⟩ := hown6.rown (n := sq) hsq'.out; have hk6 := (hb6.block _ (lt_of_block hk5.out)).trans hk5.out; have fr := fun j => Lib.frozen_of_heap hk6 j; obtain ⟨r0, r1, r2, r3, r4, r5, r6, r7⟩ := cells8x hk6; have hx6 := HF2.out w6 hb6; have hg8 := set8_at (b0 := .int .i64 4) (b1 := .string s) (b2 := .bool t'.sp) (b3 := .string t'.file) (b4 := .int .i64 t'.f) (b5 := .int .i64 t'.t) (b6 := .bool true) (b7 := .slice va6 sq vc6) hk6; have hb8 := set8_below (T := w.heap.size + 1) (b0 := .int .i64 4) (b1 := .string s) (b2 := .bool t'.sp) (b3 := .string t'.file) (b4 := .int .i64 t'.f) (b5 := .int .i64 t'.t) (b6 := .bool true) (b7 := .slice va6 sq vc6) (b5.out.trans (hb6.mono b5.out.size)) (Nat.le_add_right _ _); have hx8 := And.intro (HC.out _ hb8).2.2.2.1 (cells8m hg8); replace hg8 := Lib.hid hg8; replace hb8 := Lib.hid hb8; unfold set8 at hx8))
      all_goals
        go_wp2_with fail
        go_meet
        case rel =>
          refine ⟨va6, vc6, hg8, Lib.hid ?_, Lib.hid ?_, hb8, Lib.hid ?_⟩
          · have hc6 := (hb6.block _ (lt_of_block hc5.out)).trans hc5.out
            exact set8_otherN hc6 (by omega)
          · unfold set8 at *
            exact (((((((hown6.setBelow (by omega) _).setBelow (by omega) _).setBelow (by omega) _).setBelow (by omega) _).setBelow (by omega) _).setBelow (by omega) _).setBelow (by omega) _).setBelow (by omega) _
          · show _ ≤ (set8 w6 (w.heap.size + 1) _ _ _ _ _ _ _ _).heap.size
            rw [set8_size]
            exact Nat.le_trans hs5.out hb6.size
    case rest =>
      obtain ⟨va6, vc6, hk7, hc7, hown7, b7, hs7⟩ := hcut
      have hc8 : ∀ o, (wc.alloc o).heap[w.heap.size]? = some (.cells #[.slice none 0 0, .bool false, .string ⟨#[]⟩, .int .i64 0, .int .i64 0] 143 (0, 0)) := fun o => (Lib.alloc_old _ _ _ (lt_of_block hc7.out)).trans hc7.out
      replace hc8 := Lib.hid hc8
      obtain ⟨k0, k1, k2, k3, k4, k5, k6, k7⟩ := cells8 hk7.out
      go_wp2_with (refine wpList_store_row rfl 143 (.tmp 4) (.tmp 70) rfl w.heap.size _ rfl rfl 143 _ (hc8.out _) info_thing rfl (by simp [Value.oneCell']) ?_)
      have hr9 := setRow_heap _ _ _ #[Value.slice (some ⟨wc.heap.size, 0, none⟩) 1 1, .bool false, .string ⟨#[]⟩, .int .i64 0, .int .i64 0] _ _ (hc8.out (.cells #[.int .i64 4, .string s, .bool t'.sp, .string t'.file, .int .i64 t'.f, .int .i64 t'.t, .bool true, .slice va6 sq vc6, .int .i64 (-1), .int .i64 0, .bool false] 118))
      obtain ⟨m0, m1, m2, m3, m4⟩ := cells5 hr9
      refine bodyPost_ret (v := .tuple #[.agg #[.slice (some ⟨wc.heap.size, 0, none⟩) 1 1, .bool false, .string ⟨#[]⟩, .int .i64 0, .int .i64 0], .int .i64 2]) (by simp [results, Tryz.results85, go_sem, m0, m1, m2, m3, m4]) rfl ?_
      refine ⟨⟨_, rfl, [(⟨⟨4, s, t'.sp, t'.file, t'.f, t'.t, true⟩, S, -1, 0, false⟩, .slice va6 sq vc6)], rfl, ?_, ?_⟩, Below.row (b7.out.alloc b7.out.size _) (Nat.le_refl _) _⟩
      · exact ((own_lit1 wc 118 11 (pzC ⟨⟨4, s, t'.sp, t'.file, t'.f, t'.t, true⟩, S, -1, 0, false⟩ (.slice va6 sq vc6)) rfl).rowBelow (by have := hs7.out; omega) _).mono b7.out.size
      · intro p hp
        simp only [List.mem_singleton] at hp
        subst hp
        exact ((hown7.out.alloc _).rowBelow (by omega) _).mono (by omega)
end Go.Proofs.YtfaoamdlknlgpaaGreat
