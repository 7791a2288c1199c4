/- Texts of this seat's proofs, laid into one file. -/
import Derived.Test.YtfaoamdlknlgpaaGreatSubstHashDoneG38
import Derived.Test.YtfaoamdlknlgpaaGreatSubstHashDoneG23
import Derived.Deep.RegionHeld3
/- subst: what comes of a parameter. -/
namespace Go.Proofs.YtfaoamdlknlgpaaGreat
open Go.RowKit
set_option linter.unusedVariables false

def elemZ (sp : Bool) (p : Nat) (full : Bool) (k : Nat) (x : Tf) : Pz := ⟨if k = 0 then { x.1 with sp := sp } else x.1, x.2, p, k, full⟩

theorem argZ_get (sp : Bool) (p : Nat) (full : Bool) : ∀ (X : List Tf) (j k : Nat), (argZ sp p full j X)[k]? = X[k]?.map (elemZ sp p full (j + k))
  | [], j, k => by simp [argZ]
  | x :: r, j, 0 => by simp [argZ, elemZ]
  | x :: r, j, k + 1 => by
    simp only [argZ, List.getElem?_cons_succ]
    rw [argZ_get sp p full r (j + 1) k, show j + 1 + k = j + (k + 1) by omega]

theorem argZ_len (sp : Bool) (p : Nat) (full : Bool) : ∀ (X : List Tf) (j : Nat), (argZ sp p full j X).length = X.length
  | [], j => rfl
  | x :: r, j => by simp [argZ, argZ_len sp p full r (j + 1)]

theorem argZ_take {sp : Bool} {p : Nat} {full : Bool} {X : List Tf} {k : Nat} {x : Tf} (hx : X[k]? = some x) : (argZ sp p full 0 X).take (k + 1) = (argZ sp p full 0 X).take k ++ [elemZ sp p full k x] := by
  rw [List.take_add_one, argZ_get, hx, Nat.zero_add]
  rfl

theorem OwnT.tr {X : List Tf} {B : Nat} {v : Value} {w w' : World} (h : OwnT X B v w) (f1 : ∀ css, Own w B 34 8 v css → Own w' B 34 8 v css) (f2 : ∀ u css, Own w B 66 5 u css → Own w' B 66 5 u css) : OwnT X B v w' := by
  obtain ⟨T, h1, h2, h3⟩ := h
  exact ⟨T, f1 _ h1, h2, fun i p x hp hx => ⟨(h3 i p x hp hx).1, f2 _ _ (h3 i p x hp hx).2⟩⟩

theorem OwnZ.tr {X : List Pz} {B : Nat} {v : Value} {w w' : World} (h : OwnZ X B v w) (f1 : ∀ css, Own w B 118 11 v css → Own w' B 118 11 v css) (f2 : ∀ u css, Own w B 66 5 u css → Own w' B 66 5 u css) : OwnZ X B v w' := by
  obtain ⟨T, h1, h2, h3⟩ := h
  exact ⟨T, h1, f1 _ h2, fun p hp => f2 _ _ (h3 p hp)⟩

/-- one of the tokens that the call owns: its cells, and its sites -/
theorem OwnT.at {X : List Tf} {B n cap k : Nat} {ao : Option Addr} {x : Tf} {w : World} (h : OwnT X B (.slice ao n cap) w) (hk : X[k]? = some x) : ∃ b o sa sn sc, ao = some ⟨b, o, none⟩ ∧ Own w B 66 5 (.slice sa sn sc) x.2 ∧
    (w.cell? ⟨b, o + k * 8, none⟩ = some (.int .i64 x.1.kind) ∧ w.cell? ⟨b, o + k * 8 + 1, none⟩ = some (.string x.1.text) ∧ w.cell? ⟨b, o + k * 8 + 2, none⟩ = some (.bool x.1.sp) ∧ w.cell? ⟨b, o + k * 8 + 3, none⟩ = some (.string x.1.file) ∧ w.cell? ⟨b, o + k * 8 + 4, none⟩ = some (.int .i64 x.1.f) ∧ w.cell? ⟨b, o + k * 8 + 5, none⟩ = some (.int .i64 x.1.t) ∧ w.cell? ⟨b, o + k * 8 + 6, none⟩ = some (.bool x.1.made) ∧ w.cell? ⟨b, o + k * 8 + 7, none⟩ = some (.slice sa sn sc)) := by
  obtain ⟨T, h1, h2, h3⟩ := h
  obtain ⟨p, hp⟩ : ∃ p, T[k]? = some p := ⟨_, List.getElem?_eq_getElem (by rw [h2]; exact (List.getElem?_eq_some_iff.1 hk).1)⟩
  obtain ⟨e1, e2⟩ := h3 k p x hp hk
  obtain ⟨tm, v⟩ := p
  obtain ⟨sa, sc, hv, _⟩ := e2.row
  simp only at e1 hv
  subst hv
  subst e1
  obtain ⟨b, o, rfl, hat⟩ := h1.here (by intro e; simp at e; rw [e] at hp; simp at hp)
  exact ⟨b, o, sa, _, sc, rfl, e2, tok8 (tok_at hat hp)⟩

theorem grown_block {w w' : World} {row : Option Nat} (hg : w.grownBy w' row) {g : Nat} {o : Obj} (h : w.heap[g]? = some o) (hne : row = none ∨ row ≠ some g) : w'.heap[g]? = some o := by
  refine (hg.block g (lt_of_block h) ?_).trans h
  intro e
  rcases hne with h0 | h0
  · rw [h0] at e; cases e
  · exact h0 e.symm

theorem E118 : EI Tryz.prog 113 118 (.agg #[.int .i64 0, .string ⟨#[]⟩, .bool false, .string ⟨#[]⟩, .int .i64 0, .int .i64 0, .bool false, .slice none 0 0, .int .i64 0, .int .i64 0, .bool false]) 11 120 := ⟨Tryz.underlying113, by kernel_rfl, rfl, by decide⟩

/-- what holds while an argument's pieces are laid -/
structure AZ (w : World) (t : Tm) (tv : Value) (X : List Tf) (sp : Bool) (p : Nat) (full : Bool) (vo : Value) (k : Nat) (vz : Value) (wr : World) : Prop where
  x : wr.heap[w.heap.size]? = some (.cells #[vz, .bool false, .string ⟨#[]⟩, .int .i64 0, .int .i64 0] 143 (0, 0))
  tk : wr.heap[w.heap.size + 1]? = some (.cells #[.int .i64 t.kind, .string t.text, .bool t.sp, .string t.file, .int .i64 t.f, .int .i64 t.t, .bool t.made, tv] 34 (0, 0))
  z : OwnZ ((argZ sp p full 0 X).take k) (w.heap.size + 2) vz wr
  o : OwnT X (w.heap.size + 2) vo wr
  b : Below w.heap.size w wr
  sz : w.heap.size + 2 ≤ wr.heap.size

set_option maxHeartbeats 2000000 in
set_option maxRecDepth 100000 in
theorem thing_arg (fb mb : Nat) (m : Mac) (T : List (Tm × Value)) (pao : Option Addr) (pcap : Nat) (bao : Option Addr) (bcap : Nat) (rv fv sv : Value) (i : Nat) (t : Tm) (w : World) (hM : MH mb m T pao pcap bao bcap w) (hF : FH fb mb rv fv sv w) (hi : m.body[i]? = some t) (kp : Nat) (hkp : ofP m.fn m.params t = kp) (hkl : kp ≤ 1000000) (RR FF : List (List Tf)) (hRl : RR.length ≤ 1000000) (hFl : FF.length ≤ 1000000) (hR : LsRd w rv RR) (hFu : LsRd w fv FF) (rw_ : Bool) (hrw : rawP m.body i = rw_) (X : List Tf) (hX : X = (if rw_ then RR else FF)[kp]?.getD []) (hXk : X.length ≤ 1000 ∧ ∀ x ∈ X, x.1.text.size ≤ 1000 ∧ SitesOk x.2) (hp : pasteP t = false) (hh : hashedP m i = false) :
    Calls Tryz.prog 85 #[.pointer (some ⟨fb, 0, none⟩), .int .i64 i] w fun e w' => (∃ v, e = .returned (.tuple #[.agg #[v, .bool false, .string ⟨#[]⟩, .int .i64 0, .int .i64 0], .int .i64 1]) ∧ OwnZ (argZ t.sp kp (!rw_) 0 X) w.heap.size v w') ∧ Below w.heap.size w w' := by
  have ho : ¬ ofP m.fn m.params t < 0 := by omega
  obtain ⟨n, hn⟩ : ∃ n, n = T.length := ⟨_, rfl⟩
  have HN : Hid (T.length = n) := Lib.hid hn.symm
  have hil : i < n := by rw [hn, ← List.length_map (f := (·.1)), hM.body]; exact (List.getElem?_eq_some_iff.1 hi).1
  obtain ⟨bb, bo, t', sa, sn, sc, rfl, hT, hB, _⟩ := hM.tok (i := i) (by rw [← hn]; exact hil)
  obtain rfl : t' = t := by rw [hB] at hi; exact Option.some.inj hi
  have hlen := hM.len
  have hbcap := hM.cap
  rw [← hn] at hlen hbcap
  have HC : Hid (∀ x, Below w.heap.size w x → x.cell? ⟨fb, 0, none⟩ = some (.pointer (some ⟨mb, 0, none⟩)) ∧ x.cell? ⟨fb, 1, none⟩ = some rv ∧ x.cell? ⟨fb, 2, none⟩ = some fv ∧ x.cell? ⟨fb, 3, none⟩ = some sv ∧ x.cell? ⟨mb, 4, none⟩ = some (.slice (some ⟨bb, bo, none⟩) n bcap)) := Lib.hid fun x hx => by
    obtain ⟨fz, hfc⟩ := (hF.below hx).cells
    obtain ⟨mz, hmc⟩ := (hM.below hx).cells
    rw [HN.out] at hmc
    exact ⟨by rw [Lib.cell_of_heap hfc]; rfl, by rw [Lib.cell_of_heap hfc]; rfl, by rw [Lib.cell_of_heap hfc]; rfl, by rw [Lib.cell_of_heap hfc]; rfl, (cells8 hmc).2.2.2.2.1⟩
  have HT : Hid (∀ x, Below w.heap.size w x → x.cell? ⟨bb, bo + i * 8, none⟩ = some (.int .i64 t'.kind) ∧ x.cell? ⟨bb, bo + i * 8 + 1, none⟩ = some (.string t'.text) ∧ x.cell? ⟨bb, bo + i * 8 + 2, none⟩ = some (.bool t'.sp) ∧ x.cell? ⟨bb, bo + i * 8 + 3, none⟩ = some (.string t'.file) ∧ x.cell? ⟨bb, bo + i * 8 + 4, none⟩ = some (.int .i64 t'.f) ∧ x.cell? ⟨bb, bo + i * 8 + 5, none⟩ = some (.int .i64 t'.t) ∧ x.cell? ⟨bb, bo + i * 8 + 6, none⟩ = some (.bool t'.made) ∧ x.cell? ⟨bb, bo + i * 8 + 7, none⟩ = some (.slice sa sn sc)) := Lib.hid fun x hx => by
    obtain ⟨b', o', t'', sa', sn', sc', e1, e2, e3, e4⟩ := (hM.below hx).tok (i := i) (by rw [← hn]; exact hil)
    rw [hT] at e2
    simp only [Option.some.injEq, Prod.mk.injEq, Value.slice.injEq] at e2
    obtain ⟨rfl, rfl, rfl, rfl⟩ := e2
    simp only [Option.some.injEq, Addr.mk.injEq, and_true] at e1
    obtain ⟨rfl, rfl⟩ := e1
    exact e4
  have hil' : (i : Int) < n := by omega
  obtain ⟨W1, hW1⟩ : ∃ W1, W1 = w.alloc (.cells #[.slice none 0 0, .bool false, .string ⟨#[]⟩, .int .i64 0, .int .i64 0] 143) := ⟨_, rfl⟩
  have b1 : Hid (Below w.heap.size w W1) := Lib.hid (by rw [hW1]; exact (Below.refl _ w).alloc (Nat.le_refl _) _)
  have hc1 : Hid (W1.heap[w.heap.size]? = some (.cells #[.slice none 0 0, .bool false, .string ⟨#[]⟩, .int .i64 0, .int .i64 0] 143 (0, 0))) := Lib.hid (by rw [hW1]; exact heap_alloc_new w _)
  have hs1 : Hid (W1.heap.size = w.heap.size + 1) := Lib.hid (by rw [hW1]; simp)
  obtain ⟨W2, hW2⟩ : ∃ W2, W2 = W1.alloc (.cells #[.int .i64 t'.kind, .string t'.text, .bool t'.sp, .string t'.file, .int .i64 t'.f, .int .i64 t'.t, .bool t'.made, .slice sa sn sc] 34) := ⟨_, rfl⟩
  have b2 : Hid (Below w.heap.size w W2) := Lib.hid (by rw [hW2]; exact b1.out.alloc b1.out.size _)
  have hc2 : Hid (W2.heap[w.heap.size]? = some (.cells #[.slice none 0 0, .bool false, .string ⟨#[]⟩, .int .i64 0, .int .i64 0] 143 (0, 0))) := Lib.hid (by rw [hW2]; exact (Lib.alloc_old _ _ _ (lt_of_block hc1.out)).trans hc1.out)
  have hk2 : Hid (W2.heap[w.heap.size + 1]? = some (.cells #[.int .i64 t'.kind, .string t'.text, .bool t'.sp, .string t'.file, .int .i64 t'.f, .int .i64 t'.t, .bool t'.made, .slice sa sn sc] 34 (0, 0))) := Lib.hid (by rw [hW2, ← hs1.out]; exact heap_alloc_new W1 _)
  have hs2 : Hid (W2.heap.size = w.heap.size + 2) := Lib.hid (by rw [hW2, World.size_alloc, hs1.out])
  have HP := mPaste_any t' (.slice sa sn sc) W2
  unfold tmC at HP
  rw [hp] at HP
  replace HP := Lib.hid HP
  obtain ⟨f0, f1, f2, f3, m4⟩ := HC.out W1 b1.out
  obtain ⟨t0, t1, t2, t3, t4, t5, t6, t7⟩ := HT.out W1 b1.out
  replace hM := Lib.hid hM
  replace hF := Lib.hid hF
  replace hT := Lib.hid hT
  replace hB := Lib.hid hB
  replace hp := Lib.hid hp
  replace hi := Lib.hid hi
  clear hn
  go_enter Tryz.func85, Tryz.ntmps85
  go_upto_region 1 with fail
  rw [← hW1]
  replace hW1 := Lib.hid hW1
  go_upto_region 2 with fail
  rw [← hW2, hs1.out]
  replace hW2 := Lib.hid hW2
  clear f0 f1 f2 f3 m4 t0 t1 t2 t3 t4 t5 t6 t7
  obtain ⟨k0, k1, k2, k3, k4, k5, k6, k7⟩ := cells8 hk2.out
  go_wp2_with fail
  refine HP.out.mono ?_
  rintro e w3 ⟨rfl, hb3⟩
  have b3 : Hid (Below w.heap.size w w3) := Lib.hid (b2.out.trans (hb3.mono b2.out.size))
  have hc3 : Hid (w3.heap[w.heap.size]? = some (.cells #[.slice none 0 0, .bool false, .string ⟨#[]⟩, .int .i64 0, .int .i64 0] 143 (0, 0))) := Lib.hid ((hb3.block _ (lt_of_block hc2.out)).trans hc2.out)
  have hk3 : Hid (w3.heap[w.heap.size + 1]? = some (.cells #[.int .i64 t'.kind, .string t'.text, .bool t'.sp, .string t'.file, .int .i64 t'.f, .int .i64 t'.t, .bool t'.made, .slice sa sn sc] 34 (0, 0))) := Lib.hid ((hb3.block _ (lt_of_block hk2.out)).trans hk2.out)
  have hs3 : Hid (w.heap.size + 2 ≤ w3.heap.size) := Lib.hid (by rw [← hs2.out]; exact hb3.size)
  clear k0 k1 k2 k3 k4 k5 k6 k7 hb3
  obtain ⟨f0, f1, f2, f3, m4⟩ := HC.out w3 b3.out
  have HH := sHashed_any mb m T pao pcap (some ⟨bb, bo, none⟩) bcap i (by rw [HN.out]; exact hil) w3 (hM.out.below b3.out)
  rw [hh] at HH
  replace HH := Lib.hid HH
  go_wp2_with fail
  refine HH.out.mono ?_
  rintro e w4 ⟨rfl, hb4⟩
  have b4 : Hid (Below w.heap.size w w4) := Lib.hid (b3.out.trans (hb4.mono b3.out.size))
  have hc4 : Hid (w4.heap[w.heap.size]? = some (.cells #[.slice none 0 0, .bool false, .string ⟨#[]⟩, .int .i64 0, .int .i64 0] 143 (0, 0))) := Lib.hid ((hb4.block _ (lt_of_block hc3.out)).trans hc3.out)
  have hk4 : Hid (w4.heap[w.heap.size + 1]? = some (.cells #[.int .i64 t'.kind, .string t'.text, .bool t'.sp, .string t'.file, .int .i64 t'.f, .int .i64 t'.t, .bool t'.made, .slice sa sn sc] 34 (0, 0))) := Lib.hid ((hb4.block _ (lt_of_block hk3.out)).trans hk3.out)
  have hs4 : Hid (w.heap.size + 2 ≤ w4.heap.size) := Lib.hid (Nat.le_trans hs3.out hb4.size)
  replace hh := Lib.hid hh
  clear f0 f1 f2 f3 m4 hb4
  obtain ⟨xo, hxo⟩ : ∃ xo, xo = ofP m.fn m.params t' := ⟨_, rfl⟩
  have HOf : Hid (∀ x, Below w.heap.size w x → Calls Tryz.prog 80 #[.pointer (some ⟨mb, 0, none⟩), .agg #[.int .i64 t'.kind, .string t'.text, .bool t'.sp, .string t'.file, .int .i64 t'.f, .int .i64 t'.t, .bool t'.made, .slice sa sn sc]] x fun e w' => e = .returned (.int .i64 xo) ∧ Below x.heap.size x w') := Lib.hid fun x hx => by
    rw [hxo]
    exact (hM.out.below hx).of t' (.slice sa sn sc)
  rw [← hxo] at ho hkp
  subst hkp
  replace hxo := Lib.hid hxo
  go_upto_region 8 with fail
  go_cut [8] from 71 to 76 (fun s8 wx => s8 = .int .i64 kp ∧ Hid (Below w4.heap.size w4 wx))
  case first =>
    obtain ⟨f0, f1, f2, f3, m4⟩ := HC.out w4 b4.out
    obtain ⟨k0, k1, k2, k3, k4, k5, k6, k7⟩ := cells8 hk4.out
    go_region_with (first | (go_at_call 80; refine (HOf.out _ b4.out.drew).mono ?_; rintro e w5 ⟨rfl, hb5⟩))
    all_goals
      go_wp2_with fail
      go_meet
      case rel => exact ⟨rfl, Lib.hid ((Below.refl w4.heap.size w4).drew.trans hb5)⟩
  case rest =>
    obtain ⟨rfl, hbc⟩ := hcut
    have b5 : Hid (Below w.heap.size w wc) := Lib.hid (b4.out.trans (hbc.out.mono b4.out.size))
    have hc5 : Hid (wc.heap[w.heap.size]? = some (.cells #[.slice none 0 0, .bool false, .string ⟨#[]⟩, .int .i64 0, .int .i64 0] 143 (0, 0))) := Lib.hid ((hbc.out.block _ (lt_of_block hc4.out)).trans hc4.out)
    have hk5 : Hid (wc.heap[w.heap.size + 1]? = some (.cells #[.int .i64 t'.kind, .string t'.text, .bool t'.sp, .string t'.file, .int .i64 t'.f, .int .i64 t'.t, .bool t'.made, .slice sa sn sc] 34 (0, 0))) := Lib.hid ((hbc.out.block _ (lt_of_block hk4.out)).trans hk4.out)
    have hs5 : Hid (w.heap.size + 2 ≤ wc.heap.size) := Lib.hid (Nat.le_trans hs4.out hbc.out.size)
    have HRw := sRaw_any mb m T pao pcap (some ⟨bb, bo, none⟩) bcap i (by rw [HN.out]; exact hil) wc (hM.out.below b5.out)
    rw [hrw] at HRw
    replace HRw := Lib.hid HRw
    have HA1 : Hid (∀ x, Below w.heap.size w x → Calls Tryz.prog 102 #[fv, .int .i64 kp] x fun e w' => (∃ y, e = .returned y ∧ ToksRd w' y (FF[kp]?.getD [])) ∧ w' = x) := Lib.hid fun x hx =>
      (sArg_any FF fv kp hFl hkl x (hFu.below hx)).mono fun e w' ⟨⟨y, h1, h2⟩, h3⟩ => ⟨⟨y, h1, by rw [h3]; exact h2⟩, h3⟩
    have HA2 : Hid (∀ x, Below w.heap.size w x → Calls Tryz.prog 102 #[rv, .int .i64 kp] x fun e w' => (∃ y, e = .returned y ∧ ToksRd w' y (RR[kp]?.getD [])) ∧ w' = x) := Lib.hid fun x hx =>
      (sArg_any RR rv kp hRl hkl x (hR.below hx)).mono fun e w' ⟨⟨y, h1, h2⟩, h3⟩ => ⟨⟨y, h1, by rw [h3]; exact h2⟩, h3⟩
    have hkn : ¬ (kp : Int) < 0 := by omega
    obtain ⟨f0, f1, f2, f3, m4⟩ := HC.out wc b5.out
    replace hrw := Lib.hid hrw
    replace hX := Lib.hid hX
    replace hXk := Lib.hid hXk
    clear ho
    go_wp2_with fail
    refine HRw.out.mono ?_
    rintro e w6 ⟨rfl, hb6⟩
    have b6 : Hid (Below w.heap.size w w6) := Lib.hid (b5.out.trans (hb6.mono b5.out.size))
    have hc6 : Hid (w6.heap[w.heap.size]? = some (.cells #[.slice none 0 0, .bool false, .string ⟨#[]⟩, .int .i64 0, .int .i64 0] 143 (0, 0))) := Lib.hid ((hb6.block _ (lt_of_block hc5.out)).trans hc5.out)
    have hk6 : Hid (w6.heap[w.heap.size + 1]? = some (.cells #[.int .i64 t'.kind, .string t'.text, .bool t'.sp, .string t'.file, .int .i64 t'.f, .int .i64 t'.t, .bool t'.made, .slice sa sn sc] 34 (0, 0))) := Lib.hid ((hb6.block _ (lt_of_block hk5.out)).trans hk5.out)
    have hs6 : Hid (w.heap.size + 2 ≤ w6.heap.size) := Lib.hid (Nat.le_trans hs5.out hb6.size)
    clear f0 f1 f2 f3 m4 hb6
    obtain ⟨f0, f1, f2, f3, m4⟩ := HC.out w6 b6.out
    go_wp2_with fail
    refine (HA1.out _ b6.out).mono ?_
    rintro e w6x ⟨⟨y, rfl, hy⟩, hw6⟩
    replace hw6 := hw6.symm
    subst hw6
    cases rw_
    case' true =>
      go_wp2_with fail
      refine (HA2.out _ b6.out).mono ?_
      rintro e w7x ⟨⟨y2, rfl, hy2⟩, hw7⟩
      replace hw7 := hw7.symm
      subst hw7
      have hyX : Hid (ToksRd w6 y2 X) := Lib.hid (by rw [hX.out]; exact hy2)
      obtain ⟨fl, hfl⟩ : ∃ fl : Bool, fl = false := ⟨_, rfl⟩
      replace hfl := Lib.hid hfl
      clear hy hy2
    case' false =>
      have hyX : Hid (ToksRd w6 y X) := Lib.hid (by rw [hX.out]; exact hy)
      obtain ⟨fl, hfl⟩ : ∃ fl : Bool, fl = true := ⟨_, rfl⟩
      replace hfl := Lib.hid hfl
      clear hy
    all_goals
      have HOw := ownRd_any hyX.out (by have := hXk.out.1; omega)
      replace HOw := Lib.hid HOw
      go_wp2_with fail
      refine HOw.out.mono ?_
      rintro e w8 ⟨vo, rfl, ho8, hb8⟩
      have b8 : Hid (Below w.heap.size w w8) := Lib.hid (b6.out.trans (hb8.mono b6.out.size))
      have hc8 : Hid (w8.heap[w.heap.size]? = some (.cells #[.slice none 0 0, .bool false, .string ⟨#[]⟩, .int .i64 0, .int .i64 0] 143 (0, 0))) := Lib.hid ((hb8.block _ (lt_of_block hc6.out)).trans hc6.out)
      have hk8 : Hid (w8.heap[w.heap.size + 1]? = some (.cells #[.int .i64 t'.kind, .string t'.text, .bool t'.sp, .string t'.file, .int .i64 t'.f, .int .i64 t'.t, .bool t'.made, .slice sa sn sc] 34 (0, 0))) := Lib.hid ((hb8.block _ (lt_of_block hk6.out)).trans hk6.out)
      have hs8 : Hid (w.heap.size + 2 ≤ w8.heap.size) := Lib.hid (Nat.le_trans hs6.out hb8.size)
      obtain ⟨q, hq⟩ : ∃ q, q = X.length := ⟨_, rfl⟩
      have HQ : Hid (X.length = q) := Lib.hid hq.symm
      have hq1 : q ≤ 1000 := by have := hXk.out.1; omega
      obtain ⟨oa, oc, rfl⟩ := ho8.slice hq.symm
      replace ho8 := Lib.hid (ho8.mono hs6.out)
      clear hq f0 f1 f2 f3 m4
      have hZ0 : Hid (AZ w t' (.slice sa sn sc) X t'.sp kp fl (.slice oa q oc) 0 (.slice none 0 0) w8) := Lib.hid ⟨hc8.out, hk8.out, by rw [List.take_zero]; exact OwnZ.nil _ _, ho8.out, b8.out, hs8.out⟩
      go_wp2_with fail
      go_loopg [112] q (fun u v wr => ∃ (k : Nat) (vz : Value), u = q - k ∧ k ≤ q ∧ v = .int .i64 k ∧ Hid (AZ w t' (.slice sa sn sc) X t'.sp kp fl (.slice oa q oc) k vz wr))
      case atStart => exact ⟨0, _, rfl, Nat.zero_le _, rfl, hZ0⟩
      case round =>
        obtain ⟨k, vz, rfl, hk, rfl, hZ⟩ := hrel
        by_cases hlt : k < q
        · have hlt' : (k : Int) < q := by omega
          obtain ⟨⟨tm, css⟩, hx⟩ : ∃ x, X[k]? = some x := ⟨_, List.getElem?_eq_getElem (by rw [HQ.out]; exact hlt)⟩
          obtain ⟨ob, oo, ua, un, uc, rfl, hown, t0, t1, t2, t3, t4, t5, t6, t7⟩ := hZ.out.o.at hx
          simp only at hown t0 t1 t2 t3 t4 t5 t6 t7
          have hget := argZ_take (sp := t'.sp) (p := kp) (full := fl) hx
          obtain ⟨vza, vzc, hvz, _⟩ := hZ.out.z.len
          have hzl : ((argZ t'.sp kp fl 0 X).take k).length = k := by rw [List.length_take, argZ_len, HQ.out]; omega
          rw [hzl] at hvz
          subst hvz
          replace hx := Lib.hid hx
          replace hget := Lib.hid hget
          replace hown := Lib.hid hown
          obtain ⟨W2, hW2⟩ : ∃ W2, W2 = wr.alloc (.cells #[.int .i64 tm.kind, .string tm.text, .bool tm.sp, .string tm.file, .int .i64 tm.f, .int .i64 tm.t, .bool tm.made, .slice ua un uc] 34) := ⟨_, rfl⟩
          have b2 : Below wr.heap.size wr W2 := by rw [hW2]; exact (Below.refl _ wr).alloc (Nat.le_refl _) _
          have h2 : W2.heap[wr.heap.size]? = some (.cells #[.int .i64 tm.kind, .string tm.text, .bool tm.sp, .string tm.file, .int .i64 tm.f, .int .i64 tm.t, .bool tm.made, .slice ua un uc] 34 (0, 0)) := by rw [hW2]; exact heap_alloc_new wr _
          go_upto_region 19 with fail
          rw [← hW2]
          replace hW2 := Lib.hid hW2
          clear t0 t1 t2 t3 t4 t5 t6 t7
          by_cases hk0 : k = 0
          case' pos =>
            have hk0' : ((k : Int) == 0) = true := by rw [hk0]; rfl
            obtain ⟨k0, k1, k2, k3, k4, k5, k6, k7⟩ := cells8 ((b2.block _ (lt_of_block hZ.out.tk)).trans hZ.out.tk)
            have fr := fun j => Lib.frozen_of_heap h2 j
            obtain ⟨r0, r1, r2, r3, r4, r5, r6, r7⟩ := cells8x h2
            obtain ⟨sp3, hsp3⟩ : ∃ b, b = t'.sp := ⟨_, rfl⟩
            have hsp4 : Hid (sp3 = if k = 0 then t'.sp else tm.sp) := Lib.hid (by rw [if_pos hk0]; exact hsp3)
            obtain ⟨W3, hW3⟩ : ∃ W3, W3 = W2.setCell ⟨wr.heap.size, 2, none⟩ (.bool t'.sp) := ⟨_, rfl⟩
            have b3 : Hid (Below wr.heap.size wr W3) := Lib.hid (by rw [hW3]; exact b2.setCell (p := ⟨wr.heap.size, 2, none⟩) (Nat.le_refl _) _)
            have h3 : Hid (W3.heap[wr.heap.size]? = some (.cells #[.int .i64 tm.kind, .string tm.text, .bool sp3, .string tm.file, .int .i64 tm.f, .int .i64 tm.t, .bool tm.made, .slice ua un uc] 34 (0, 0))) := Lib.hid (by
              have := set_at h2 2 (.bool t'.sp)
              rw [hW3, hsp3]
              simpa using this)
            replace hsp3 := Lib.hid hsp3
            replace hk0 := Lib.hid hk0
            go_upto_region 21 with fail
            rw [← hW3]
            replace hW3 := Lib.hid hW3
            replace h2 := Lib.hid h2
            clear k0 k1 k2 k3 k4 k5 k6 k7 fr r0 r1 r2 r3 r4 r5 r6 r7
          case' neg =>
            have hk0' : ((k : Int) == 0) = false := beq_false_of_ne (by omega)
            obtain ⟨sp3, hsp3⟩ : ∃ b, b = tm.sp := ⟨_, rfl⟩
            have hsp4 : Hid (sp3 = if k = 0 then t'.sp else tm.sp) := Lib.hid (by rw [if_neg hk0]; exact hsp3)
            rw [← hsp3] at h2
            have b3 := Lib.hid b2
            have h3 := Lib.hid h2
            obtain ⟨W3, hW3⟩ : ∃ W3, W3 = W2 := ⟨_, rfl⟩
            rw [← hW3] at b3 h3
            replace hsp3 := Lib.hid hsp3
            replace hk0 := Lib.hid hk0
            go_upto_region 21 with fail
            rw [← hW3]
            replace hW3 := Lib.hid hW3
            replace h2 := Lib.hid h2
          all_goals
            have hfl2 := hfl.out
            subst hfl2
            have hx3 := Lib.hid ((b3.out.block _ (lt_of_block hZ.out.x)).trans hZ.out.x)
            have hk3 := Lib.hid ((b3.out.block _ (lt_of_block hZ.out.tk)).trans hZ.out.tk)
            obtain ⟨Tz, hTz, oz, ozs⟩ := hZ.out.z.below b3.out
            have hlz : Tz.length = k := by rw [← hzl, ← hTz, List.length_map]
            have hsz3 : Hid (w.heap.size + 2 ≤ W3.heap.size) := Lib.hid (Nat.le_trans hZ.out.sz b3.out.size)
            have hB3 : Hid (Below w.heap.size w W3) := Lib.hid (hZ.out.b.trans (b3.out.mono hZ.out.b.size))
            have hlen : (Tz.map pzV).length + 1 ≤ 1000000000 := by rw [List.length_map, hlz]; omega
            have hT3 := Lib.hid (hZ.out.o.below b3.out)
            have hown3 := Lib.hid (hown.out.below b3.out)
            have hne3 := Lib.hid (own_ne oz hx3.out (by decide))
            have hne4 := Lib.hid (own_ne oz hk3.out (by decide))
            replace hTz := Lib.hid hTz
            replace ozs := Lib.hid ozs
            obtain ⟨k0, k1, k2, k3, k4, k5, k6, k7⟩ := cells8 h3.out
            obtain ⟨x0, x1, x2, x3, x4⟩ := cells5 hx3.out
            have e0 := fun o => kept_cell ((Below.refl W3.heap.size W3).alloc (Nat.le_refl _) o) x0
            have hlz2 := Lib.hid hlz
            clear hlz hzl
            go_wp2_with (at_builtin; go_must (refine wpList_append1 E118 rfl rfl oz rfl (g := W3.heap.size) rfl (news := pzC ⟨⟨tm.kind, tm.text, sp3, tm.file, tm.f, tm.t, tm.made⟩, css, kp, k, _⟩ (.slice ua un uc)) rfl rfl (by simp [pzC, Value.oneCell']) hlen (by decide) hsz3.out ?_); intro v5 w5 hown5 hg5; obtain ⟨va5, vc5, rfl, _, _, _, _⟩ := hown5.rown (n := k + 1) (by simp [hlz2.out]); have hx5 := grown_block hg5 hx3.out hne3.out; have hk5' := grown_block hg5 hk3.out hne4.out; obtain ⟨y0, y1, y2, y3, y4⟩ := cells5 hx5; have fr := fun j => Lib.frozen_of_heap hx5 j)
            have helem : ∀ b : Bool, elemZ t'.sp kp b k (tm, css) = ⟨⟨tm.kind, tm.text, sp3, tm.file, tm.f, tm.t, tm.made⟩, css, kp, k, b⟩ := by
              intro b
              unfold elemZ
              rw [hsp4.out]
              by_cases hk00 : k = 0 <;> simp [hk00]
            have hBlt : w.heap.size < w.heap.size + 2 := by omega
            go_roundg (q - (k + 1))
            case measure => omega
            case rel =>
              refine ⟨k + 1, .slice va5 (k + 1) vc5, rfl, hlt, by go_num, Lib.hid ⟨?_, ?_, ?_, ?_, ?_, ?_⟩⟩
              · have := set_at hx5 0 (.slice va5 (k + 1) vc5)
                simpa using this
              · exact (Below.heap_setCell _ _ _ _ (by simp)).trans hk5'
              · refine ⟨Tz ++ [(⟨⟨tm.kind, tm.text, sp3, tm.file, tm.f, tm.t, tm.made⟩, css, kp, k, _⟩, .slice ua un uc)], by rw [List.map_append, hTz.out, hget.out, helem]; rfl, by rw [List.map_append]; exact hown5.setBelow hBlt _, ?_⟩
                intro p hp
                rcases List.mem_append.1 hp with hp | hp
                · have := ozs.out p hp
                  exact (this.kept hg5 (own_apart this oz (by decide))).setBelow hBlt _
                · simp only [List.mem_singleton] at hp
                  subst hp
                  exact (hown3.out.kept hg5 (own_apart hown3.out oz (by decide))).setBelow hBlt _
              · exact hT3.out.tr (fun css h => (h.kept hg5 (own_apart h oz (by decide))).setBelow hBlt _) (fun u css h => (h.kept hg5 (own_apart h oz (by decide))).setBelow hBlt _)
              · exact (bapp hB3.out (oz.mono (Nat.le_add_right _ _)) hg5 hB3.out.size).setCell (p := ⟨w.heap.size, 0, none⟩) (Nat.le_refl _) _
              · simp only [World.size_setCell]
                exact Nat.le_trans hsz3.out hg5.size
        · obtain rfl : k = q := by omega
          have hlt' : ¬ (k : Int) < k := by omega
          have hfl2 := hfl.out
          subst hfl2
          obtain ⟨x0, x1, x2, x3, x4⟩ := cells5 hZ.out.x
          have hzo := hZ.out.z
          rw [List.take_of_length_le (by rw [argZ_len, HQ.out]; omega)] at hzo
          obtain ⟨vza, vzc, hvz, _⟩ := hzo.len
          rw [argZ_len, HQ.out] at hvz
          subst hvz
          replace hzo := Lib.hid hzo
          go_wp2_with (refine wpList_store_row rfl 143 (.tmp 4) (.tmp 134) rfl w.heap.size _ rfl rfl 143 _ hZ.out.x info_thing rfl (by simp [Value.oneCell']) ?_)
          have hr9 := setRow_heap _ _ _ #[Value.slice vza k vzc, .bool false, .string ⟨#[]⟩, .int .i64 0, .int .i64 0] _ _ hZ.out.x
          obtain ⟨m0, m1, m2, m3, m4⟩ := cells5 hr9
          refine bodyPost_ret (v := .tuple #[.agg #[.slice vza k vzc, .bool false, .string ⟨#[]⟩, .int .i64 0, .int .i64 0], .int .i64 1]) (by simp [results, Tryz.results85, go_sem, m0, m1, m2, m3, m4]) rfl ?_
          refine ⟨⟨_, rfl, ?_⟩, Below.row hZ.out.b (Nat.le_refl _) _⟩
          refine (hzo.out.tr (fun css h => h.rowBelow (by omega) _) (fun u css h => h.rowBelow (by omega) _)).mono (Nat.le_add_right _ _)
end Go.Proofs.YtfaoamdlknlgpaaGreat

/- subst: thing, whole; an append of pieces. -/
namespace Go.Proofs.YtfaoamdlknlgpaaGreat
open Go.RowKit
set_option linter.unusedVariables false

def ThingPost (r : Thg × Nat) (B : Nat) (e : Ending) (w' : World) : Prop :=
  match r.1 with
  | .paste file f t => e = .returned (.tuple #[.agg #[.slice none 0 0, .bool true, .string file, .int .i64 f, .int .i64 t], .int .i64 r.2])
  | .body l => ∃ v, e = .returned (.tuple #[.agg #[v, .bool false, .string ⟨#[]⟩, .int .i64 0, .int .i64 0], .int .i64 r.2]) ∧ OwnZ l B v w'

theorem sThing_any (fb mb : Nat) (m : Mac) (T : List (Tm × Value)) (pao : Option Addr) (pcap : Nat) (bao : Option Addr) (bcap : Nat) (rv fv sv : Value) (i : Nat) (t : Tm) (w : World) (hM : MH mb m T pao pcap bao bcap w) (hF : FH fb mb rv fv sv w) (hi : m.body[i]? = some t) (RR FF : List (List Tf)) (S : List (List Value)) (hR : LsRd w rv RR) (hFu : LsRd w fv FF) (hS : SiteIn w sv S) (hRk : ArgsOk RR) (hFk : ArgsOk FF) :
    Calls Tryz.prog 85 #[.pointer (some ⟨fb, 0, none⟩), .int .i64 i] w fun e w' => ThingPost (thingZ m RR FF S i t) w.heap.size e w' ∧ Below w.heap.size w w' := by
  unfold thingZ
  cases hp : pasteP t with
  | true =>
    rw [if_pos rfl]
    exact thing_paste fb mb m T pao pcap bao bcap rv fv sv i t w hM hF hi hp
  | false =>
    rw [if_neg (by simp)]
    cases hh : hashedP m i with
    | true =>
      rw [if_pos rfl]
      obtain ⟨u, hu, hB1⟩ : ∃ u, m.body[i + 1]? = some u ∧ ¬ ofP m.fn m.params u < 0 := by
        have h := hh
        unfold hashedP at h
        simp only [Bool.and_eq_true] at h
        cases hu : m.body[i + 1]? with
        | none => rw [hu] at h; simp at h
        | some u =>
          rw [hu] at h
          refine ⟨u, rfl, ?_⟩
          have := h.2
          simp only [decide_eq_true_eq] at this
          omega
      have hof := of_lt hB1
      have hpl := hM.pl
      have hBh : behindP m i = ofP m.fn m.params u := by unfold behindP; rw [hu]
      rw [hBh]
      obtain ⟨kp, hkp⟩ : ∃ kp : Nat, ofP m.fn m.params u = kp := ⟨(ofP m.fn m.params u).toNat, by omega⟩
      have := thing_hash fb mb m T pao pcap bao bcap rv fv sv i t w hM hF hi (RR[kp]?.getD []) _ rfl u hu kp hkp RR rfl (by omega) hRk.1 S hR (hRk.at kp) hS hp hh
      refine this.mono fun e w' h => ?_
      unfold ThingPost argOf
      rw [hkp, Int.toNat_natCast]
      exact h
    | false =>
      rw [if_neg (by simp)]
      by_cases ho : ofP m.fn m.params t < 0
      · rw [if_pos ho]
        exact thing_plain fb mb m T pao pcap bao bcap rv fv sv i t w hM hF hi S hS hp hh ho
      · rw [if_neg ho]
        have hof := of_lt ho
        have hpl := hM.pl
        obtain ⟨kp, hkp⟩ : ∃ kp : Nat, ofP m.fn m.params t = kp := ⟨(ofP m.fn m.params t).toNat, by omega⟩
        have := thing_arg fb mb m T pao pcap bao bcap rv fv sv i t w hM hF hi kp hkp (by omega) RR FF hRk.1 hFk.1 hR hFu (rawP m.body i) rfl _ rfl (by split; exact hRk.at kp; exact hFk.at kp) hp hh
        refine this.mono fun e w' h => ?_
        unfold ThingPost argOf
        rw [hkp, Int.toNat_natCast]
        exact h

/-- cells of pieces -/
theorem OwnZ.one {B : Nat} {w : World} {T : List (Pz × Value)} (h : ∀ p ∈ T, Own w B 66 5 p.2 p.1.css) : ∀ cs ∈ T.map pzV, ∀ u ∈ cs, u.oneCell' = true := by
  intro cs hcs u hu
  obtain ⟨p, hp, rfl⟩ := List.mem_map.1 hcs
  obtain ⟨sa, sc, hv, _⟩ := (h p hp).row
  simp only [pzV, pzC, hv, List.mem_cons, List.not_mem_nil, or_false] at hu
  rcases hu with rfl | rfl | rfl | rfl | rfl | rfl | rfl | rfl | rfl | rfl | rfl <;> rfl

theorem piece_apart {w : World} {B B' sz : Nat} {v v' : Value} {css css' : List (List Value)} (h : Own w B 66 5 v css) (h' : Own w B' 118 sz v' css') : v.ownBlock = none ∨ v.ownBlock ≠ v'.ownBlock := own_apart h h' (by decide)

/-- kept by an append to another row of pieces -/
theorem OwnZ.keptZ {w w' : World} {B : Nat} {u v : Value} {Y X : List Pz} (h : OwnZ Y B u w) (hX : OwnZ X B v w) (hg : w.grownBy w' v.ownBlock) (hne : u.ownBlock = none ∨ u.ownBlock ≠ v.ownBlock) : OwnZ Y B u w' := by
  obtain ⟨T, _, h2, _⟩ := hX
  exact h.tr (fun css h => h.kept hg hne) (fun q css h => h.kept hg (piece_apart h h2))

/-- a new row is another one -/
theorem OwnZ.newNe {w : World} {B : Nat} {u v v' : Value} {Y : List Pz} (h : OwnZ Y B u w) (hne : u.ownBlock = none ∨ u.ownBlock ≠ v.ownBlock) (h4 : v'.ownBlock = v.ownBlock ∨ v'.ownBlock = some w.heap.size) : u.ownBlock = none ∨ u.ownBlock ≠ v'.ownBlock := by
  rcases h4 with h4 | h4
  · rw [h4]; exact hne
  · rw [h4]
    by_cases h0 : u.ownBlock = some w.heap.size
    · obtain ⟨T, _, h2, _⟩ := h
      obtain ⟨c', fz', hx⟩ := h2.size_lt _ h0
      have := lt_of_block hx
      omega
    · exact .inr h0

theorem OwnZ.ge {X : List Pz} {B : Nat} {v : Value} {w : World} (h : OwnZ X B v w) : ∀ k, v.ownBlock = some k → B ≤ k := by
  obtain ⟨T, _, o, _⟩ := h
  exact o.ge

/-- 'append(a, b...)' of pieces, in a plain region -/
theorem wpList_appendZ {w : World} {ops : Array Oper} {rest : List Oper} {o : Oper} {a : Act} {Q : Exit → Act → World → Prop}
    (hgd : o.guard = none) {s x : Operand} (ho : o.op = .call { callee := .builtin .append, args := #[s, x], argTypes := #[113, 113] })
    {R X : List Pz} {B : Nat} {v u : Value} (hR : OwnZ R B v w) (hs : a.eval s = v) (hX : OwnZ X B u w) (hx : a.eval x = u)
    (hn : R.length + X.length ≤ 1000000000) (hbase : B ≤ w.heap.size)
    (h : ∀ v' w', OwnZ (R ++ X) B v' w' → w.grownBy w' v.ownBlock → (v'.ownBlock = v.ownBlock ∨ v'.ownBlock = some w.heap.size) → wpList Tryz.prog ops Q rest (a.put o.dst v') w') : wpList Tryz.prog ops Q (o :: rest) a w := by
  obtain ⟨T, l1, o1, r1⟩ := hR
  obtain ⟨T2, l2, o2, r2⟩ := hX
  obtain ⟨ao, c, rfl, _, _, hrow, hnil⟩ := o2.rown (n := T2.length) (by simp)
  have e1 : R.length = T.length := by rw [← l1, List.length_map]
  have e2 : X.length = T2.length := by rw [← l2, List.length_map]
  refine wpList_appendA E118 hgd ho o1 hs hx (by simp) (fun e => (hnil e).2) hrow o2.2 (OwnZ.one r2) (by rw [List.length_map]; omega) (by decide) hbase ?_
  intro v' w' hown hg h4
  refine h v' w' ⟨T ++ T2, by rw [List.map_append, l1, l2], by rw [List.map_append]; exact hown, ?_⟩ hg h4
  intro p hp
  rcases List.mem_append.1 hp with hp | hp
  · exact (r1 p hp).kept hg (piece_apart (r1 p hp) o1)
  · exact (r2 p hp).kept hg (piece_apart (r2 p hp) o1)
end Go.Proofs.YtfaoamdlknlgpaaGreat

/- subst: glue, where nothing is pasted. -/
namespace Go.Proofs.YtfaoamdlknlgpaaGreat
open Go.RowKit
set_option linter.unusedVariables false

def badV (x : Bad) : List Value := dgV x.code x.file x.f x.t

/-- what glue gives -/
def GluePost (r : List Pz) (ds : List Bad) (va : Value) (B : Nat) (w : World) (e : Ending) (w' : World) : Prop :=
  ∃ v' vd', e = .returned (.tuple #[v', vd']) ∧ OwnZ r B v' w' ∧ Own w' B 68 4 vd' (ds.map badV) ∧ Below B w w' ∧
    ∀ Y u, OwnZ Y B u w → (u.ownBlock = none ∨ u.ownBlock ≠ va.ownBlock) → OwnZ Y B u w' ∧ (u.ownBlock = none ∨ u.ownBlock ≠ v'.ownBlock)

set_option maxHeartbeats 2000000 in
set_option maxRecDepth 100000 in
theorem glue_empty (a b : List Pz) (va vb : Value) (file : ByteArray) (f t : Int) (vd : Value) (ds : List Bad) (B : Nat) (hab : a = [] ∨ b = []) (hla : a.length + b.length ≤ 1000000) (w : World) (hB : B ≤ w.heap.size) (ha : OwnZ a B va w) (hb : OwnZ b B vb w) (hd : Own w B 68 4 vd (ds.map badV)) :
    Calls Tryz.prog 86 #[va, vb, .agg #[.string file, .int .i64 f, .int .i64 t], vd] w fun e w' => GluePost (a ++ b) ds va B w e w' := by
  obtain ⟨aa, ac, rfl, _⟩ := ha.len
  obtain ⟨ba, bc, rfl, _⟩ := hb.len
  obtain ⟨na, hna⟩ : ∃ n, n = a.length := ⟨_, rfl⟩
  obtain ⟨nb, hnb⟩ : ∃ n, n = b.length := ⟨_, rfl⟩
  have hnab : na = 0 ∨ 0 < na ∧ nb = 0 := by
    rcases hab with h | h
    · left; rw [hna, h]; rfl
    · rcases Nat.eq_zero_or_pos na with h0 | h0
      · exact .inl h0
      · exact .inr ⟨h0, by rw [hnb, h]; rfl⟩
  rw [← hna] at ha hla ⊢
  rw [← hnb] at hb hla ⊢
  obtain ⟨W1, hW1⟩ : ∃ W1, W1 = w.alloc (.cells #[.string file, .int .i64 f, .int .i64 t] 31) := ⟨_, rfl⟩
  have b1 : Below w.heap.size w W1 := by rw [hW1]; exact (Below.refl _ w).alloc (Nat.le_refl _) _
  have ha1 := ha.below b1
  have hb1 := hb.below b1
  have hd1 := hd.below b1
  have hl1 : a.length + b.length ≤ 1000000000 := by omega
  have hB1 : B ≤ W1.heap.size := Nat.le_trans hB b1.size
  obtain ⟨dao, dn, dc, rfl⟩ : ∃ x n c, vd = .slice x n c := by obtain ⟨x, c, h, _⟩ := hd.row; exact ⟨x, _, c, h⟩
  have hfin : Hid (∀ (v' : Value) (w' : World), OwnZ (a ++ b) B v' w' → W1.grownBy w' (Value.slice aa na ac).ownBlock → (v'.ownBlock = (Value.slice aa na ac).ownBlock ∨ v'.ownBlock = some W1.heap.size) → GluePost (a ++ b) ds (.slice aa na ac) B w (.returned (.tuple #[v', .slice dao dn dc])) w') := Lib.hid fun v' w' h1 h2 h3 => by
    refine ⟨v', _, rfl, h1, ?_, ?_, ?_⟩
    · obtain ⟨T, _, o1, _⟩ := ha1
      exact hd1.kept h2 (own_apart hd1 o1 (by decide))
    · exact ((Below.refl B w).trans (b1.mono hB)).grown h2 hB1 ha.ge
    · intro Y u hY hne
      exact ⟨(hY.below b1).keptZ ha1 h2 hne, (hY.below b1).newNe hne h3⟩
  replace hW1 := Lib.hid hW1
  replace hna := Lib.hid hna
  replace hnb := Lib.hid hnb
  clear ha hb hd hd1 b1
  go_enter Tryz.func86, Tryz.ntmps86
  rcases hnab with h0 | ⟨h0, h1⟩
  · subst h0
    go_upto_region 1 with fail
    rw [← hW1.out]
    go_upto_region 3 with (at_builtin; go_must (refine wpList_appendZ rfl rfl ha1 rfl hb1 rfl hl1 hB1 ?_); intro v2 w2 h2 h3 h4; replace h2 := Lib.hid h2; replace h3 := Lib.hid h3; replace h4 := Lib.hid h4)
    go_ret2
    exact hfin.out _ _ h2.out h3.out h4.out
  · have h0' : ((na : Int) == 0) = false := beq_false_of_ne (by omega)
    subst h1
    go_upto_region 1 with fail
    rw [← hW1.out]
    go_upto_region 3 with (at_builtin; go_must (refine wpList_appendZ rfl rfl ha1 rfl hb1 rfl hl1 hB1 ?_); intro v2 w2 h2 h3 h4; replace h2 := Lib.hid h2; replace h3 := Lib.hid h3; replace h4 := Lib.hid h4)
    go_ret2
    exact hfin.out _ _ h2.out h3.out h4.out

/-- what holds while two things are glued: ahead of the append of pieces -/
structure GQ (a b : List Pz) (va vb vd : Value) (dss : List (List Value)) (file : ByteArray) (f t : Int) (sb B : Nat) (w z : World) : Prop where
  a : OwnZ a B va z
  b : OwnZ b B vb z
  d : Own z B 68 4 vd dss
  s : z.heap[sb]? = some (.cells #[.string file, .int .i64 f, .int .i64 t] 31 (0, 0))
  low : Below B w z
  oth : ∀ Y u, OwnZ Y B u w → (u.ownBlock = none ∨ u.ownBlock ≠ va.ownBlock) → OwnZ Y B u z
  sz : w.heap.size ≤ z.heap.size
  hB : B ≤ w.heap.size

/-- behind it -/
structure GA (r : List Pz) (va v' vd : Value) (dss : List (List Value)) (file : ByteArray) (f t : Int) (sb B : Nat) (w z : World) : Prop where
  r : OwnZ r B v' z
  d : Own z B 68 4 vd dss
  s : z.heap[sb]? = some (.cells #[.string file, .int .i64 f, .int .i64 t] 31 (0, 0))
  low : Below B w z
  oth : ∀ Y u, OwnZ Y B u w → (u.ownBlock = none ∨ u.ownBlock ≠ va.ownBlock) → OwnZ Y B u z ∧ (u.ownBlock = none ∨ u.ownBlock ≠ v'.ownBlock)
  sz : w.heap.size ≤ z.heap.size
  hB : B ≤ w.heap.size

variable {a b r : List Pz} {va vb vd v' : Value} {dss : List (List Value)} {file : ByteArray} {f t : Int} {sb B : Nat} {w z : World}

theorem GQ.drew (h : GQ a b va vb vd dss file f t sb B w z) : GQ a b va vb vd dss file f t sb B w z.drew :=
  ⟨h.a, h.b, h.d, h.s, h.low.drew, h.oth, h.sz, h.hB⟩

theorem OwnZ.alloc {X : List Pz} (h : OwnZ X B v' z) (o : Obj) : OwnZ X B v' (z.alloc o) := h.tr (fun _ h => h.alloc o) (fun _ _ h => h.alloc o)

theorem GQ.alloc (h : GQ a b va vb vd dss file f t sb B w z) (o : Obj) : GQ a b va vb vd dss file f t sb B w (z.alloc o) :=
  ⟨h.a.alloc o, h.b.alloc o, h.d.alloc o, (Lib.alloc_old _ _ _ (lt_of_block h.s)).trans h.s, h.low.alloc (Nat.le_trans h.hB h.sz) o, fun Y u h1 h2 => (h.oth Y u h1 h2).alloc o, by rw [World.size_alloc]; exact Nat.le_succ_of_le h.sz, h.hB⟩

theorem GA.alloc (h : GA r va v' vd dss file f t sb B w z) (o : Obj) : GA r va v' vd dss file f t sb B w (z.alloc o) :=
  ⟨h.r.alloc o, h.d.alloc o, (Lib.alloc_old _ _ _ (lt_of_block h.s)).trans h.s, h.low.alloc (Nat.le_trans h.hB h.sz) o, fun Y u h1 h2 => ⟨(h.oth Y u h1 h2).1.alloc o, (h.oth Y u h1 h2).2⟩, by rw [World.size_alloc]; exact Nat.le_succ_of_le h.sz, h.hB⟩

theorem GQ.cells (h : GQ a b va vb vd dss file f t sb B w z) : z.cell? ⟨sb, 0, none⟩ = some (.string file) ∧ z.cell? ⟨sb, 1, none⟩ = some (.int .i64 f) ∧ z.cell? ⟨sb, 2, none⟩ = some (.int .i64 t) := by
  refine ⟨?_, ?_, ?_⟩ <;> rw [Lib.cell_of_heap h.s] <;> rfl
theorem GA.cells (h : GA r va v' vd dss file f t sb B w z) : z.cell? ⟨sb, 0, none⟩ = some (.string file) ∧ z.cell? ⟨sb, 1, none⟩ = some (.int .i64 f) ∧ z.cell? ⟨sb, 2, none⟩ = some (.int .i64 t) := by
  refine ⟨?_, ?_, ?_⟩ <;> rw [Lib.cell_of_heap h.s] <;> rfl

theorem step_glueA {P : Program} (hP : P = Tryz.prog) {ops : Array Oper} {o : Oper} {ac : Act} {K : Act → World → Prop} {Q : Exit → Act → World → Prop} {Z : Prop}
    (hgd : o.guard = none) {s x : Operand} (ho : o.op = .call { callee := .builtin .append, args := #[s, x], argTypes := #[113, 113] })
    (hG : GQ a b va vb vd dss file f t sb B w z) (hs : ac.eval s = va) (hx : ac.eval x = vb) (hn : a.length + b.length ≤ 1000000)
    (h : ∀ v' w', GA (a ++ b) va v' vd dss file f t sb B w w' → (∀ (g : Nat) (c : Array Value) (T : TypeId) (fz : Nat × Nat), z.heap[g]? = some (Obj.cells c T fz) → 118 ≠ T → w'.heap[g]? = some (Obj.cells c T fz)) → K (ac.put o.dst v') w') :
    if Region.wanted o (yielded ops ac.tmps) = true then Oper.wp P o ac z K Q else Z := by
  subst hP
  obtain ⟨T, l1, o1, r1⟩ := hG.a
  obtain ⟨T2, l2, o2, r2⟩ := hG.b
  obtain ⟨ao, c, rfl, _, _, hrow, hnil⟩ := o2.rown (n := T2.length) (by simp)
  have e1 : a.length = T.length := by rw [← l1, List.length_map]
  have e2 : b.length = T2.length := by rw [← l2, List.length_map]
  refine step_appendA E118 hgd ho o1 hs hx (by simp) (fun e => (hnil e).2) hrow o2.2 (OwnZ.one r2) (by rw [List.length_map]; omega) (by decide) (Nat.le_trans hG.hB hG.sz) ?_
  intro v' w' hown hg h4
  refine h v' w' ⟨⟨T ++ T2, by rw [List.map_append, l1, l2], by rw [List.map_append]; exact hown, ?_⟩, hG.d.kept hg (own_apart hG.d o1 (by decide)), grown_block hg hG.s (own_ne o1 hG.s (by decide)), hG.low.grown hg (Nat.le_trans hG.hB hG.sz) hG.a.ge, fun Y u h1 h2 => ⟨(hG.oth Y u h1 h2).keptZ hG.a hg h2, (hG.oth Y u h1 h2).newNe h2 h4⟩, Nat.le_trans hG.sz hg.size, hG.hB⟩ (fun g c T' fz hc hT => grown_block hg hc (own_ne o1 hc hT))
  intro p hp
  rcases List.mem_append.1 hp with hp | hp
  · exact (r1 p hp).kept hg (piece_apart (r1 p hp) o1)
  · exact (r2 p hp).kept hg (piece_apart (r2 p hp) o1)

theorem own_dapart {z z' : World} {B B' sz : Nat} {v u : Value} {css : List (List Value)} {X : List Pz} (h : OwnZ X B v z) (hd : Own z B' 68 sz u css) (hg : z.grownBy z' u.ownBlock) : OwnZ X B v z' :=
  h.tr (fun css h => h.kept hg (own_apart h hd (by decide))) (fun q css h => h.kept hg (own_apart h hd (by decide)))

theorem step_glueD {P : Program} (hP : P = Tryz.prog) {ops : Array Oper} {o : Oper} {ac : Act} {K : Act → World → Prop} {Q : Exit → Act → World → Prop} {Z : Prop}
    (hgd : o.guard = none) {s x : Operand} (ho : o.op = .call { callee := .builtin .append, args := #[s, x], argTypes := #[60, 60] })
    (hG : GQ a b va vb vd dss file f t sb B w z) (hs : ac.eval s = vd) {g c : Nat} {news : List Value} (hx : ac.eval x = .slice (some ⟨g, 0, none⟩) 1 c) (hl : z.heap[g]? = some (.cells news.toArray 68 (0, 0))) (hn4 : news.length = 4) (hn1 : ∀ u ∈ news, u.oneCell' = true) (hn : dss.length ≤ 1000000)
    (h : ∀ v' w', GQ a b va vb v' (dss ++ [news]) file f t sb B w w' → K (ac.put o.dst v') w') :
    if Region.wanted o (yielded ops ac.tmps) = true then Oper.wp P o ac z K Q else Z := by
  subst hP
  refine step_append1 E68 hgd ho hG.d hs hx hl hn4 hn1 (by omega) (by decide) (Nat.le_trans hG.hB hG.sz) ?_
  intro v' w' hown hg
  exact h v' w' ⟨own_dapart hG.a hG.d hg, own_dapart hG.b hG.d hg, hown, grown_block hg hG.s (own_ne hG.d hG.s (by decide)), hG.low.grown hg (Nat.le_trans hG.hB hG.sz) hG.d.ge, fun Y u h1 h2 => own_dapart (hG.oth Y u h1 h2) hG.d hg, Nat.le_trans hG.sz hg.size, hG.hB⟩

theorem step_glueE {P : Program} (hP : P = Tryz.prog) {ops : Array Oper} {o : Oper} {ac : Act} {K : Act → World → Prop} {Q : Exit → Act → World → Prop} {Z : Prop}
    (hgd : o.guard = none) {s x : Operand} (ho : o.op = .call { callee := .builtin .append, args := #[s, x], argTypes := #[60, 60] })
    (hG : GA r va v' vd dss file f t sb B w z) (hs : ac.eval s = vd) {g c : Nat} {news : List Value} (hx : ac.eval x = .slice (some ⟨g, 0, none⟩) 1 c) (hl : z.heap[g]? = some (.cells news.toArray 68 (0, 0))) (hn4 : news.length = 4) (hn1 : ∀ u ∈ news, u.oneCell' = true) (hn : dss.length ≤ 1000000)
    (h : ∀ vd' w', GA r va v' vd' (dss ++ [news]) file f t sb B w w' → K (ac.put o.dst vd') w') :
    if Region.wanted o (yielded ops ac.tmps) = true then Oper.wp P o ac z K Q else Z := by
  subst hP
  refine step_append1 E68 hgd ho hG.d hs hx hl hn4 hn1 (by omega) (by decide) (Nat.le_trans hG.hB hG.sz) ?_
  intro vd' w' hown hg
  exact h vd' w' ⟨own_dapart hG.r hG.d hg, hown, grown_block hg hG.s (own_ne hG.d hG.s (by decide)), hG.low.grown hg (Nat.le_trans hG.hB hG.sz) hG.d.ge, fun Y u h1 h2 => ⟨own_dapart (hG.oth Y u h1 h2).1 hG.d hg, (hG.oth Y u h1 h2).2⟩, Nat.le_trans hG.sz hg.size, hG.hB⟩

end Go.Proofs.YtfaoamdlknlgpaaGreat
