/- Texts of this seat's proofs, laid into one file. -/
import Derived.Test.YtllbbacnakoomaaGreatDoorS22
import Derived.Test.YtllbbacnakoomaaGreatDoorS5
import Derived.Test.YtllbbacnakoomaaGreatDoorS24
import Derived.Test.YtllbbacnakoomaaGreatDoorD3
import Derived.Test.YtllbbacnakoomaaGreatDoorD12
import Derived.KernelRfl
set_option maxRecDepth 100000
set_option maxHeartbeats 16000000
namespace Go.Proofs.YtllbbacnakoomaaGreatDoor
open Go.RowKit
set_option linter.unusedVariables false
theorem toks21_any (s : ByteArray) (hs : s.size ≤ 1900) (w : World) :
 Calls Tryz.prog 32 #[.string s] w fun e w' => ∃ vo, e = .returned vo ∧ Own w' w.heap.size 94 7 vo ((toksU s.data.toList).map rtC) ∧ Below w.heap.size w w' := by
 obtain ⟨T, hT⟩ : ∃ T, T = flatL s.data.toList := ⟨_, rfl⟩
 obtain ⟨LN, hLN⟩ : ∃ LN, LN = (linesL s.data.toList).1 := ⟨_, rfl⟩
 have hTL : T = LN.flatMap fun l => l.toks.map (Tk.tm (bs [102])) := by rw [hT, hLN]; rfl
 have hTt : ∀ t ∈ T, t.text.size ≤ 5000 := fun t ht => Nat.le_trans (flatL_txt s.data.toList t (hT ▸ ht)) (by rw [sz_list]; omega)
 have hTn : T.length ≤ 5000 := by rw [hT]; exact Nat.le_trans (flatL_len _) (by rw [sz_list]; omega)
 obtain ⟨n, hn⟩ : ∃ n, n = LN.length := ⟨_, rfl⟩
 have hn2 : n ≤ 2000 := by rw [hn, hLN]; exact Nat.le_trans (linesL_lens _).2.1 (by rw [sz_list]; omega)
 have HLn := fun w => rLines_any (⟨#[102]⟩ : ByteArray) s (by omega) w
 simp only [← hLN] at HLn
 have hU : toksU s.data.toList = allL T := by rw [hT]; rfl
 rw [hU]
 clear hU hT hLN
 replace hTt := Hd hTt
 replace hTL := Hd hTL
 replace hn := Hd hn.symm
 go_enter Tryz.func32, Tryz.ntmps32
 go_wp2_with fail
 refine (HLn _).mono ?_
 rintro e w1 ⟨vo, vd, lcs, rfl, ho, hls, hd, hb1⟩
 obtain ⟨ao, cap, rfl, hcap, hnil, hrow, _⟩ := ho.rown (n := n) (by rw [hls.len, hn.out])
 obtain ⟨dao, dcap, rfl, _, _, _, _⟩ := hd.rown (n := _) rfl
 clear ho hd HLn
 replace hls := Hd hls
 replace hrow := Hd hrow
 replace hb1 := Hd hb1
 go_wp2_with fail
 go_loopg [5,6] n (fun k v5 v6 wx => ∃ i : Nat, k = n - i ∧ i ≤ n ∧ v6 = .int .i64 i ∧ Hid (Own wx w1.heap.size 160 8 v5 (((LN.take i).flatMap (fun l => l.toks.map (Tk.tm (bs [102])))).map tmR)) ∧ Hid (Below w1.heap.size w1 wx))
 case atStart => exact ⟨0, rfl, Nat.zero_le _, rfl, Hd (by simp; exact Own.nil _ _ _ _), Hd (Below.refl _ _)⟩
 case round =>
  obtain ⟨i, hk, hi, rfl, hoT, hbT⟩ := hrel
  replace hk := hk.symm
  subst hk
  have hsB := hbT.out.size
  by_cases hin : i < n
  ·have hin' : (i : Int) < n := by omega
   have g1 : IntKind.i64.wrap ((i : Int) + 1) = (i : Int) + 1 := IntWalk.i64_in _ (by omega)
   have f4 : Hid (n - (i + 1) < n - i) := Hd (by omega)
   obtain ⟨l, hl⟩ : ∃ l, LN[i]? = some l := ⟨LN[i]'(by rw [hn.out]; exact hin), by simp⟩
   obtain ⟨c, hc, aL, cL, rfl, hcL, hrL⟩ := hls.out.nth i l hl
   obtain ⟨b, o, rfl, hat⟩ := (hrow.out.below hbT.out) (by intro h; rw [h] at hc; simp at hc)
   have c0 : wr.cell? ⟨b, o + i * 4, none⟩ = some (.slice aL l.toks.length cL) := hat.cell hc (j := 0) rfl
   have hr1 : Row w1 8 aL ((l.toks.map (Tk.tm (bs [102]))).map tmR) := fun hne => by
    obtain ⟨b', o', x, fz, rfl, _, _, h⟩ := hrL (by intro h; rw [h] at hne; simp at hne)
    exact ⟨b', o', rfl, by rw [tm_tk]; exact h⟩
   have hr2 := Hd (hr1.below hbT.out)
   have hlen : (((LN.take i).flatMap (fun l => l.toks.map (Tk.tm (bs [102])))).map tmR).length + l.toks.length ≤ 1000000000 := by
    have h1 := flat_le LN (fun l => l.toks.map (Tk.tm (bs [102]))) (i + 1)
    rw [flat_take hl, ← hTL.out, List.length_append, List.length_map] at h1
    rw [List.length_map]
    omega
   replace hlen := Hd hlen
   have hcL2 := Hd hcL.2
   replace hl := Hd hl
   clear hr1 hrL hat hc hcL
   go_wp2_with (at_builtin; first
    | (refine wpList_appendN E160 rfl rfl hoT.out rfl rfl (css2 := (l.toks.map (Tk.tm (bs [102]))).map tmR) (by simp) hcL2.out hr2.out (tm8 _) (tm1 _) hlen.out (by decide) hsB ?_; intro v0 wF hown hg; have hbF := bapp hbT.out hoT.out hg hsB))
   go_roundg (n - (i + 1))
   case measure => exact f4.out
   case rel => exact ⟨i + 1, rfl, by omega, by simp, Hd (by rw [flat_take hl.out, List.map_append]; exact hown), Hd hbF⟩
  ·obtain rfl : i = n := by omega
   have hin' : ¬ (i : Int) < (i : Int) := by omega
   have hoT2 := hoT.out
   rw [List.take_of_length_le (by rw [hn.out]; exact Nat.le_refl _), ← hTL.out] at hoT2
   obtain ⟨a5, c5, rfl, _, _, hr5, _⟩ := hoT2.rown (n := T.length) (by rw [List.length_map])
   have HA := Hd (rAll_any T a5 c5 T.length rfl (by omega) hTt.out wr hr5)
   clear hoT hoT2 hr5
   go_wp2_with fail
   refine HA.out.mono ?_
   rintro e w3 ⟨vo, vd, rfl, ho3, hb3⟩
   clear HA
   go_wp2_with fail
   go_ret
   exact ⟨_, rfl, ho3.mono (by have := hb1.out.size; omega), hb1.out.trans ((hbT.out.mono hb1.out.size).trans (hb3.mono (by have := hb1.out.size; omega)))⟩
end Go.Proofs.YtllbbacnakoomaaGreatDoor
namespace Go.Proofs.YtllbbacnakoomaaGreatDoor
open Go.RowKit
set_option linter.unusedVariables false
theorem made21_any (L : List Ct) (ao : Option Addr) (cap n : Nat) (hLn : L.length = n) (hn : n ≤ 10000) (w : World) (hrow : Row w 7 ao (L.map rtC)) :
 Calls Tryz.prog 35 #[.slice ao n cap] w fun e w' => ∃ vo, e = .returned vo ∧ Own w' w.heap.size 95 7 vo (L.map rtC) ∧ Below w.heap.size w w' := by
 replace hLn := Hd hLn
 replace hrow := Hd hrow
 have hb0 : Hid (Below w.heap.size w w) := Hd (Below.refl _ _)
 go_enter Tryz.func35, Tryz.ntmps35
 go_wp2_with fail
 go_loopg [3,4,5] n (fun k v3 v4 v5 wx => ∃ i : Nat, k = n - i ∧ i ≤ n ∧ v4 = .int .i64 i ∧ Hid (Own wx w.heap.size 95 7 v3 ((L.take i).map rtC)) ∧ Hid (Below w.heap.size w wx))
 case atStart => exact ⟨0, rfl, Nat.zero_le _, rfl, Hd (Own.nil _ _ _ _), hb0⟩
 case round =>
  clear hb0
  obtain ⟨i, hk, hi, rfl, ho, hb⟩ := hrel
  replace hk := hk.symm
  subst hk
  have hsB := hb.out.size
  by_cases hin : i < n
  ·have hin' : (i : Int) < n := by omega
   have g1 : IntKind.i64.wrap ((i : Int) + 1) = (i : Int) + 1 := IntWalk.i64_in _ (by omega)
   have f4 : Hid (n - (i + 1) < n - i) := Hd (by omega)
   obtain ⟨x, hx⟩ : ∃ x, L[i]? = some x := ⟨L[i]'(by rw [hLn.out]; exact hin), by simp⟩
   have hc : (L.map rtC)[i]? = some (rtC x) := by rw [List.getElem?_map, hx]; rfl
   obtain ⟨b, o, rfl, hat⟩ := (hrow.out.below hb.out) (by intro h; rw [h] at hc; simp at hc)
   have c0 : wr.cell? ⟨b, o + i * 7, none⟩ = some (.int .i64 x.kind) := hat.cell hc (j := 0) rfl
   have c1 : wr.cell? ⟨b, o + i * 7 + 1, none⟩ = some (.string x.text) := hat.cell hc (j := 1) rfl
   have c2 : wr.cell? ⟨b, o + i * 7 + 2, none⟩ = some (.string x.file) := hat.cell hc (j := 2) rfl
   have c3 : wr.cell? ⟨b, o + i * 7 + 3, none⟩ = some (.int .i64 x.f) := hat.cell hc (j := 3) rfl
   have c4 : wr.cell? ⟨b, o + i * 7 + 4, none⟩ = some (.int .i64 x.t) := hat.cell hc (j := 4) rfl
   have c5 : wr.cell? ⟨b, o + i * 7 + 5, none⟩ = some (.int .i64 x.fro) := hat.cell hc (j := 5) rfl
   have c6 : wr.cell? ⟨b, o + i * 7 + 6, none⟩ = some (.int .i64 x.cnt) := hat.cell hc (j := 6) rfl
   obtain ⟨W, hW⟩ : ∃ W, W = wr.alloc (rtO x) := ⟨_, rfl⟩
   have hbW : Below wr.heap.size wr W := by rw [hW]; exact (Below.refl _ _).alloc (Nat.le_refl _) _
   have hT : W.heap[wr.heap.size]? = some (rtO x) := by rw [hW]; exact heap_alloc_new _ _
   obtain ⟨x0, x1, x2, x3, x4, x5, x6, _⟩ := rt_box hT
   have hbY := hb.out.trans (hbW.mono hsB)
   have hoY := ho.out.below hbW
   have hsY := hbY.size
   have hlen : ((L.take i).map rtC).length + 1 ≤ 1000000000 := by rw [List.length_map, List.length_take]; omega
   replace hlen := Hd hlen
   replace hx := Hd hx
   replace hbW := Hd hbW
   clear hT hat hc
   go_upto_region 6 with fail
   rw [← hW]
   replace hW := Hd hW
   go_wp2_with (at_builtin; first
    | (refine wpList_append1 Em95 rfl rfl hoY rfl rfl (news := rtC x) (by simp) rfl (by intro u hu; simp at hu; rcases hu with rfl | rfl | rfl | rfl | rfl | rfl | rfl <;> rfl) (by have := hlen.out; omega) (by decide) hsY ?_; intro v0 wF hown hg; have hbF := bapp hbY hoY hg hsY))
   go_roundg (n - (i + 1))
   case measure => exact f4.out
   case rel => exact ⟨i + 1, rfl, by omega, by simp, Hd (by rw [List.take_add_one, hx.out, List.map_append]; exact hown), Hd hbF⟩
  ·obtain rfl : i = n := by omega
   have hin' : ¬ (i : Int) < (i : Int) := by omega
   have ho2 := ho.out
   rw [List.take_of_length_le (by rw [hLn.out]; exact Nat.le_refl _)] at ho2
   go_wp2_with fail
   go_ret
   exact ⟨_, rfl, ho2, hb.out⟩
end Go.Proofs.YtllbbacnakoomaaGreatDoor
namespace Go.Proofs.YtllbbacnakoomaaGreatDoor
open Go.RowKit
set_option linter.unusedVariables false
theorem written21_any (s : ByteArray) (hs : s.size ≤ 1900) (names : List ByteArray) (n : Nat) (hl : names.length = n) (hn : n ≤ 100) (hz : ∀ x ∈ names, x.size ≠ 0) (ao : Option Addr) (cap : Nat) (w : World) (hsp : SpTab w) (hrow : Row w 1 ao (names.map fun x => [.string x])) (o : List UInt8) (hw : writS s.data.toList names = some o) (ho : o.length ≤ 1000000) :
 Calls Tryz.prog 31 #[.string s, .slice ao n cap] w fun e w' => e = .returned (.string ⟨o.toArray⟩) ∧ Below w.heap.size w w' := by
 obtain ⟨L, hL⟩ : ∃ L, L = toksU s.data.toList := ⟨_, rfl⟩
 obtain ⟨hL1, hL2⟩ := toksU_facts hs
 unfold writS stmtOf outOf at hw
 have HT := fun w => toks21_any s hs w
 rw [← hL] at hL1 hL2 hw
 simp only [← hL] at HT
 cases hr : (recN L 1000).stmt 0 ⟨0, envOf names, false⟩ with
 | none => rw [hr] at hw; cases hw
 | some r =>
 obtain ⟨t, s'⟩ := r
 rw [hr] at hw
 replace hw : (if s'.bad = true ∨ s'.at_ ≠ (L.length : Int) - 1 then [] else T.out t) = o := by simpa using hw
 replace hw := Hd hw
 replace hr := Hd hr
 replace hL2 := Hd hL2
 replace hl := Hd hl
 replace hz := Hd hz
 have hrow := Hd hrow
 have hsp := Hd hsp
 have HT := Hd HT
 clear hL
 go_enter Tryz.func31, Tryz.ntmps31
 go_wp2_with fail
 refine (new_any _).mono ?_
 rintro e w1 ⟨⟨p, rfl, he⟩, hb1⟩
 replace he := Hd he
 replace hb1 := Hd hb1
 go_wp2_with fail
 go_loopg [5,6] n (fun k v5 v6 wx => ∃ (i : Nat) (q : Option Addr), k = n - i ∧ i ≤ n ∧ v6 = .int .i64 i ∧ v5 = .pointer q ∧ Hid (EvAt wx q (envOf (names.take i))) ∧ Hid (Below w.heap.size w wx))
 case atStart => exact ⟨0, p, rfl, Nat.zero_le _, rfl, rfl, he, hb1⟩
 case round =>
  clear he hb1
  obtain ⟨i, q, hk, hi, rfl, rfl, he, hb⟩ := hrel
  replace hk := hk.symm
  subst hk
  obtain ⟨qb, _, _, _, _, _, rfl, _⟩ := he.out.cells
  by_cases hin : i < n
  ·have hin' : (i : Int) < n := by omega
   have g1 : IntKind.i64.wrap ((i : Int) + 1) = (i : Int) + 1 := IntWalk.i64_in _ (by omega)
   have f4 : Hid (n - (i + 1) < n - i) := Hd (by omega)
   obtain ⟨x, hx⟩ : ∃ x, names[i]? = some x := ⟨names[i]'(by rw [hl.out]; exact hin), by simp⟩
   have hc : (names.map fun x => [Value.string x])[i]? = some [.string x] := by rw [List.getElem?_map, hx]; rfl
   obtain ⟨b, o', rfl, hat⟩ := (hrow.out.below hb.out) (by intro h; rw [h] at hc; simp at hc)
   have c0 : wr.cell? ⟨b, o' + i, none⟩ = some (.string x) := by have := hat.cell hc (j := 0) rfl; simpa using this
   have HD := Hd (declare_any he.out x (hz.out x (List.mem_of_getElem? hx)) true)
   replace hx := Hd hx
   clear hat hc
   go_wp2_with fail
   refine HD.out.mono ?_
   rintro e w2 ⟨⟨q2, rfl, he2⟩, hb2⟩
   replace he2 := Hd he2
   have hb3 := Hd (hb.out.trans (hb2.mono hb.out.size))
   clear HD hb2
   go_wp2_with fail
   go_roundg (n - (i + 1))
   case measure => exact f4.out
   case rel => exact ⟨i + 1, q2, rfl, by omega, by simp, rfl, Hd (by rw [List.take_add_one, hx.out]; simp only [Option.toList_some]; rw [envOf_snoc]; exact he2.out), hb3⟩
  ·obtain rfl : i = n := by omega
   have hin' : ¬ (i : Int) < (i : Int) := by omega
   have he1 := he.out
   rw [List.take_of_length_le (by rw [hl.out]; exact Nat.le_refl _)] at he1
   replace he1 := Hd he1
   clear he
   go_wp2_with fail
   refine (HT.out _).mono ?_
   rintro e w2 ⟨vo, rfl, ho2, hb2⟩
   obtain ⟨a2, c2, rfl, hc2, _, hr2, _⟩ := ho2.rown (n := L.length) (by rw [List.length_map])
   have he2 := Hd (he1.out.under hb2)
   have hbx := Hd (hb.out.trans (hb2.mono hb.out.size))
   have HM := Hd (made21_any L a2 c2 L.length rfl (by omega) w2 hr2)
   clear HT he1 hb hb2 ho2 hr2
   go_wp2_with fail
   refine HM.out.mono ?_
   rintro e w3 ⟨vm, rfl, ho3, hb3⟩
   have hbz := hbx.out.trans (hb3.mono hbx.out.size)
   obtain ⟨ta, tc, rfl, hta⟩ := tkAt_own ho3 hL1 hL2.out (hsp.out.below hbz)
   have HE := Hd (dStmt_any (nest := 0) (i := 0) hta (he2.out.under hb3) (by omega) (by omega) (by omega) hr.out)
   replace hbz := Hd hbz
   clear HM he2 hbx hb3 ho3 hta
   go_wp2_with fail
   refine HE.out.mono ?_
   rintro e w4 ⟨m, ma, mc, q4, rfl, hm, hnd, _, _, hb4⟩
   clear HE
   have hv : ndV m ma mc = .agg #[.string m.kind, .string m.text, .int .i64 m.from_, .int .i64 m.to_, .slice ma m.kids.length mc] := rfl
   rw [hv]
   clear hv
   cases hbad : s'.bad with
   | true =>
     have ho0 : o = [] := by rw [← hw.out, if_pos (.inl hbad)]
     subst ho0
     have hb5 := Hd (hbz.out.trans (hb4.mono hbz.out.size))
     replace hbad := Hd hbad
     clear hm hnd hw
     go_upto_region 8 with fail
     go_wp2_with fail
     go_ret
     exact ⟨rfl, (hb5.out.alloc hb5.out.size _).alloc (by rw [World.size_alloc]; have := hb5.out.size; omega) _⟩
   | false =>
     obtain rfl : m = t := by rw [hm, hbad]; rfl
     clear hm
     have hb5 := Hd (hbz.out.trans (hb4.mono hbz.out.size))
     by_cases hat : s'.at_ = (L.length : Int) - 1
     ·have ho0 : T.out m = o := by rw [← hw.out, if_neg (by rw [hbad]; simp [hat])]
      have HWr : Hid (∀ y, Below w4.heap.size w4 y → Calls Tryz.prog 28 #[.agg #[.string m.kind, .string m.text, .int .i64 m.from_, .int .i64 m.to_, .slice ma m.kids.length mc]] y fun e w' => e = .returned (.string ⟨o.toArray⟩) ∧ Below y.heap.size y w') := Hd (fun y h => by rw [← ho0]; exact tWrite_any m (ndC m ma mc) _ y (hnd.below h) (by rw [ho0]; omega))
      have g7 : IntKind.i64.wrap ((L.length : Int) - 1) = (L.length : Int) - 1 := IntWalk.i64_in _ (by omega)
      have hat2 : (s'.at_ == (L.length : Int) - 1) = true := by rw [hat]; simp
      replace hbad := Hd hbad
      clear hnd hw
      go_upto_region 8 with fail
      go_wp2_with fail
      refine (HWr.out _ (((Below.refl _ w4).alloc (Nat.le_refl _) _).alloc (by simp) _)).mono ?_
      rintro e w5 ⟨rfl, hb6⟩
      go_wp2_with fail
      go_ret
      refine ⟨rfl, Below.trans ((hb5.out.alloc hb5.out.size _).alloc (by rw [World.size_alloc]; have := hb5.out.size; omega) _) (hb6.mono ?_)⟩
      rw [World.size_alloc, World.size_alloc]
      have := hb5.out.size
      omega
     ·have ho0 : o = [] := by rw [← hw.out, if_pos (.inr hat)]
      subst ho0
      have g7 : IntKind.i64.wrap ((L.length : Int) - 1) = (L.length : Int) - 1 := IntWalk.i64_in _ (by omega)
      have hat2 : (s'.at_ == (L.length : Int) - 1) = false := by simpa using hat
      replace hbad := Hd hbad
      clear hnd hw
      go_upto_region 8 with fail
      go_wp2_with fail
      go_ret
      exact ⟨rfl, (hb5.out.alloc hb5.out.size _).alloc (by rw [World.size_alloc]; have := hb5.out.size; omega) _⟩
end Go.Proofs.YtllbbacnakoomaaGreatDoor
namespace Go.Proofs.YtllbbacnakoomaaGreatDoor
open Go.RowKit
set_option linter.unusedVariables false
theorem wr21 {w : World} (hsp : SpTab w) (s : ByteArray) (hs : s.size ≤ 1900) (o : List UInt8) (hw : writS s.data.toList [] = some o) (ho : o.length ≤ 1000000) : ∀ y, Below w.heap.size w y → Calls Tryz.prog 31 #[.string s, .slice none 0 0] y fun e w' => e = .returned (.string ⟨o.toArray⟩) ∧ Below y.heap.size y w' :=
 fun y hy => written21_any s hs [] 0 rfl (by omega) (by simp) none 0 y (hsp.below hy) (Row.nil _ _ _) o hw ho
theorem wr21n {w : World} (hsp : SpTab w) (s : ByteArray) (hs : s.size ≤ 1900) (x : ByteArray) (hx : x.size ≠ 0) (o : List UInt8) (hw : writS s.data.toList [x] = some o) (ho : o.length ≤ 1000000) : ∀ y, Below w.heap.size w y → Calls Tryz.prog 31 #[.string s, .slice (some ⟨y.heap.size, 0, none⟩) 1 1] (y.alloc (.cells #[.string x] 9)) fun e w' => e = .returned (.string ⟨o.toArray⟩) ∧ Below y.heap.size y w' :=
 fun y hy => (written21_any s hs [x] 1 rfl (by omega) (by simpa using hx) (some ⟨y.heap.size, 0, none⟩) 1 (y.alloc (.cells #[.string x] 9)) (hsp.below (hy.alloc hy.size _)) (fun _ => ⟨_, _, rfl, fun i cs hi j u hj => by
  have hn := Lib.cell_of_heap (heap_alloc_new y (.cells #[.string x] 9))
  cases i with
  | succ i => simp at hi
  | zero =>
    simp at hi
    subst hi
    cases j with
    | succ j => simp at hj
    | zero => simp at hj; subst hj; rw [Lib.cell_of_heap (heap_alloc_new y _)]; rfl⟩) o hw ho).mono fun e w' h => ⟨h.1, ((Below.refl _ y).alloc (Nat.le_refl _) _).trans (h.2.mono (by simp))⟩
theorem as1 : writS ([105,102,32,40,97,41,32,98,59,32,101,108,115,101,32,59] : List UInt8) [] = some ([40,105,102,32,40,110,97,109,101,32,97,41,32,40,101,120,112,114,32,40,110,97,109,101,32,98,41,41,32,40,101,109,112,116,121,41,41] : List UInt8) := writB_of (by kernel_rfl)
theorem as2 : writS ([123,32,84,32,42,32,120,59,32,125] : List UInt8) [(⟨#[84]⟩ : ByteArray)] = some ([40,98,108,111,99,107,32,40,100,101,99,108,97,114,101,32,40,115,112,101,99,115,32,40,116,121,112,101,110,97,109,101,32,84,41,41,32,40,112,111,105,110,116,101,114,32,40,110,97,109,101,32,120,41,41,41,41] : List UInt8) := writB_of (by kernel_rfl)
theorem as3 : writS ([123,32,84,32,42,32,120,59,32,125] : List UInt8) [] = some ([40,98,108,111,99,107,32,40,101,120,112,114,32,40,98,105,110,97,114,121,32,42,32,40,110,97,109,101,32,84,41,32,40,110,97,109,101,32,120,41,41,41,41] : List UInt8) := writB_of (by kernel_rfl)
theorem as4 : writS ([102,111,114,32,40,59,59,41,32,98,114,101,97,107,59] : List UInt8) [] = some ([40,102,111,114,32,40,110,111,110,101,41,32,40,110,111,110,101,41,32,40,110,111,110,101,41,32,40,98,114,101,97,107,41,41] : List UInt8) := writB_of (by kernel_rfl)
theorem as5 : writS ([120] : List UInt8) [] = some [] := writB_of (by kernel_rfl)
theorem awake21_any (w : World) (hsp : SpTab w) : Calls Tryz.prog 30 #[] w fun e w' => e = .returned (.bool true) ∧ Below w.heap.size w w' := by
 have H1 := Hd (wr21 hsp (⟨#[105,102,32,40,97,41,32,98,59,32,101,108,115,101,32,59]⟩ : ByteArray) (by decide) _ as1 (by decide))
 have H2 := Hd (wr21n hsp (⟨#[123,32,84,32,42,32,120,59,32,125]⟩ : ByteArray) (by decide) (⟨#[84]⟩ : ByteArray) (by decide) _ as2 (by decide))
 have H3 := Hd (wr21 hsp (⟨#[123,32,84,32,42,32,120,59,32,125]⟩ : ByteArray) (by decide) _ as3 (by decide))
 have H4 := Hd (wr21 hsp (⟨#[102,111,114,32,40,59,59,41,32,98,114,101,97,107,59]⟩ : ByteArray) (by decide) _ as4 (by decide))
 have H5 := Hd (wr21 hsp (⟨#[120]⟩ : ByteArray) (by decide) _ as5 (by decide))
 clear hsp
 have hb0 : Hid (Below w.heap.size w w) := Hd (Below.refl _ _)
 go_enter Tryz.func30, Tryz.ntmps30
 go_wp2_with fail
 refine (H1.out _ hb0.out).mono ?_
 rintro e w1 ⟨rfl, hb1⟩
 replace hb1 := Hd hb1
 clear H1 hb0
 go_wp2_with fail
 refine (H2.out _ hb1.out).mono ?_
 rintro e w2 ⟨rfl, hb⟩
 have hb2 := Hd (hb1.out.trans (hb.mono hb1.out.size))
 clear H2 hb hb1
 go_wp2_with fail
 refine (H3.out _ hb2.out).mono ?_
 rintro e w3 ⟨rfl, hb⟩
 have hb3 := Hd (hb2.out.trans (hb.mono hb2.out.size))
 clear H3 hb hb2
 go_wp2_with fail
 refine (H4.out _ hb3.out).mono ?_
 rintro e w4 ⟨rfl, hb⟩
 have hb4 := Hd (hb3.out.trans (hb.mono hb3.out.size))
 clear H4 hb hb3
 go_wp2_with fail
 refine (H5.out _ hb4.out).mono ?_
 rintro e w5 ⟨rfl, hb⟩
 have hb5 := Hd (hb4.out.trans (hb.mono hb4.out.size))
 clear H5 hb hb4
 go_wp2_with fail
 go_ret
 exact ⟨rfl, hb5.out⟩
end Go.Proofs.YtllbbacnakoomaaGreatDoor
namespace Go.Proofs.YtllbbacnakoomaaGreatDoor
open Go.RowKit
set_option linter.unusedVariables false
theorem wr21_s {w : World} (hsp : SpTab w) (s r : ByteArray) {l o : List UInt8} (hw : writS l [] = some o) (hs : s.data.toList = l) (hr : r.data.toList = o) (hl : l.length ≤ 1900) (ho : o.length ≤ 1000000) : ∀ y, Below w.heap.size w y → Calls Tryz.prog 31 #[.string s, .slice none 0 0] y fun e w' => e = .returned (.string r) ∧ Below y.heap.size y w' := fun y hy => by
 rw [bs_list hr]
 exact wr21 hsp s (by rw [← dsz, hs]; exact hl) o (by rw [hs]; exact hw) ho y hy
theorem wr21n_s {w : World} (hsp : SpTab w) (s r x : ByteArray) (hx : x.size ≠ 0) {l o : List UInt8} (hw : writS l [x] = some o) (hs : s.data.toList = l) (hr : r.data.toList = o) (hl : l.length ≤ 1900) (ho : o.length ≤ 1000000) : ∀ y, Below w.heap.size w y → Calls Tryz.prog 31 #[.string s, .slice (some ⟨y.heap.size, 0, none⟩) 1 1] (y.alloc (.cells #[.string x] 9)) fun e w' => e = .returned (.string r) ∧ Below y.heap.size y w' := fun y hy => by
 rw [bs_list hr]
 exact wr21n hsp s (by rw [← dsz, hs]; exact hl) x hx o (by rw [hs]; exact hw) ho y hy
end Go.Proofs.YtllbbacnakoomaaGreatDoor
