/- Texts of this seat's proofs, laid into one file. -/
import Derived.Test.YtllbbacnakoomaaGreatDoorE19
import Derived.Test.YtllbbacnakoomaaGreatDoorE28
import Derived.Test.YtllbbacnakoomaaGreatDoorE4
import Derived.Test.YtllbbacnakoomaaGreatDoorE8
/- laws 20, 21: a text as an expression, written. -/
namespace Go.Proofs.YtllbbacnakoomaaGreatDoor
open Go.RowKit
set_option linter.unusedVariables false

theorem tkAt_own {L : List Ct} {w : World} {B : Nat} {v : Value} (h : Own w B 95 7 v (L.map rtC)) (hl : L.length ≤ 2000) (ht : ∀ t ∈ L, t.text.size ≤ 1000000000) (hsp : SpTab w) : ∃ ta tc, v = .slice ta L.length tc ∧ TkAt L ta tc w := by
  have h2 := h
  obtain ⟨ao, cap, rfl, hc, _, hr, hn⟩ := h.rown (n := L.length) (by rw [List.length_map])
  refine ⟨ao, cap, rfl, hr, by omega, hc, ht, hsp, fun b o e => ?_⟩
  subst e
  obtain ⟨c, fz, hx⟩ := h2.size_lt b rfl
  exact ⟨c, fz, hx⟩

theorem envOf_snoc (ns : List ByteArray) (n : ByteArray) : envOf (ns ++ [n]) = .decl (envOf ns) n true := by unfold envOf; rw [List.foldl_append]; rfl

set_option maxRecDepth 100000 in
set_option maxHeartbeats 4000000 in
theorem written20_any (s : ByteArray) (hs : s.size ≤ 1900) (names : List ByteArray) (n : Nat) (hl : names.length = n) (hn : n ≤ 100) (hz : ∀ x ∈ names, x.size ≠ 0) (ao : Option Addr) (cap : Nat) (w : World) (hsp : SpTab w) (hrow : Row w 1 ao (names.map fun x => [.string x])) (o : List UInt8) (hw : writE s.data.toList names = some o) (ho : o.length ≤ 1000000) :
    Calls Tryz.prog 18 #[.string s, .slice ao n cap] w fun e w' => e = .returned (.string ⟨o.toArray⟩) ∧ Below w.heap.size w w' := by
  obtain ⟨L, hL⟩ : ∃ L, L = toksU s.data.toList := ⟨_, rfl⟩
  obtain ⟨hL1, hL2⟩ := toksU_facts hs
  unfold writE exprOf outOf at hw
  have HT := fun w => toks20_any s hs w
  rw [← hL] at hL1 hL2 hw
  simp only [← hL] at HT
  cases hr : (recN L 1000).expr 0 ⟨0, envOf names, false⟩ with
  | none => rw [hr] at hw; cases hw
  | some r =>
  obtain ⟨t, s'⟩ := r
  rw [hr] at hw
  replace hw : (if s'.bad = true ∨ s'.at_ ≠ (L.length : Int) - 1 then [] else T.out t) = o := by simpa using hw
  replace hw := Lib.hid hw
  replace hr := Lib.hid hr
  replace hL2 := Lib.hid hL2
  replace hl := Lib.hid hl
  replace hz := Lib.hid hz
  have hrow := Lib.hid hrow
  have hsp := Lib.hid hsp
  have HT := Lib.hid HT
  clear hL
  go_enter Tryz.func18, Tryz.ntmps18
  go_wp2_with fail
  refine (new_any _).mono ?_
  rintro e w1 ⟨⟨p, rfl, he⟩, hb1⟩
  replace he := Lib.hid he
  replace hb1 := Lib.hid hb1
  go_wp2_with fail
  go_loopg [5, 6] n (fun k v5 v6 wx => ∃ (i : Nat) (q : Option Addr), k = n - i ∧ i ≤ n ∧ v6 = .int .i64 i ∧ v5 = .pointer q ∧ Hid (EvAt wx q (envOf (names.take i))) ∧ Hid (Below w.heap.size w wx))
  case atStart => exact ⟨0, p, rfl, Nat.zero_le _, rfl, rfl, he, hb1⟩
  case round =>
    clear he hb1
    obtain ⟨i, q, hk, hi, rfl, rfl, he, hb⟩ := hrel
    replace hk := hk.symm
    subst hk
    obtain ⟨qb, _, _, _, _, _, rfl, _⟩ := he.out.cells
    by_cases hin : i < n
    · have hin' : (i : Int) < n := by omega
      have g1 : IntKind.i64.wrap ((i : Int) + 1) = (i : Int) + 1 := IntWalk.i64_in _ (by omega)
      have f4 : Hid (n - (i + 1) < n - i) := Lib.hid (by omega)
      obtain ⟨x, hx⟩ : ∃ x, names[i]? = some x := ⟨names[i]'(by rw [hl.out]; exact hin), by simp⟩
      have hc : (names.map fun x => [Value.string x])[i]? = some [.string x] := by rw [List.getElem?_map, hx]; rfl
      obtain ⟨b, o', rfl, hat⟩ := (hrow.out.below hb.out) (by intro h; rw [h] at hc; simp at hc)
      have c0 : wr.cell? ⟨b, o' + i, none⟩ = some (.string x) := by have := hat.cell hc (j := 0) rfl; simpa using this
      have HD := Lib.hid (declare_any he.out x (hz.out x (List.mem_of_getElem? hx)) true)
      replace hx := Lib.hid hx
      clear hat hc
      go_wp2_with fail
      refine HD.out.mono ?_
      rintro e w2 ⟨⟨q2, rfl, he2⟩, hb2⟩
      replace he2 := Lib.hid he2
      have hb3 := Lib.hid (hb.out.trans (hb2.mono hb.out.size))
      clear HD hb2
      go_wp2_with fail
      go_roundg (n - (i + 1))
      case measure => exact f4.out
      case rel => exact ⟨i + 1, q2, rfl, by omega, by simp, rfl, Lib.hid (by rw [List.take_add_one, hx.out]; simp only [Option.toList_some]; rw [envOf_snoc]; exact he2.out), hb3⟩
    · obtain rfl : i = n := by omega
      have hin' : ¬ (i : Int) < (i : Int) := by omega
      have he1 := he.out
      rw [List.take_of_length_le (by rw [hl.out]; exact Nat.le_refl _)] at he1
      replace he1 := Lib.hid he1
      clear he
      go_wp2_with fail
      refine (HT.out _).mono ?_
      rintro e w2 ⟨vo, rfl, ho2, hb2⟩
      obtain ⟨a2, c2, rfl, hc2, _, hr2, _⟩ := ho2.rown (n := L.length) (by rw [List.length_map])
      have he2 := Lib.hid (he1.out.under hb2)
      have hbx := Lib.hid (hb.out.trans (hb2.mono hb.out.size))
      have HM := Lib.hid (made20_any L a2 c2 L.length rfl (by omega) w2 hr2)
      clear HT he1 hb hb2 ho2 hr2
      go_wp2_with fail
      refine HM.out.mono ?_
      rintro e w3 ⟨vm, rfl, ho3, hb3⟩
      have hbz := hbx.out.trans (hb3.mono hbx.out.size)
      obtain ⟨ta, tc, rfl, hta⟩ := tkAt_own ho3 hL1 hL2.out (hsp.out.below hbz)
      have HE := Lib.hid (eExpr_any (nest := 0) (i := 0) hta (he2.out.under hb3) (by omega) (by omega) (by omega) hr.out)
      replace hbz := Lib.hid hbz
      clear HM he2 hbx hb3 ho3 hta
      go_wp2_with fail
      refine HE.out.mono ?_
      rintro e w4 ⟨m, ma, mc, q4, rfl, hm, hnd, _, _, hb4⟩
      clear HE
      have hv : ndV m ma mc = .agg #[.string m.kind, .string m.text, .int .i64 m.from_, .int .i64 m.to_, .slice ma m.kids.length mc] := rfl
      rw [hv]
      clear hv
      cases hbad : s'.bad with
      | true =>
        have ho0 : o = [] := by rw [← hw.out, if_pos (.inl hbad)]
        subst ho0
        have hb5 := Lib.hid (hbz.out.trans (hb4.mono hbz.out.size))
        replace hbad := Lib.hid hbad
        clear hm hnd hw
        go_upto_region 8 with fail
        go_wp2_with fail
        go_ret
        exact ⟨rfl, (hb5.out.alloc hb5.out.size _).alloc (by rw [World.size_alloc]; have := hb5.out.size; omega) _⟩
      | false =>
        obtain rfl : m = t := by rw [hm, hbad]; rfl
        clear hm
        have hb5 := Lib.hid (hbz.out.trans (hb4.mono hbz.out.size))
        by_cases hat : s'.at_ = (L.length : Int) - 1
        · have ho0 : T.out m = o := by rw [← hw.out, if_neg (by rw [hbad]; simp [hat])]
          have HWr : Hid (∀ y, Below w4.heap.size w4 y → Calls Tryz.prog 28 #[.agg #[.string m.kind, .string m.text, .int .i64 m.from_, .int .i64 m.to_, .slice ma m.kids.length mc]] y fun e w' => e = .returned (.string ⟨o.toArray⟩) ∧ Below y.heap.size y w') := Lib.hid (fun y h => by rw [← ho0]; exact tWrite_any m (ndC m ma mc) _ y (hnd.below h) (by rw [ho0]; omega))
          have g7 : IntKind.i64.wrap ((L.length : Int) - 1) = (L.length : Int) - 1 := IntWalk.i64_in _ (by omega)
          have hat2 : (s'.at_ == (L.length : Int) - 1) = true := by rw [hat]; simp
          replace hbad := Lib.hid hbad
          clear hnd hw
          go_upto_region 8 with fail
          go_wp2_with fail
          refine (HWr.out _ (((Below.refl _ w4).alloc (Nat.le_refl _) _).alloc (by simp) _)).mono ?_
          rintro e w5 ⟨rfl, hb6⟩
          go_wp2_with fail
          go_ret
          refine ⟨rfl, Below.trans ((hb5.out.alloc hb5.out.size _).alloc (by rw [World.size_alloc]; have := hb5.out.size; omega) _) (hb6.mono ?_)⟩
          rw [World.size_alloc, World.size_alloc]
          have := hb5.out.size
          omega
        · have ho0 : o = [] := by rw [← hw.out, if_pos (.inr hat)]
          subst ho0
          have g7 : IntKind.i64.wrap ((L.length : Int) - 1) = (L.length : Int) - 1 := IntWalk.i64_in _ (by omega)
          have hat2 : (s'.at_ == (L.length : Int) - 1) = false := by simpa using hat
          replace hbad := Lib.hid hbad
          clear hnd hw
          go_upto_region 8 with fail
          go_wp2_with fail
          go_ret
          exact ⟨rfl, (hb5.out.alloc hb5.out.size _).alloc (by rw [World.size_alloc]; have := hb5.out.size; omega) _⟩
end Go.Proofs.YtllbbacnakoomaaGreatDoor
