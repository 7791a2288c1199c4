/- Texts of this seat's proofs, laid into one file. -/
import Derived.Test.YtfaoamdlknlgpaaGreatArgsCollectDoneG23
import Derived.Deep.LoopGhost
/- args: Parts. -/
namespace Go.Proofs.YtfaoamdlknlgpaaGreat
open Go.RowKit
set_option linter.unusedVariables false

theorem is_tok (kind : Int) (text : ByteArray) (sp : Bool) (file : ByteArray) (tf tt : Int) (made : Bool) (v : Value) (s : ByteArray) (w : World) :
    Calls Tryz.prog 77 #[.agg #[.int .i64 kind, .string text, .bool sp, .string file, .int .i64 tf, .int .i64 tt, .bool made, v], .string s] w fun e w' => e = .returned (.bool (isP ⟨kind, text, sp, file, tf, tt, made⟩ s)) ∧ Below w.heap.size w w' :=
  mIs_any ⟨kind, text, sp, file, tf, tt, made⟩ v s w

set_option maxRecDepth 100000 in
set_option maxHeartbeats 4000000 in
theorem parts_any (T : List (Tm × Value)) (hn : T.length ≤ 1000000) (b : Nat) (w : World) (hs : ∀ p ∈ T, SlV p.2)
    (HK : ∀ W, Below w.heap.size w W → ∀ (i : Nat) (t : Tm) (v : Value), T[i]? = some (t, v) → Calls Tryz.prog 51 #[.int .i64 i, .pointer (some ⟨b, 0, none⟩)] W fun e w' => e = .returned (.agg (tmC t v).toArray) ∧ Below W.heap.size W w') :
    Calls Tryz.prog 50 #[.int .i64 T.length, .func (.func 51) #[] #[.pointer (some ⟨b, 0, none⟩)]] w fun e w' => PartsPost (partsL (T.map (·.1))) w.heap.size e w' ∧ Below w.heap.size w w' := by
  obtain ⟨n, hnn⟩ : ∃ n, n = T.length := ⟨_, rfl⟩
  have HN : Hid (T.length = n) := Lib.hid hnn.symm
  rw [← hnn] at hn ⊢
  clear hnn
  have HT : Hid (∀ i, i < n → ∃ kind text sp file tf tt made sa sn sc, T[i]? = some (⟨kind, text, sp, file, tf, tt, made⟩, .slice sa sn sc) ∧ Hid (∀ W, Below w.heap.size w W → Calls Tryz.prog 51 #[.int .i64 i, .pointer (some ⟨b, 0, none⟩)] W fun e w' => e = .returned (.agg #[.int .i64 kind, .string text, .bool sp, .string file, .int .i64 tf, .int .i64 tt, .bool made, .slice sa sn sc]) ∧ Below W.heap.size W w')) := Lib.hid fun i hi => by
    obtain ⟨⟨⟨kind, text, sp, file, tf, tt, made⟩, v⟩, hp⟩ : ∃ p, T[i]? = some p := ⟨_, List.getElem?_eq_getElem (by rw [HN.out]; exact hi)⟩
    obtain ⟨sa, sn, sc, hv⟩ := hs _ (List.mem_of_getElem? hp)
    simp only at hv
    subst hv
    exact ⟨kind, text, sp, file, tf, tt, made, sa, sn, sc, hp, Lib.hid fun W hW => HK W hW i _ _ hp⟩
  clear hs HK
  obtain ⟨R, hR⟩ : ∃ R, R = partsL (T.map (·.1)) := ⟨_, rfl⟩
  rw [← hR]
  by_cases h0 : n = 0
  · subst h0
    have hT0 : T = [] := List.eq_nil_of_length_eq_zero HN.out
    have hRn : R = none := by rw [hR, hT0]; rfl
    subst hRn
    clear hR hT0 HT
    go_enter Tryz.func50, Tryz.ntmps50
    go_wp2
    go_ret2
    exact ⟨rfl, Below.refl _ _⟩
  have h0i : ¬ (n : Int) = 0 := by omega
  have h0b : ((n : Int) == 0) = false := beq_false_of_ne h0i
  obtain ⟨kind, text, sp, file, tf, tt, made, sa, sn, sc, hp, HC⟩ := HT.out 0 (by omega)
  have hd : T.map (·.1) = ⟨kind, text, sp, file, tf, tt, made⟩ :: (T.map (·.1)).drop 1 := by
    cases T with
    | nil => simp at hp
    | cons x r => simp at hp; subst hp; rfl
  have HC0 := HC.out w (Below.refl _ w)
  rw [show ((0 : Nat) : Int) = 0 from rfl] at HC0
  replace HC0 := Lib.hid HC0
  have HI := Lib.hid (fun W => is_tok kind text sp file tf tt made (.slice sa sn sc) sOpen W)
  cases ho : isP ⟨kind, text, sp, file, tf, tt, made⟩ sOpen with
  | false =>
    have hRn : R = none := by rw [hR, hd]; show (if isP ⟨kind, text, sp, file, tf, tt, made⟩ sOpen = true then _ else none) = none; rw [ho]; rfl
    subst hRn
    rw [ho] at HI
    clear hR hd hp HC HT ho
    go_enter Tryz.func50, Tryz.ntmps50
    go_wp2_with fail
    refine HC0.out.mono ?_
    rintro e w1 ⟨rfl, b1⟩
    replace b1 := Lib.hid b1
    go_wp2_with fail
    refine (HI.out _).mono ?_
    rintro e w2 ⟨rfl, b2⟩
    have b3 := Lib.hid (b1.out.trans (b2.mono b1.out.size))
    clear b2
    go_wp2
    go_ret2
    exact ⟨rfl, b3.out⟩
  | true =>
    have hR1 : Hid (partsR ((T.map (·.1)).drop 1) 1 1 1 [] = R) := Lib.hid (by
      rw [hR]
      conv => rhs; rw [hd]
      show _ = (if isP ⟨kind, text, sp, file, tf, tt, made⟩ sOpen = true then partsR ((T.map (·.1)).drop 1) 1 1 1 [] else none)
      rw [ho]; rfl)
    rw [ho] at HI
    clear hR hd hp HC ho
    go_enter Tryz.func50, Tryz.ntmps50
    go_wp2_with fail
    refine HC0.out.mono ?_
    rintro e w1 ⟨rfl, b1⟩
    replace b1 := Lib.hid b1
    go_wp2_with fail
    refine (HI.out _).mono ?_
    rintro e w2 ⟨rfl, b2⟩
    have b3 := Lib.hid (b1.out.trans (b2.mono b1.out.size))
    clear b2 b1 HC0 HI
    go_wp2_with fail
    go_loopg [4, 6, 7, 8, 9, 26, 31, 46] (n - 1) (fun q v4 v6 v7 v8 v9 v26 v31 v46 wx => ∃ (i dep fr : Nat) (out : List (Nat × Nat)), q = n - i ∧ i ≤ n ∧ 1 ≤ dep ∧ dep ≤ i ∧ fr ≤ i ∧ out.length ≤ i ∧ v8 = .int .i64 i ∧ v6 = .int .i64 dep ∧ v7 = .int .i64 fr ∧ Hid (Own wx w.heap.size 95 2 v4 (out.map paC)) ∧ Hid (partsR ((T.map (·.1)).drop i) i dep fr out = R) ∧ Hid (Below w.heap.size w wx))
    case atStart => exact ⟨1, 1, 1, [], rfl, by omega, Nat.le_refl _, Nat.le_refl _, Nat.le_refl _, Nat.zero_le _, rfl, rfl, rfl, Lib.hid (Own.nil _ _ _ _), hR1, b3⟩
    case round =>
      clear hR1 b3
      obtain ⟨i, dep, fr, out, hq, hi, hdep, hdi, hfr, hol, rfl, rfl, rfl, hown, hR, hb⟩ := hrel
      replace hq := hq.symm
      subst hq
      have hsB := hb.out.size
      by_cases hin : i < n
      · have hin' : (i : Int) < n := by omega
        have f4 : Hid (n - (i + 1) < n - i) := Lib.hid (by omega)
        have g1 : IntKind.i64.wrap ((i : Int) + 1) = (i : Int) + 1 := IntWalk.i64_in _ (by omega)
        have g2 : IntKind.i64.wrap ((dep : Int) + 1) = (dep : Int) + 1 := IntWalk.i64_in _ (by omega)
        have g3 : IntKind.i64.wrap ((dep : Int) - 1) = (dep : Int) - 1 := IntWalk.i64_in _ (by omega)
        obtain ⟨kind, text, sp, file, tf, tt, made, sa, sn, sc, hp, HC⟩ := HT.out i hin
        have hd : (T.map (·.1)).drop i = ⟨kind, text, sp, file, tf, tt, made⟩ :: (T.map (·.1)).drop (i + 1) := by
          rw [List.drop_eq_getElem_cons (by rw [List.length_map, HN.out]; exact hin)]
          congr 1
          rw [List.getElem_map, (List.getElem?_eq_some_iff.1 hp).2]
        have hst := hR.out
        rw [hd] at hst
        unfold partsR pOpen pShut pComma at hst
        have HC1 := Lib.hid (HC.out wr hb.out)
        have HI1 := fun W => is_tok kind text sp file tf tt made (.slice sa sn sc) sOpen W
        have HI2 := fun W => is_tok kind text sp file tf tt made (.slice sa sn sc) sShut W
        have HI3 := fun W => is_tok kind text sp file tf tt made (.slice sa sn sc) sComma W
        generalize isP ⟨kind, text, sp, file, tf, tt, made⟩ sOpen = x1 at hst HI1
        generalize isP ⟨kind, text, sp, file, tf, tt, made⟩ sShut = x2 at hst HI2
        generalize isP ⟨kind, text, sp, file, tf, tt, made⟩ sComma = x3 at hst HI3
        have hlen : Hid ((out.map paC).length + 1 ≤ 1000000000) := Lib.hid (by rw [List.length_map]; omega)
        clear hd hp HC hR
        replace HI1 := Lib.hid HI1
        replace HI2 := Lib.hid HI2
        replace HI3 := Lib.hid HI3
        cases x1 with
        | true =>
          have hst' : Hid (partsR ((T.map (·.1)).drop (i + 1)) (i + 1) (dep + 1) fr out = R) := Lib.hid (by simpa using hst)
          clear hst
          go_wp2_with fail
          refine HC1.out.mono ?_
          rintro e w3 ⟨rfl, b3⟩
          have hb3 := Lib.hid (hb.out.trans (b3.mono hsB))
          have ho3 := Lib.hid (hown.out.below b3)
          clear b3
          have hb4 := Lib.hid (hb3.out.alloc hb3.out.size (.cells #[.int .i64 kind, .string text, .bool sp, .string file, .int .i64 tf, .int .i64 tt, .bool made, .slice sa sn sc] 34))
          have ho4 := Lib.hid (ho3.out.alloc (.cells #[.int .i64 kind, .string text, .bool sp, .string file, .int .i64 tf, .int .i64 tt, .bool made, .slice sa sn sc] 34))
          have hc4 := Lib.hid (heap_alloc_new w3 (.cells #[.int .i64 kind, .string text, .bool sp, .string file, .int .i64 tf, .int .i64 tt, .bool made, .slice sa sn sc] 34))
          go_wp2_with fail
          refine (HI1.out _).mono ?_
          rintro e w5 ⟨rfl, b5⟩
          have hb5 := Lib.hid (hb4.out.trans (b5.mono hb4.out.size))
          have ho5 := Lib.hid (ho4.out.below b5)
          have hc5 := Lib.hid ((b5.block _ (lt_of_block hc4.out)).trans hc4.out)
          obtain ⟨q0, q1, q2, q3, q4, q5, q6, q7⟩ := cells8 hc5.out
          clear b5
          go_wp2_with fail
          go_roundg (n - (i + 1))
          case measure => exact f4.out
          case rel => exact ⟨i + 1, dep + 1, fr, out, rfl, by omega, by omega, by omega, by omega, by omega, by simp, by simp, by rfl, ho5, hst', hb5⟩
        | false =>
          cases x2 with
          | true =>
            by_cases hd1 : dep = 1
            · subst hd1
              have hst' : Hid (R = some (out ++ [(fr, i)], i + 1)) := Lib.hid (by simpa using hst.symm)
              clear hst
              have z1 : IntKind.i64.wrap (((1 : Nat) : Int) - 1) = 0 := by decide
              have z2 : IntKind.i64.wrap ((1 : Int) - 1) = 0 := by decide
              go_wp2_with fail
              refine HC1.out.mono ?_
              rintro e w3 ⟨rfl, b3⟩
              have hb3 := Lib.hid (hb.out.trans (b3.mono hsB))
              have ho3 := Lib.hid (hown.out.below b3)
              clear b3
              have hb4 := Lib.hid (hb3.out.alloc hb3.out.size (.cells #[.int .i64 kind, .string text, .bool sp, .string file, .int .i64 tf, .int .i64 tt, .bool made, .slice sa sn sc] 34))
              have ho4 := Lib.hid (ho3.out.alloc (.cells #[.int .i64 kind, .string text, .bool sp, .string file, .int .i64 tf, .int .i64 tt, .bool made, .slice sa sn sc] 34))
              have hc4 := Lib.hid (heap_alloc_new w3 (.cells #[.int .i64 kind, .string text, .bool sp, .string file, .int .i64 tf, .int .i64 tt, .bool made, .slice sa sn sc] 34))
              go_wp2_with fail
              refine (HI1.out _).mono ?_
              rintro e w5 ⟨rfl, b5⟩
              have hb5 := Lib.hid (hb4.out.trans (b5.mono hb4.out.size))
              have ho5 := Lib.hid (ho4.out.below b5)
              have hc5 := Lib.hid ((b5.block _ (lt_of_block hc4.out)).trans hc4.out)
              obtain ⟨q0, q1, q2, q3, q4, q5, q6, q7⟩ := cells8 hc5.out
              clear b5
              go_wp2_with fail
              refine (HI2.out _).mono ?_
              rintro e w6 ⟨rfl, b6⟩
              clear q0 q1 q2 q3 q4 q5 q6 q7
              have hb6 := Lib.hid (hb5.out.trans (b6.mono hb5.out.size))
              have ho6 := Lib.hid (ho5.out.below b6)
              have hc6 := Lib.hid ((b6.block _ (lt_of_block hc5.out)).trans hc5.out)
              obtain ⟨q0, q1, q2, q3, q4, q5, q6, q7⟩ := cells8 hc6.out
              clear b6
              go_wp2_with (at_builtin; go_must (refine wpList_append1 Ep95 rfl rfl ho6.out rfl rfl (news := [.int .i64 fr, .int .i64 i]) (by simp) rfl (by simp [Value.oneCell']) hlen.out (by decide) hb6.out.size ?_); intro v7 w7 hown7 hg7; have hb7 := Lib.hid (bapp hb6.out ho6.out hg7 hb6.out.size))
              go_ret2
              refine ⟨?_, hb7.out⟩
              rw [hst'.out]
              exact ⟨v7, rfl, by rw [List.map_append]; exact hown7⟩
            · have hd1i : ¬ (dep : Int) - 1 = 0 := by omega
              have hd1b : ((dep : Int) - 1 == 0) = false := beq_false_of_ne hd1i
              have hst' : Hid (partsR ((T.map (·.1)).drop (i + 1)) (i + 1) (dep - 1) fr out = R) := Lib.hid (by simpa [hd1] using hst)
              clear hst
              have hd2 : Hid (2 ≤ dep) := Lib.hid (by omega)
              go_wp2_with fail
              refine HC1.out.mono ?_
              rintro e w3 ⟨rfl, b3⟩
              have hb3 := Lib.hid (hb.out.trans (b3.mono hsB))
              have ho3 := Lib.hid (hown.out.below b3)
              clear b3
              have hb4 := Lib.hid (hb3.out.alloc hb3.out.size (.cells #[.int .i64 kind, .string text, .bool sp, .string file, .int .i64 tf, .int .i64 tt, .bool made, .slice sa sn sc] 34))
              have ho4 := Lib.hid (ho3.out.alloc (.cells #[.int .i64 kind, .string text, .bool sp, .string file, .int .i64 tf, .int .i64 tt, .bool made, .slice sa sn sc] 34))
              have hc4 := Lib.hid (heap_alloc_new w3 (.cells #[.int .i64 kind, .string text, .bool sp, .string file, .int .i64 tf, .int .i64 tt, .bool made, .slice sa sn sc] 34))
              go_wp2_with fail
              refine (HI1.out _).mono ?_
              rintro e w5 ⟨rfl, b5⟩
              have hb5 := Lib.hid (hb4.out.trans (b5.mono hb4.out.size))
              have ho5 := Lib.hid (ho4.out.below b5)
              have hc5 := Lib.hid ((b5.block _ (lt_of_block hc4.out)).trans hc4.out)
              obtain ⟨q0, q1, q2, q3, q4, q5, q6, q7⟩ := cells8 hc5.out
              clear b5
              go_wp2_with fail
              refine (HI2.out _).mono ?_
              rintro e w6 ⟨rfl, b6⟩
              clear q0 q1 q2 q3 q4 q5 q6 q7
              have hb6 := Lib.hid (hb5.out.trans (b6.mono hb5.out.size))
              have ho6 := Lib.hid (ho5.out.below b6)
              have hc6 := Lib.hid ((b6.block _ (lt_of_block hc5.out)).trans hc5.out)
              obtain ⟨q0, q1, q2, q3, q4, q5, q6, q7⟩ := cells8 hc6.out
              clear b6
              go_wp2_with fail
              go_roundg (n - (i + 1))
              case measure => exact f4.out
              case rel => exact ⟨i + 1, dep - 1, fr, out, rfl, by omega, (by have := hd2.out; omega), by omega, by omega, by omega, by simp, (by have := hd2.out; congr 1; omega), by rfl, ho6, hst', hb6⟩
          | false =>
            cases x3 with
            | true =>
              by_cases hd1 : dep = 1
              · subst hd1
                have hst' : Hid (partsR ((T.map (·.1)).drop (i + 1)) (i + 1) 1 (i + 1) (out ++ [(fr, i)]) = R) := Lib.hid (by simpa using hst)
                clear hst
                go_wp2_with fail
                refine HC1.out.mono ?_
                rintro e w3 ⟨rfl, b3⟩
                have hb3 := Lib.hid (hb.out.trans (b3.mono hsB))
                have ho3 := Lib.hid (hown.out.below b3)
                clear b3
                have hb4 := Lib.hid (hb3.out.alloc hb3.out.size (.cells #[.int .i64 kind, .string text, .bool sp, .string file, .int .i64 tf, .int .i64 tt, .bool made, .slice sa sn sc] 34))
                have ho4 := Lib.hid (ho3.out.alloc (.cells #[.int .i64 kind, .string text, .bool sp, .string file, .int .i64 tf, .int .i64 tt, .bool made, .slice sa sn sc] 34))
                have hc4 := Lib.hid (heap_alloc_new w3 (.cells #[.int .i64 kind, .string text, .bool sp, .string file, .int .i64 tf, .int .i64 tt, .bool made, .slice sa sn sc] 34))
                go_wp2_with fail
                refine (HI1.out _).mono ?_
                rintro e w5 ⟨rfl, b5⟩
                have hb5 := Lib.hid (hb4.out.trans (b5.mono hb4.out.size))
                have ho5 := Lib.hid (ho4.out.below b5)
                have hc5 := Lib.hid ((b5.block _ (lt_of_block hc4.out)).trans hc4.out)
                obtain ⟨q0, q1, q2, q3, q4, q5, q6, q7⟩ := cells8 hc5.out
                clear b5
                go_wp2_with fail
                refine (HI2.out _).mono ?_
                rintro e w6 ⟨rfl, b6⟩
                clear q0 q1 q2 q3 q4 q5 q6 q7
                have hb6 := Lib.hid (hb5.out.trans (b6.mono hb5.out.size))
                have ho6 := Lib.hid (ho5.out.below b6)
                have hc6 := Lib.hid ((b6.block _ (lt_of_block hc5.out)).trans hc5.out)
                obtain ⟨q0, q1, q2, q3, q4, q5, q6, q7⟩ := cells8 hc6.out
                clear b6
                go_wp2_with fail
                refine (HI3.out _).mono ?_
                rintro e w7 ⟨rfl, b7⟩
                clear q0 q1 q2 q3 q4 q5 q6 q7
                have hb7 := Lib.hid (hb6.out.trans (b7.mono hb6.out.size))
                have ho7 := Lib.hid (ho6.out.below b7)
                have hc7 := Lib.hid ((b7.block _ (lt_of_block hc6.out)).trans hc6.out)
                obtain ⟨q0, q1, q2, q3, q4, q5, q6, q7⟩ := cells8 hc7.out
                clear b7
                go_wp2_with (at_builtin; go_must (refine wpList_append1 Ep95 rfl rfl ho7.out rfl rfl (news := [.int .i64 fr, .int .i64 i]) (by simp) rfl (by simp [Value.oneCell']) hlen.out (by decide) hb7.out.size ?_); intro v8 w8 hown8 hg8; have hb8 := Lib.hid (bapp hb7.out ho7.out hg8 hb7.out.size))
                go_roundg (n - (i + 1))
                case measure => exact f4.out
                case rel => exact ⟨i + 1, 1, i + 1, out ++ [(fr, i)], rfl, by omega, by omega, by omega, by omega, by rw [List.length_append]; simp; omega, by simp, by rfl, by simp, (Lib.hid (by rw [List.map_append]; exact hown8)), hst', hb8⟩
              · have hd1i : ¬ (dep : Int) = 1 := by omega
                have hd1b : ((dep : Int) == 1) = false := beq_false_of_ne hd1i
                have hst' : Hid (partsR ((T.map (·.1)).drop (i + 1)) (i + 1) dep fr out = R) := Lib.hid (by simpa [hd1] using hst)
                clear hst
                go_wp2_with fail
                refine HC1.out.mono ?_
                rintro e w3 ⟨rfl, b3⟩
                have hb3 := Lib.hid (hb.out.trans (b3.mono hsB))
                have ho3 := Lib.hid (hown.out.below b3)
                clear b3
                have hb4 := Lib.hid (hb3.out.alloc hb3.out.size (.cells #[.int .i64 kind, .string text, .bool sp, .string file, .int .i64 tf, .int .i64 tt, .bool made, .slice sa sn sc] 34))
                have ho4 := Lib.hid (ho3.out.alloc (.cells #[.int .i64 kind, .string text, .bool sp, .string file, .int .i64 tf, .int .i64 tt, .bool made, .slice sa sn sc] 34))
                have hc4 := Lib.hid (heap_alloc_new w3 (.cells #[.int .i64 kind, .string text, .bool sp, .string file, .int .i64 tf, .int .i64 tt, .bool made, .slice sa sn sc] 34))
                go_wp2_with fail
                refine (HI1.out _).mono ?_
                rintro e w5 ⟨rfl, b5⟩
                have hb5 := Lib.hid (hb4.out.trans (b5.mono hb4.out.size))
                have ho5 := Lib.hid (ho4.out.below b5)
                have hc5 := Lib.hid ((b5.block _ (lt_of_block hc4.out)).trans hc4.out)
                obtain ⟨q0, q1, q2, q3, q4, q5, q6, q7⟩ := cells8 hc5.out
                clear b5
                go_wp2_with fail
                refine (HI2.out _).mono ?_
                rintro e w6 ⟨rfl, b6⟩
                clear q0 q1 q2 q3 q4 q5 q6 q7
                have hb6 := Lib.hid (hb5.out.trans (b6.mono hb5.out.size))
                have ho6 := Lib.hid (ho5.out.below b6)
                have hc6 := Lib.hid ((b6.block _ (lt_of_block hc5.out)).trans hc5.out)
                obtain ⟨q0, q1, q2, q3, q4, q5, q6, q7⟩ := cells8 hc6.out
                clear b6
                go_wp2_with fail
                refine (HI3.out _).mono ?_
                rintro e w7 ⟨rfl, b7⟩
                clear q0 q1 q2 q3 q4 q5 q6 q7
                have hb7 := Lib.hid (hb6.out.trans (b7.mono hb6.out.size))
                have ho7 := Lib.hid (ho6.out.below b7)
                have hc7 := Lib.hid ((b7.block _ (lt_of_block hc6.out)).trans hc6.out)
                obtain ⟨q0, q1, q2, q3, q4, q5, q6, q7⟩ := cells8 hc7.out
                clear b7
                go_wp2_with fail
                go_roundg (n - (i + 1))
                case measure => exact f4.out
                case rel => exact ⟨i + 1, dep, fr, out, rfl, by omega, by omega, by omega, by omega, by omega, by simp, by rfl, by rfl, ho7, hst', hb7⟩
            | false =>
              have hst' : Hid (partsR ((T.map (·.1)).drop (i + 1)) (i + 1) dep fr out = R) := Lib.hid (by simpa using hst)
              clear hst
              go_wp2_with fail
              refine HC1.out.mono ?_
              rintro e w3 ⟨rfl, b3⟩
              have hb3 := Lib.hid (hb.out.trans (b3.mono hsB))
              have ho3 := Lib.hid (hown.out.below b3)
              clear b3
              have hb4 := Lib.hid (hb3.out.alloc hb3.out.size (.cells #[.int .i64 kind, .string text, .bool sp, .string file, .int .i64 tf, .int .i64 tt, .bool made, .slice sa sn sc] 34))
              have ho4 := Lib.hid (ho3.out.alloc (.cells #[.int .i64 kind, .string text, .bool sp, .string file, .int .i64 tf, .int .i64 tt, .bool made, .slice sa sn sc] 34))
              have hc4 := Lib.hid (heap_alloc_new w3 (.cells #[.int .i64 kind, .string text, .bool sp, .string file, .int .i64 tf, .int .i64 tt, .bool made, .slice sa sn sc] 34))
              go_wp2_with fail
              refine (HI1.out _).mono ?_
              rintro e w5 ⟨rfl, b5⟩
              have hb5 := Lib.hid (hb4.out.trans (b5.mono hb4.out.size))
              have ho5 := Lib.hid (ho4.out.below b5)
              have hc5 := Lib.hid ((b5.block _ (lt_of_block hc4.out)).trans hc4.out)
              obtain ⟨q0, q1, q2, q3, q4, q5, q6, q7⟩ := cells8 hc5.out
              clear b5
              go_wp2_with fail
              refine (HI2.out _).mono ?_
              rintro e w6 ⟨rfl, b6⟩
              clear q0 q1 q2 q3 q4 q5 q6 q7
              have hb6 := Lib.hid (hb5.out.trans (b6.mono hb5.out.size))
              have ho6 := Lib.hid (ho5.out.below b6)
              have hc6 := Lib.hid ((b6.block _ (lt_of_block hc5.out)).trans hc5.out)
              obtain ⟨q0, q1, q2, q3, q4, q5, q6, q7⟩ := cells8 hc6.out
              clear b6
              go_wp2_with fail
              refine (HI3.out _).mono ?_
              rintro e w7 ⟨rfl, b7⟩
              clear q0 q1 q2 q3 q4 q5 q6 q7
              have hb7 := Lib.hid (hb6.out.trans (b7.mono hb6.out.size))
              have ho7 := Lib.hid (ho6.out.below b7)
              have hc7 := Lib.hid ((b7.block _ (lt_of_block hc6.out)).trans hc6.out)
              obtain ⟨q0, q1, q2, q3, q4, q5, q6, q7⟩ := cells8 hc7.out
              clear b7
              go_wp2_with fail
              go_roundg (n - (i + 1))
              case measure => exact f4.out
              case rel => exact ⟨i + 1, dep, fr, out, rfl, by omega, by omega, by omega, by omega, by omega, by simp, by rfl, by rfl, ho7, hst', hb7⟩
      · obtain rfl : i = n := by omega
        have hin' : ¬ (i : Int) < (i : Int) := by omega
        have hRn : Hid (R = none) := Lib.hid (by
          have := hR.out
          rw [List.drop_eq_nil_of_le (by rw [List.length_map, HN.out]; exact Nat.le_refl _)] at this
          rw [← this]; rfl)
        go_wp2
        go_ret2
        refine ⟨?_, hb.out⟩
        rw [hRn.out]
        rfl
end Go.Proofs.YtfaoamdlknlgpaaGreat

/- args: what stands between brackets, as tokens: plain, and how lists of them lie in memory. -/
namespace Go.Proofs.YtfaoamdlknlgpaaGreat
open Go.RowKit
set_option linter.unusedVariables false

/-- an append of one element, whose cells have just been laid: the row stays in its block, or comes into a new one -/
theorem wpList_append1X {P : Program} {w : World} {ops : Array Oper} {rest : List Oper} {o : Oper} {a : Act} {Q : Exit → Act → World → Prop} {t e : TypeId} {z : Value} {size bytes : Nat} (E : EI P t e z size bytes)
    (hgd : o.guard = none) {s x : Operand} (ho : o.op = .call { callee := .builtin .append, args := #[s, x], argTypes := #[t, t] })
    {B : Nat} {v : Value} {css : List (List Value)} (hown : Own w B e size v css) (hs : a.eval s = v)
    {news : List Value} {c g : Nat} (hx : a.eval x = .slice (some ⟨g, 0, none⟩) 1 c) (hg : g = w.heap.size) (hl : news.length = size) (h1 : ∀ u ∈ news, u.oneCell' = true)
    (hn : css.length + 1 ≤ 1000000000) (hbytes : bytes ≤ 1000) (hbase : B ≤ w.heap.size)
    (h : ∀ g' cap w', Own w' B e size (.slice (some ⟨g', 0, none⟩) (css.length + 1) cap) (css ++ [news]) → w.grownBy w' v.ownBlock → (v.ownBlock = some g' ∨ w.heap.size ≤ g') → g' < w'.heap.size → wpList P ops Q rest (a.put o.dst (.slice (some ⟨g', 0, none⟩) (css.length + 1) cap)) w') :
    wpList P ops Q (o :: rest) a (w.alloc (.cells news.toArray e)) := by
  subst hg
  obtain ⟨i, hi, hz0, hz1, hz2⟩ := info_parts E.info
  have hb : (css.length + 1) * bytes ≤ 140737488355328 := by
    calc (css.length + 1) * bytes ≤ 1000000000 * 1000 := Nat.mul_le_mul hn hbytes
      _ ≤ 140737488355328 := by decide
  refine wpList_append_lies _ hgd s x t ho B e i z size bytes E.under hi hz0 hz1 hz2 E.zs E.pos v css.length css.flatten hs (hown.1.alloc _) ⟨w.heap.size, 0, none⟩ 1 c news hx (by simpa using hl) (cells_new w news e) h1 (by decide) (by unfold maxLen; omega) hb (by simp; omega) (w.heap.size + 1) (by simp) ?_
  intro g' cap w' h2 h3 h4 h5
  refine h g' cap w' ⟨by simpa using h2, ?_⟩ (grown_trans (World.grownBy_alloc w _ _) h3) (h4.imp id (by omega)) h5
  intro c hc
  rcases List.mem_append.1 hc with hc | hc
  · exact hown.2 c hc
  · simp at hc; subst hc; exact hl

/-- places of a row -/
structure PartOk (n i fr : Nat) (out : List (Nat × Nat)) : Prop where
  all : ∀ p ∈ out, 1 ≤ p.1 ∧ p.1 ≤ p.2 ∧ p.2 < n
  hd : ∀ (j : Nat) p, 1 ≤ j → out[j]? = some p → 2 ≤ p.1

theorem partsR_ok {n : Nat} : ∀ (X : List Tm) (i dep fr : Nat) (out : List (Nat × Nat)) (r : List (Nat × Nat) × Nat), i + X.length = n → 1 ≤ fr → fr ≤ i → (out ≠ [] → 2 ≤ fr) → PartOk n i fr out → partsR X i dep fr out = some r → PartOk n n n r.1 ∧ r.1 ≠ [] ∧ 2 ≤ r.2 ∧ r.2 ≤ n
  | [], i, dep, fr, out, r, _, _, _, _, _, h => by simp [partsR] at h
  | t :: X, i, dep, fr, out, r, hn, h1, h2, h3, hok, h => by
    simp only [List.length_cons] at hn
    have hsnoc : PartOk n (i + 1) (i + 1) (out ++ [(fr, i)]) := ⟨fun p hp => by
      rcases List.mem_append.1 hp with hp | hp
      · exact hok.all p hp
      · simp at hp; subst hp; exact ⟨h1, h2, by simp only; omega⟩, fun j p hj hp => by
      by_cases hjl : j < out.length
      · rw [List.getElem?_append_left hjl] at hp; exact hok.hd j p hj hp
      · rw [List.getElem?_append_right (by omega)] at hp
        have h0 : j - out.length = 0 := by
          have := (List.getElem?_eq_some_iff.1 hp).1
          simp at this; omega
        rw [h0] at hp
        simp at hp
        subst hp
        exact h3 (by intro e; rw [e] at h0; simp at h0; omega)⟩
    unfold partsR at h
    split at h
    · exact partsR_ok X (i + 1) (dep + 1) fr out r (by omega) h1 (by omega) h3 ⟨hok.all, hok.hd⟩ h
    · split at h
      · split at h
        · simp only [Option.some.injEq] at h
          subst h
          exact ⟨⟨hsnoc.all, hsnoc.hd⟩, by simp, by simp only; omega, by simp only; omega⟩
        · exact partsR_ok X (i + 1) (dep - 1) fr out r (by omega) h1 (by omega) h3 ⟨hok.all, hok.hd⟩ h
      · split at h
        · exact partsR_ok X (i + 1) dep (i + 1) (out ++ [(fr, i)]) r (by omega) (by omega) (Nat.le_refl _) (fun _ => by omega) hsnoc h
        · exact partsR_ok X (i + 1) dep fr out r (by omega) h1 (by omega) h3 ⟨hok.all, hok.hd⟩ h

theorem partsL_ok {X : List Tm} {r : List (Nat × Nat) × Nat} (h : partsL X = some r) : PartOk X.length X.length X.length r.1 ∧ r.1 ≠ [] ∧ 2 ≤ r.2 ∧ r.2 ≤ X.length := by
  cases X with
  | nil => simp [partsL] at h
  | cons t X =>
    by_cases ho : pOpen t = true
    · rw [show partsL (t :: X) = partsR X 1 1 1 [] from if_pos ho] at h
      exact partsR_ok (n := X.length + 1) X 1 1 1 [] r (by omega) (Nat.le_refl _) (Nat.le_refl _) (fun e => absurd rfl e) ⟨by simp, by simp⟩ h
    · rw [show partsL (t :: X) = none from if_neg ho] at h
      cases h

/-- what stands between brackets: arguments, the commas between, how many tokens -/
def argsOf (X : List Tf) (ps : List (Nat × Nat)) : List (List Tf) := ps.map fun p => (X.drop p.1).take (p.2 - p.1)
def commasOf (X : List Tf) (ps : List (Nat × Nat)) : List Tf := (ps.drop 1).filterMap fun p => X[p.1 - 1]?
def colL (X : List Tf) : Option (List (List Tf) × List Tf × Nat) := (partsL (X.map (·.1))).map fun r => (argsOf X r.1, commasOf X r.1, r.2)

/-- lists of tokens of the call's own -/
def OwnLs (XX : List (List Tf)) (B : Nat) (v : Value) (w : World) : Prop :=
  ∃ vs : List Value, Own w B 22 1 v (vs.map fun u => [u]) ∧ vs.length = XX.length ∧ ∀ (i : Nat) u X, vs[i]? = some u → XX[i]? = some X → OwnT X B u w
end Go.Proofs.YtfaoamdlknlgpaaGreat
