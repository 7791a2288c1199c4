/- macro's bad: may a token of the body not stand there? -/
import Derived.Test.YthbicbfdldpemaaMc2
import Derived.Test.YthbicbfdldpemaaMc4
namespace Go.Proofs.Ythbicbfdldpemaa
open Go.RowKit
set_option linter.unusedVariables false

set_option maxRecDepth 100000 in
set_option maxHeartbeats 1000000 in
theorem mBad_any (T : List (Tm × Value)) (i : Nat) (t : Tm) (sa : Option Addr) (sn sc : Nat) (hi : T[i]? = some (t, .slice sa sn sc)) (b : Nat) (name : ByteArray) (fn va : Bool) (file : ByteArray) (f tt : Int) (ps : List ByteArray) (pao bao : Option Addr) (pcap bcap : Nat) (fz : Nat × Nat) (hn : ps.length ≤ 1000000000) (hT : T.length ≤ 1000000) (hbc : T.length ≤ bcap) (w : World)
    (hprow : Row w 1 pao (ps.map fun p => [.string p])) (hbrow : Row w 8 bao (T.map tvC))
    (hb : w.heap[b]? = some (.cells (mcC name fn va (.slice pao ps.length pcap) (.slice bao T.length bcap) file f tt).toArray 29 fz)) :
    Calls Try.prog 45 #[.pointer (some ⟨b, 0, none⟩), .int .i64 i] w fun e w' => e = .returned (.bool (badAt fn va ps (T.map (·.1)) i t)) ∧ Below w.heap.size w w' := by
  have hlt : i < T.length := (List.getElem?_eq_some_iff.1 hi).1
  obtain ⟨rb, ro, rfl, hat⟩ := hbrow (by intro e; rw [List.map_eq_nil_iff] at e; rw [e] at hlt; simp at hlt)
  obtain ⟨t0, t1, t2, t3, t4, t5, t6, t7⟩ := tok8 (tok_at hat hi)
  obtain ⟨d0, d1, d2, d3, d4, d5, d6, d7⟩ := cells8 hb
  have HPa := fun w => mPaste_any t (.slice sa sn sc) w
  have HHa := fun w => mHash_any t (.slice sa sn sc) w
  have HOf := fun (q : Tm × Value) (w' : World) (hw : Below w.heap.size w w') => mOf_any q.1 q.2 b name fn va (.slice (some ⟨rb, ro, none⟩) T.length bcap) file f tt ps pao pcap fz hn w' (hprow.below hw) ((hw.block b (lt_of_block hb)).trans hb)
  obtain ⟨R, hR⟩ : ∃ R, R = badAt fn va ps (T.map (·.1)) i t := ⟨_, rfl⟩
  rw [← hR]
  unfold badAt at hR
  rw [List.length_map] at hR
  obtain ⟨x, hx⟩ : ∃ x, x = pasteP t := ⟨_, rfl⟩
  obtain ⟨y, hy⟩ : ∃ y, y = hashP t := ⟨_, rfl⟩
  simp only [← hx] at HPa hR
  simp only [← hy] at HHa hR
  obtain ⟨n, hnn⟩ : ∃ n, n = T.length := ⟨_, rfl⟩
  rw [← hnn] at d4 hb hR hlt hT hbc
  have HN : Hid (T.length = n) := Lib.hid hnn.symm
  unfold tmC at HPa HHa HOf
  replace HPa := Lib.hid HPa
  replace HHa := Lib.hid HHa
  replace HOf := Lib.hid HOf
  replace hR := Lib.hid hR
  replace hat := Lib.hid hat
  replace hi := Lib.hid hi
  have hw1 : IntKind.i64.wrap ((n : Int) - 1) = (n : Int) - 1 := IntWalk.i64_in _ (by omega)
  clear hbrow hprow hx hy hnn
  have ho : ∀ o, Below w.heap.size w (w.alloc o) := fun o => (Below.refl _ w).alloc (Nat.le_refl _) o
  have e0 := fun o => kept_cell (ho o) d0
  have s0 := fun o => kept_cell (ho o) t0
  have e1 := fun o => kept_cell (ho o) d1
  have s1 := fun o => kept_cell (ho o) t1
  have e2 := fun o => kept_cell (ho o) d2
  have s2 := fun o => kept_cell (ho o) t2
  have e3 := fun o => kept_cell (ho o) d3
  have s3 := fun o => kept_cell (ho o) t3
  have e4 := fun o => kept_cell (ho o) d4
  have s4 := fun o => kept_cell (ho o) t4
  have e5 := fun o => kept_cell (ho o) d5
  have s5 := fun o => kept_cell (ho o) t5
  have e6 := fun o => kept_cell (ho o) d6
  have s6 := fun o => kept_cell (ho o) t6
  have e7 := fun o => kept_cell (ho o) d7
  have s7 := fun o => kept_cell (ho o) t7
  go_enter Try.func45, Try.ntmps45
  go_wp2_with fail
  go_region
  have hA : Below w.heap.size w (w.alloc (.cells #[.int .i64 t.kind, .string t.text, .bool t.sp, .string t.file, .int .i64 t.f, .int .i64 t.t, .bool t.made, .slice sa sn sc] 43)).drew := (ho _).drew
  clear s0 s1 s2 s3 s4 s5 s6 s7 e0 e1 e2 e3 e4 e5 e6 e7
  go_wp2_with fail
  refine (HPa.out _).mono ?_
  rintro e w2 ⟨rfl, hb2⟩
  have hB := hA.trans (hb2.mono hA.size)
  obtain ⟨m0, m1, m2, m3, m4, m5, m6, m7⟩ := cells8 ((hb2.block w.heap.size (by simp)).trans (heap_alloc_new w _))
  obtain ⟨g0, g1, g2, g3, g4, g5, g6, g7⟩ := cells8 ((hB.block b (lt_of_block hb)).trans hb)
  cases x with
  | true =>
    have f0 : ((i : Int) == 0) = decide (i = 0) := by rw [Bool.eq_iff_iff]; simp
    have f1 : ((i : Int) == (n : Int) - 1) = decide (i + 1 = n) := by rw [Bool.eq_iff_iff]; simp; omega
    have hRR : R = (decide (i = 0) || decide (i + 1 = n)) := by rw [hR.out]; simp
    replace hRR := Lib.hid hRR
    by_cases h0 : i = 0
    · rw [decide_eq_true h0] at f0
      replace h0 := Lib.hid h0
      go_wp2
      go_ret
      exact ⟨by rw [hRR.out]; simp [h0.out], hB⟩
    · rw [decide_eq_false h0] at f0
      go_wp2
      go_ret
      exact ⟨by rw [hRR.out]; simp [h0], hB⟩
  | false =>
    cases fn with
    | false =>
      have HB := hB
      by_cases hk : t.kind = 1
      · by_cases ht : t.text = restN
        · have htb : (t.text.toList == [95, 95, 86, 65, 95, 65, 82, 71, 83, 95, 95]) = true := by rw [beq_text]; exact decide_eq_true ht
          have hRR : R = !va := by rw [hR.out]; simp [hk, ht]
          rw [hk] at m0
          replace hk := Lib.hid hk
          replace ht := Lib.hid ht
          replace hRR := Lib.hid hRR
          go_wp2
          go_ret
          exact ⟨by rw [hRR.out]; rfl, HB⟩
        · have htb : (t.text.toList == [95, 95, 86, 65, 95, 65, 82, 71, 83, 95, 95]) = false := by rw [beq_text]; exact decide_eq_false ht
          have hRR : R = false := by rw [hR.out]; simp [hk, ht]
          rw [hk] at m0
          replace hk := Lib.hid hk
          replace ht := Lib.hid ht
          replace hRR := Lib.hid hRR
          go_wp2
          go_ret
          exact ⟨by rw [hRR.out]; rfl, HB⟩
      · have hkb : (t.kind == 1) = false := by simpa using hk
        have hRR : R = false := by rw [hR.out]; simp [hk]
        replace hk := Lib.hid hk
        replace hRR := Lib.hid hRR
        go_wp2
        go_ret
        exact ⟨by rw [hRR.out]; rfl, HB⟩
    | true =>
      go_wp2_with fail
      refine (HHa.out _).mono ?_
      rintro e w3 ⟨rfl, hb3⟩
      have HB := hB.trans (hb3.mono hB.size)
      clear m0 m1 m2 m3 m4 m5 m6 m7 g0 g1 g2 g3 g4 g5 g6 g7
      obtain ⟨m0, m1, m2, m3, m4, m5, m6, m7⟩ := cells8 (((hb2.trans (hb3.mono hb2.size)).block w.heap.size (by simp)).trans (heap_alloc_new w _))
      obtain ⟨g0, g1, g2, g3, g4, g5, g6, g7⟩ := cells8 ((HB.block b (lt_of_block hb)).trans hb)
      cases y with
      | true =>
        have f1 : ((i : Int) == (n : Int) - 1) = decide (i + 1 = n) := by rw [Bool.eq_iff_iff]; simp; omega
        by_cases h1 : i + 1 = n
        · have hRR : R = true := by rw [hR.out]; simp [h1]
          rw [decide_eq_true h1] at f1
          replace h1 := Lib.hid h1
          replace hRR := Lib.hid hRR
          go_wp2
          go_ret
          exact ⟨by rw [hRR.out]; rfl, HB⟩
        · obtain ⟨q, hq⟩ : ∃ q, T[i + 1]? = some q := ⟨T[i + 1]'(by rw [HN.out]; omega), by simp⟩
          have hRR : R = decide (ofP true ps q.1 < 0) := by rw [hR.out]; simp [h1, hq]
          rw [decide_eq_false h1] at f1
          obtain ⟨q0, q1, q2, q3, q4, q5, q6, q7⟩ := tok8 (tok_at (hat.out.below HB) hq)
          have HO := HOf.out q w3 HB
          obtain ⟨z, hz⟩ : ∃ z, z = ofP true ps q.1 := ⟨_, rfl⟩
          rw [← hz] at hRR HO
          have hi1 : (i : Int) + 1 < n := by omega
          have hi0 : (0 : Int) ≤ (i : Int) + 1 := by omega
          have hit : ((i : Int) + 1).toNat = i + 1 := by omega
          replace h1 := Lib.hid h1
          replace hRR := Lib.hid hRR
          replace hz := Lib.hid hz
          replace hq := Lib.hid hq
          replace HO := Lib.hid HO
          go_wp2_with fail
          refine HO.out.mono ?_
          rintro e w4 ⟨rfl, hb4⟩
          go_wp2
          go_ret
          exact ⟨by rw [hRR.out]; rfl, HB.trans (hb4.mono HB.size)⟩
      | false =>
        by_cases hk : t.kind = 1
        · by_cases ht : t.text = restN
          · have htb : (t.text.toList == [95, 95, 86, 65, 95, 65, 82, 71, 83, 95, 95]) = true := by rw [beq_text]; exact decide_eq_true ht
            have hRR : R = !va := by rw [hR.out]; simp [hk, ht]
            rw [hk] at m0
            replace hk := Lib.hid hk
            replace ht := Lib.hid ht
            replace hRR := Lib.hid hRR
            go_wp2
            go_ret
            exact ⟨by rw [hRR.out]; rfl, HB⟩
          · have htb : (t.text.toList == [95, 95, 86, 65, 95, 65, 82, 71, 83, 95, 95]) = false := by rw [beq_text]; exact decide_eq_false ht
            have hRR : R = false := by rw [hR.out]; simp [hk, ht]
            rw [hk] at m0
            replace hk := Lib.hid hk
            replace ht := Lib.hid ht
            replace hRR := Lib.hid hRR
            go_wp2
            go_ret
            exact ⟨by rw [hRR.out]; rfl, HB⟩
        · have hkb : (t.kind == 1) = false := by simpa using hk
          have hRR : R = false := by rw [hR.out]; simp [hk]
          replace hk := Lib.hid hk
          replace hRR := Lib.hid hRR
          go_wp2
          go_ret
          exact ⟨by rw [hRR.out]; rfl, HB⟩
end Go.Proofs.Ythbicbfdldpemaa
