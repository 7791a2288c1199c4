/- Texts of this seat's proofs, laid into one file. -/
import Derived.Test.YthbicbfdldpemaaMacroFormsDoneG2
import Derived.Test.YthbicbfdldpemaaMacroFormsDoneG1
import Derived.Test.YthbicbfdldpemaaShelf
/- Chapter 4: what phase.Trigraph, one, stand, Chars, Back and the reference's like compute. -/
namespace Go.Proofs.Ythbicbfdldpemaa
open Go.RowKit

def froms : List UInt8 := [61, 47, 39, 40, 41, 33, 60, 62, 45]
def tos : List UInt8 := [35, 92, 94, 91, 93, 124, 123, 125, 126]

theorem all_u8 (p : UInt8 → Bool) (h : (List.range 256).all (fun n => p n.toUInt8) = true) (c : UInt8) : p c = true := by
  have := List.all_eq_true.1 h c.toNat (by simpa using c.toNat_lt)
  simpa using this

theorem ix_cases (c : UInt8) : (tri c = none ∧ Lib.indexByte froms c = -1) ∨ ∃ k : Nat, k < 9 ∧ Lib.indexByte froms c = (k : Int) ∧ tri c = tos[k]? := by
  have := all_u8 (fun c => (tri c = none && Lib.indexByte froms c = -1) || (List.range 9).any (fun k => Lib.indexByte froms c = (k : Int) && tri c = tos[k]?)) (by decide +kernel) c
  simpa using this

theorem idx_froms {c : UInt8} {n : Int} (h : Lib.indexByte froms c = n) (w : World) :
    Calls Try.prog 112 #[.string ⟨#[61, 47, 39, 40, 41, 33, 60, 62, 45]⟩, .int .u8 c.toNat] w fun e w' => e = .returned (.int .i64 n) ∧ w = w' := by
  subst h
  refine (Try.strings_IndexByte _ _ _).mono ?_
  rintro e w' ⟨rfl, rfl⟩
  refine ⟨?_, rfl⟩
  simp [froms]

set_option maxHeartbeats 400000 in
theorem trigraph_any (c : UInt8) (w : World) :
    Calls Try.prog 109 #[.int .u8 c.toNat] w fun e w' => e = .returned (.tuple #[.int .u8 ((tri c).getD 0).toNat, .bool (tri c).isSome]) ∧ w = w' := by
  rcases ix_cases c with ⟨h1, h2⟩ | ⟨k, hk, h2, h3⟩
  · have H := Lib.hid h2; clear h2
    go_enter Try.func109, Try.ntmps109
    go_wp2_with (go_at_call 112; refine (idx_froms H.out _).mono ?_; rintro e w' ⟨rfl, rfl⟩)
    go_ret2
    exact ⟨by rw [h1]; rfl, rfl⟩
  · have H := Lib.hid h2; clear h2
    have H3 := Lib.hid h3; clear h3
    go_enter Try.func109, Try.ntmps109
    go_wp2_with (go_at_call 112; refine (idx_froms H.out _).mono ?_; rintro e w' ⟨rfl, rfl⟩)
    go_ret2
    have e : tri c = some (tos[k]'hk) := by rw [H3.out]; exact List.getElem?_eq_getElem hk
    exact ⟨by rw [e]; rfl, rfl⟩

theorem tri_hit : ∀ (k : Nat) (hk : k < 9) (c : UInt8), froms[k]'hk = c → tri c = some (tos[k]'hk) := by
  intro k hk c hc
  subst hc
  revert k; decide +kernel

theorem tri_miss (c : UInt8) (h : ∀ k (hk : k < 9), froms[k]'hk ≠ c) : tri c = none := by
  have := all_u8 (fun c => tri c = none || (List.range 9).any (fun k => froms[k]? = some c)) (by decide +kernel) c
  simp only [Bool.or_eq_true, decide_eq_true_eq, List.any_eq_true, List.mem_range] at this
  rcases this with h1 | ⟨k, hk, h1⟩
  · exact h1
  · rw [List.getElem?_eq_getElem (show k < froms.length from hk)] at h1
    exact (h k hk (Option.some.inj h1)).elim

theorem u8_eq {a b : UInt8} (h : ((a.toNat : Int) == (b.toNat : Int)) = true) : a = b := by
  have := of_decide_eq_true h
  exact UInt8.toNat_inj.1 (by omega)

theorem u8_ne {a b : UInt8} (h : ((a.toNat : Int) == (b.toNat : Int)) = false) : a ≠ b := by
  intro e
  subst e
  simp at h

set_option maxHeartbeats 400000 in
theorem rtri_any (c : UInt8) (w : World) :
    Calls Try.prog 83 #[.int .u8 c.toNat] w fun e w' => e = .returned (.tuple #[.int .u8 ((tri c).getD 0).toNat, .bool (tri c).isSome]) ∧ w = w' := by
  go_enter Try.func83, Try.ntmps83
  go_wp2
  go_loop [4] (fun i => ∃ k : Nat, k ≤ 9 ∧ i = .int .i64 k ∧ ∀ j (hj : j < 9), j < k → froms[j]'hj ≠ c) (fun i => 9 - (intOf i).toNat)
  case atStart => exact ⟨0, Nat.zero_le _, rfl, by omega⟩
  case round =>
    obtain ⟨k, hk, rfl, hno⟩ := hrel
    by_cases hlt : k < 9
    · have H := Lib.hid hno; clear hno
      go_wp2
      · go_ret2
        have e : tri c = some (tos[k]'hlt) := tri_hit k hlt c (u8_eq (by assumption))
        exact ⟨by rw [e]; rfl, rfl⟩
      · have hne := u8_ne (a := froms[k]'hlt) (b := c) (by assumption)
        go_round
        case rel =>
          refine ⟨k + 1, by omega, by go_num, fun j hj hjk => ?_⟩
          by_cases e : j = k
          · subst e; exact hne
          · exact H.out j hj (by omega)
        case measure => simp [intOf]; omega
    · have H := Lib.hid hno; clear hno
      go_wp2
      go_ret2
      have e : tri c = none := tri_miss c fun j hj => H.out j hj (by omega)
      exact ⟨by rw [e]; rfl, rfl⟩

def Rn.v (r : Rn) : List Value := [.int .u8 r.c.toNat, .int .i64 r.f, .int .i64 r.t]

theorem hp_any (s : ByteArray) (k : Nat) (w : World) :
    Calls Try.prog 108 #[.string (s.extract k s.size), .string ⟨#[63, 63]⟩] w fun e w' => e = .returned (.bool (hp2 (s.data.toList.drop k))) ∧ w = w' := by
  refine (Try.strings_HasPrefix _ _ _).mono ?_
  rintro e w' ⟨rfl, rfl⟩
  refine ⟨?_, rfl⟩
  rw [Lib.extract_data, List.take_of_length_le (by rw [List.length_drop, Lib.size_eq]; exact Nat.le_refl _)]
  rfl

theorem ba_at (s : ByteArray) (k : Nat) (hk : k < s.size) : s.data.toList[k]? = some (s[k]'hk) := by
  have h : k < s.data.toList.length := by rw [← Lib.size_eq]; exact hk
  rw [List.getElem?_eq_getElem h]; rfl

theorem oneAt_no {s : ByteArray} {k : Nat} (hk : k < s.size) (h : hp2 (s.data.toList.drop k) = false) : oneAt s.data.toList k = ⟨s[k]'hk, k, k + 1⟩ := by
  unfold oneAt
  rw [h, List.getD_eq_getElem?_getD, ba_at s k hk]; rfl

theorem hp2_iff (l : List UInt8) : hp2 l = true ↔ l[0]? = some 63 ∧ l[1]? = some 63 := by
  match l with
  | [] => simp [hp2]
  | [a] => simp [hp2, List.isPrefixOf]
  | a :: b :: r => simp [hp2, List.isPrefixOf]; constructor <;> rintro ⟨h1, h2⟩ <;> exact ⟨h1.symm, h2.symm⟩

theorem oneAt_hit {s : ByteArray} {k : Nat} (hk : k + 2 < s.size) (h : hp2 (s.data.toList.drop k) = true) (ht : (tri (s[k + 2]'hk)).isSome = true) : oneAt s.data.toList k = ⟨(tri (s[k + 2]'hk)).getD 0, k, k + 3⟩ := by
  obtain ⟨d, hd⟩ := Option.isSome_iff_exists.1 ht
  unfold oneAt
  rw [h, ba_at s _ hk, hd]
  simp [hd]

theorem oneAt_q {s : ByteArray} {k : Nat} (hk : k < s.size) (h : hp2 (s.data.toList.drop k) = true) : s[k]'hk = 63 := by
  have := ((hp2_iff _).1 h).1
  rw [List.getElem?_drop, Nat.add_zero, ba_at s k hk] at this
  exact Option.some.inj this

theorem oneAt_miss {s : ByteArray} {k : Nat} (hk : k + 2 < s.size) (h : hp2 (s.data.toList.drop k) = true) (ht : (tri (s[k + 2]'hk)).isSome = false) : oneAt s.data.toList k = ⟨s[k]'(by omega), k, k + 1⟩ := by
  rw [oneAt_q (by omega) h]
  unfold oneAt
  rw [h, ba_at s _ hk]
  have : tri (s[k + 2]'hk) = none := by simpa using ht
  simp [this]

theorem oneAt_end {s : ByteArray} {k : Nat} (hk : k < s.size) (hk2 : ¬ k + 2 < s.size) (h : hp2 (s.data.toList.drop k) = true) : oneAt s.data.toList k = ⟨s[k]'hk, k, k + 1⟩ := by
  rw [oneAt_q hk h]
  unfold oneAt
  rw [h, List.getElem?_eq_none (by rw [← Lib.size_eq]; omega)]
  rfl

set_option maxHeartbeats 400000 in
theorem one_any (s : ByteArray) (k : Nat) (hk : k < s.size) (hs : s.size ≤ 1000000) (w : World) :
    Calls Try.prog 95 #[.string s, .int .i64 k] w fun e w' => e = .returned (.agg (oneAt s.data.toList k).v.toArray) ∧ Below w.heap.size w w' := by
  cases hp : hp2 (s.data.toList.drop k)
  · have H := Lib.hid hp; clear hp
    go_enter Try.func95, Try.ntmps95
    go_wp2_with (go_at_call 108; refine (hp_any _ _ _).mono ?_; rintro e w' ⟨rfl, rfl⟩; rw [H.out])
    refine bodyPost_ret ?_ rfl ⟨rfl, (Below.refl _ _).alloc (Nat.le_refl _) _⟩
    rw [oneAt_no hk H.out]
    simp [results, Try.results95, go_sem, Rn.v]
  · have H := Lib.hid hp; clear hp
    go_enter Try.func95, Try.ntmps95
    go_wp2_with (first | (go_at_call 108; refine (hp_any _ _ _).mono ?_; rintro e w' ⟨rfl, rfl⟩; rw [H.out]) | (go_at_call 109; refine (trigraph_any _ _).mono ?_; rintro e w' ⟨rfl, rfl⟩))
    · refine bodyPost_ret ?_ rfl ⟨rfl, (Below.refl _ _).alloc (Nat.le_refl _) _⟩
      rw [oneAt_hit (by omega) H.out (by assumption)]
      simp [results, Try.results95, go_sem, Rn.v]
    · refine bodyPost_ret ?_ rfl ⟨rfl, (Below.refl _ _).alloc (Nat.le_refl _) _⟩
      rw [oneAt_miss (by omega) H.out (by assumption)]
      simp [results, Try.results95, go_sem, Rn.v]
    · refine bodyPost_ret ?_ rfl ⟨rfl, (Below.refl _ _).alloc (Nat.le_refl _) _⟩
      rw [oneAt_end hk (by omega) H.out]
      simp [results, Try.results95, go_sem, Rn.v]

theorem E26 : EI Try.prog 91 97 (.agg #[.int .u8 0, .int .i64 0, .int .i64 0]) 3 24 := ⟨Try.underlying91, by kernel_rfl, rfl, by decide⟩

theorem one_any' {s : ByteArray} {k : Nat} {r : Rn} (hk : k < s.size) (hs : s.size ≤ 1000000) (hr : oneAt s.data.toList k = r) (w : World) :
    Calls Try.prog 95 #[.string s, .int .i64 k] w fun e w' => e = .returned (.agg #[.int .u8 r.c.toNat, .int .i64 r.f, .int .i64 r.t]) ∧ Below w.heap.size w w' := by
  subst hr
  exact one_any s k hk hs w

set_option maxHeartbeats 1000000 in
theorem stand_any (s : ByteArray) (hs : s.size ≤ 1000000) (w : World) :
    Calls Try.prog 74 #[.string s] w fun e w' => ∃ v, e = .returned v ∧ Own w' w.heap.size 97 3 v ((standL s.data.toList).map Rn.v) ∧ Below w.heap.size w w' := by
  go_enter Try.func74, Try.ntmps74
  go_wp2
  refine wp_scope_loop 0 (fun a' wr => ∃ (k : Nat) (acc : List Rn) (v u4 u5 u6 u7 u8 u9 u10 u11 u12 u13 u14 u15 u16 u17 u18 u19 u20 u21 u22 u23 u24 u25 u26 u27 u28 u29 u30 u31 u32 u33 u34 u35 : Value), a' = { tmps := #[.string s, undef, v, .int .i64 k, u4, u5, u6, u7, u8, u9, u10, u11, u12, u13, u14, u15, u16, u17, u18, u19, u20, u21, u22, u23, u24, u25, u26, u27, u28, u29, u30, u31, u32, u33, u34, u35], defers := [] } ∧
    k ≤ s.size ∧ Own wr w.heap.size 97 3 v (acc.map Rn.v) ∧ acc.length ≤ k ∧ acc ++ standAt s.data.toList k = standL s.data.toList ∧ Below w.heap.size w wr)
    (fun a' _ => s.size - (intOf (a'.tmps.getD 3 undef)).toNat) rfl ?_ ?_
  · intro Rst
    go_wp2
    go_step3
    go_step
    go_step
    exact Rst.out _ _ ⟨0, [], _, _, _, _, _, _, _, _, _, _, _, _, _, _, _, _, _, _, _, _, _, _, _, _, _, _, _, _, _, _, _, _, _, rfl, Nat.zero_le _, Own.nil _ _ _ _, Nat.le_refl _, (standL_eq _).symm, Below.refl _ _⟩
  · rintro a' wr ⟨k, acc, v, u4, u5, u6, u7, u8, u9, u10, u11, u12, u13, u14, u15, u16, u17, u18, u19, u20, u21, u22, u23, u24, u25, u26, u27, u28, u29, u30, u31, u32, u33, u34, u35, rfl, hk, hown, hacc, hst, hb⟩
    have Hst := Lib.hid hst; clear hst
    by_cases hlt : k < s.size
    · obtain ⟨r, hr⟩ : ∃ r, oneAt s.data.toList k = r := ⟨_, rfl⟩
      have hL : k < s.data.toList.length := by rw [← Lib.size_eq]; exact hlt
      have hr0 := oneAt_lt hL
      rw [hr, ← Lib.size_eq] at hr0
      obtain ⟨hf, hr1, hr2, _⟩ := hr0
      have Hr := Lib.hid hr; clear hr
      obtain ⟨c, f, t⟩ := r
      simp only at hf hr1 hr2
      have hf' := hf.symm; clear hf; subst hf'
      have HL := Lib.hid hL; clear hL
      go_wp2_with (first
        | (go_at_call 95; refine (one_any' hlt hs Hr.out _).mono ?_; rintro e w' ⟨rfl, hb1⟩)
        | (at_builtin; go_must (refine wpList_append1 E26 rfl rfl ((hown.below hb1).alloc _) rfl rfl (by simp) rfl (by simp [Value.oneCell']) (by simp; omega) (by decide) (by have := hb1.size; have := hb.size; simp; omega) ?_); intro v2 w2 hown2 hg2))
      · go_step3
        have h92 : (c.toNat : Int) = 92 := by assumption
        have hts : t < s.size := by assumption
        have h10 := u8_beq (a := s[t]) (n := 10) (by assumption)
        refine ⟨rfl, ⟨t + 1, acc, v, _, _, _, _, _, _, _, _, _, _, _, _, _, _, _, _, _, _, _, _, _, _, _, _, _, _, _, _, _, _, _, _, rfl, by omega, ?_, by omega, ?_, ?_⟩, ?_⟩
        · exact (hown.below hb1).alloc _
        · rw [← Hst.out, standAt_skip HL.out (by rw [Hr.out]; exact u8_of (by decide) h92) (by rw [Hr.out, ← Lib.size_eq]; exact hts) (by rw [Hr.out, List.getD_eq_getElem?_getD, ba_at s t hts]; exact u8_of (by decide) h10), Hr.out]
        · exact (bstep hb hb1 hb.size).alloc (by have := hb1.size; have := hb.size; omega) _
        · simp [intOf]; omega
      all_goals
        go_step3
        refine ⟨rfl, ⟨t, acc ++ [⟨c, k, t⟩], v2, _, _, _, _, _, _, _, _, _, _, _, _, _, _, _, _, _, _, _, _, _, _, _, _, _, _, _, _, _, _, _, _, rfl, by omega, ?_, by simp; omega, ?_, ?_⟩, ?_⟩
        · rw [List.map_append]
          exact hown2.last (by simp [Rn.v, *])
        · rw [← Hst.out, standAt_keep HL.out ?_, Hr.out, List.append_assoc]; rfl
          rw [Hr.out]
          rintro ⟨h1, h2, h3⟩
          simp only at h1 h2 h3
          rw [← Lib.size_eq] at h2
          rw [List.getD_eq_getElem?_getD, ba_at s t h2] at h3
          simp only [Option.getD_some] at h3
          subst h1
          simp_all
        · exact bapp ((bstep hb hb1 hb.size).alloc (by have := hb1.size; have := hb.size; omega) _) ((hown.below hb1).alloc _) hg2 (by have := hb1.size; have := hb.size; simp; omega)
        · simp [intOf]; omega
    · go_wp2
      simp only [Exit.jump]
      go_ret
      refine ⟨v, rfl, ?_, hb⟩
      have := Hst.out
      rw [standAt_end (by rw [← Lib.size_eq]; omega), List.append_nil] at this
      rw [← this]; exact hown

end Go.Proofs.Ythbicbfdldpemaa
