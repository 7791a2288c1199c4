/- Trees: write. -/
import Derived.Test.YtcafiaoinonpgaaTreeSpec
import Derived.Test.YtcafiaoinonpgaaBuilder
namespace Go.Proofs.Ytcafiaoinonpgaa
open Go.RowKit
set_option linter.unusedVariables false

theorem bdata (a b : ByteArray) : (a ++ b).data.toList = a.data.toList ++ b.data.toList := by
  obtain ⟨⟨l⟩⟩ := a
  obtain ⟨⟨m⟩⟩ := b
  rw [ByteArray.data_append]
  simp

theorem bempty (t : ByteArray) : t.toList.isEmpty = decide (t.size = 0) := by
  rw [Lib.toList_data, Lib.size_eq]
  cases t.data.toList <;> simp

theorem bsize_cons (c : UInt8) (k : ByteArray) : ((⟨#[c]⟩ : ByteArray) ++ k).size = k.size + 1 := by
  rw [ByteArray.size_append, Nat.add_comm]
  rfl

theorem touts_take {ks : List T} {j : Nat} {x : T} (h : ks[j]? = some x) : T.outs (ks.take (j + 1)) = T.outs (ks.take j) ++ (32 :: T.out x) := by
  rw [List.take_add_one, h, T.outs_append]; simp [T.outs]

theorem touts_at {ks : List T} {j : Nat} {x : T} (h : ks[j]? = some x) : T.outs ks = T.outs (ks.take j) ++ (32 :: T.out x ++ T.outs (ks.drop (j + 1))) := by
  conv => lhs; rw [← List.take_append_drop (j + 1) ks]
  rw [T.outs_append, touts_take h]; simp

theorem touts_room {ks : List T} {j n : Nat} {x : T} (h : ks[j]? = some x) (hn : n + (T.outs ks).length + 1 ≤ 1000000000) : n + (T.outs (ks.take j)).length + (T.out x).length + 2 ≤ 1000000000 := by
  rw [touts_at h] at hn
  simp only [List.length_append, List.length_cons] at hn
  omega

theorem touts_len (ks : List T) : ks.length ≤ (T.outs ks).length := by
  induction ks with
  | nil => simp
  | cons x ks ih => simp only [T.outs, List.length_append, List.length_cons]; omega

theorem touts_take_len (ks : List T) (j : Nat) : (T.outs (ks.take j)).length ≤ (T.outs ks).length := by
  conv => rhs; rw [← List.take_append_drop j ks]
  rw [T.outs_append]; simp

set_option maxHeartbeats 2000000 in
set_option maxRecDepth 100000 in
theorem twrite_any (w : World) (B b : Nat) (hB : B ≤ w.heap.size) : ∀ (t : T) (cs : List Value) (pb po : Nat) (l : List UInt8) (w1 : World), Rep w (· < B) t cs → (∀ w', Kb B b w w' → ∀ (j : Nat) (u : Value), cs[j]? = some u → w'.cell? ⟨pb, po + j, none⟩ = some u) → Kb B b w w1 → Bld w1 B b l → l.length + (T.out t).length ≤ 1000000000 →
    Calls Try.prog 32 #[.pointer (some ⟨b, 0, none⟩), .pointer (some ⟨pb, po, none⟩)] w1 fun e w2 => e = .returned (.tuple #[]) ∧ Bld w2 B b (l ++ T.out t) ∧ Kb B b w1 w2 := by
  intro t
  induction t using T.ind with
  | h k t f o ks ih =>
    intro cs pb po l w1 hrep hp hk hb hl
    cases hrep with
    | @mk _ _ _ _ _ ao cap css hks hrow hc =>
      have hlen : l.length + k.size + t.size + (if t.size = 0 then 0 else 1) + (T.outs ks).length + 2 ≤ 1000000000 := by
        have e1 := Lib.size_eq k
        have e2 := Lib.size_eq t
        simp only [T.out, List.length_append, List.length_cons, List.length_nil] at hl
        by_cases ht : t.size = 0
        · rw [if_pos ht] at hl ⊢; simp only [List.length_nil] at hl; omega
        · rw [if_neg ht] at hl ⊢; simp only [List.length_cons] at hl; omega
      have hkn : ks.length ≤ 1000000000 := by have := touts_len ks; omega
      have c0 := hp w1 hk 0 _ rfl
      have c1 := hp w1 hk 1 _ rfl
      have c4 := hp w1 hk 4 _ rfl
      simp only [Nat.add_zero] at c0
      go_enter Try.func32, Try.ntmps32
      go_wp2_with fail
      refine (bld_str hb (by omega) _ (by rw [bsize_cons]; omega) (Nat.le_trans hB hk.below.size)).mono ?_
      rintro e w2 ⟨rfl, hb2, hk2⟩
      have hkk := hk.trans hk2
      have c1 := hp w2 hkk 1 _ rfl
      have c4 := hp w2 hkk 4 _ rfl
      clear c0
      rw [bdata] at hb2
      have hb2 : Bld w2 B b (l ++ 40 :: k.data.toList) := hb2
      have HK := Lib.hid (Lib.size_eq k)
      have HT := Lib.hid (Lib.size_eq t)
      have HP := Lib.hid hp
      have HL : Hid (T.out (.mk k t f o ks) = 40 :: k.data.toList ++ (if t.size = 0 then [] else 32 :: t.data.toList) ++ T.outs ks ++ [41]) := Lib.hid (by simp [T.out])
      clear hp
      by_cases ht : t.size = 0
      · have hte : t.toList.isEmpty = true := by rw [bempty]; simpa using ht
        rw [if_pos ht] at HL hlen
        go_wp2_with fail
        obtain ⟨w3, hw3⟩ : ∃ w3, w3 = w2 := ⟨_, rfl⟩
        rw [← hw3] at hb2 hk2 hkk c4 c1 ⊢
        clear hw3 c1
        obtain ⟨l3, hl3⟩ : ∃ l3, l3 = l ++ 40 :: k.data.toList := ⟨_, rfl⟩
        rw [← hl3] at hb2
        have hl3n : l3.length + (T.outs ks).length + 1 ≤ 1000000000 := by rw [hl3]; have := HK.out; have := HT.out; simp only [List.length_append, List.length_cons]; omega
        have HL3 : Hid (l ++ T.out (.mk k t f o ks) = l3 ++ T.outs ks ++ [41]) := Lib.hid (by rw [HL.out, hl3]; simp)
        clear hl3 HL hte ht hl c4
        have HB := hb2; have HK1 := hkk; have HK2 := hk2
        clear hb2 hkk hk2
        go_loopw [29] (fun i wr => ∃ j : Nat, j ≤ ks.length ∧ i = .int .i64 j ∧ Bld wr B b (l3 ++ T.outs (ks.take j)) ∧ Kb B b w wr ∧ Kb B b w1 wr) (fun i _ => ks.length - (intOf i).toNat)
        case atStart => exact ⟨0, Nat.zero_le _, rfl, by simpa [T.outs] using HB, HK1, HK2⟩
        case round =>
          obtain ⟨j, hj, rfl, hbj, hkj, hk1j⟩ := hrel
          have c4 := HP.out wr hkj 4 _ rfl
          clear HB HK1 HK2
          by_cases hlt : j < ks.length
          · obtain ⟨x, hx⟩ : ∃ x, ks[j]? = some x := ⟨ks[j], by simp [hlt]⟩
            obtain ⟨xc, hxc, hxr⟩ := hks.at hx
            obtain ⟨kb, ko, rfl, hkB, hat⟩ := hrow (by intro h0; have := hks.len; rw [h0] at this; simp at this; omega)
            have HN : Hid (T.outs (ks.take (j + 1)) = T.outs (ks.take j) ++ (32 :: T.out x)) := Lib.hid (touts_take hx)
            have hxm := List.mem_of_getElem? hx
            have hn1 : l3.length + (T.outs (ks.take j)).length + (T.out x).length + 2 ≤ 1000000000 := touts_room hx hl3n
            clear hx
            go_wp2_with fail
            refine (bld_byte hbj (by rw [List.length_append]; omega) (Nat.le_trans hB hkj.below.size) 32).mono ?_
            rintro e w5 ⟨rfl, hb5, hk5⟩
            have hkj5 := hkj.trans hk5
            have c4 := HP.out w5 hkj5 4 _ rfl
            go_wp2_with fail
            refine (ih x hxm xc kb (ko + j * 5) _ w5 hxr (fun w' hw' jj u hu => hw'.below.cell (p := ⟨kb, ko + j * 5 + jj, none⟩) hkB |>.trans (hat.cell hxc hu)) hkj5 hb5 (by simp only [List.length_append, List.length_cons, List.length_nil]; omega)).mono ?_
            rintro e w6 ⟨rfl, hb6, hk6⟩
            go_wp2_with fail
            refine ⟨⟨j + 1, by omega, by go_num, by rw [HN.out]; simpa using hb6, hkj5.trans hk6, (hk1j.trans hk5).trans hk6⟩, by simp [intOf]; omega⟩
          · go_wp2_with fail
            refine (bld_byte hbj (by have := touts_take_len ks j; rw [List.length_append]; omega) (Nat.le_trans hB hkj.below.size) 41).mono ?_
            rintro e w5 ⟨rfl, hb5, hk5⟩
            go_wp2
            go_end0
            refine ⟨rfl, ?_, hk1j.trans hk5⟩
            rw [show j = ks.length by omega, List.take_length] at hb5
            rw [HL3.out]
            exact hb5
      · have hte : t.toList.isEmpty = false := by rw [bempty]; simpa using ht
        rw [if_neg ht] at HL hlen
        go_wp2_with fail
        refine (bld_str hb2 (by have := HK.out; simp only [List.length_append, List.length_cons]; omega) _ (by rw [bsize_cons]; omega) (Nat.le_trans hB hkk.below.size)).mono ?_
        rintro e w3 ⟨rfl, hb3, hk3⟩
        have hk23 := hk2.trans hk3
        have hkk3 := hkk.trans hk3
        have c4 := HP.out w3 hkk3 4 _ rfl
        rw [bdata] at hb3
        have hb3 : Bld w3 B b (l ++ 40 :: k.data.toList ++ 32 :: t.data.toList) := hb3
        clear hb2 hkk c1 hk2 hk3
        go_wp2_with fail
        obtain ⟨l3, hl3⟩ : ∃ l3, l3 = l ++ 40 :: k.data.toList ++ 32 :: t.data.toList := ⟨_, rfl⟩
        rw [← hl3] at hb3
        have hl3n : l3.length + (T.outs ks).length + 1 ≤ 1000000000 := by rw [hl3]; have := HK.out; have := HT.out; simp only [List.length_append, List.length_cons]; omega
        have HL3 : Hid (l ++ T.out (.mk k t f o ks) = l3 ++ T.outs ks ++ [41]) := Lib.hid (by rw [HL.out, hl3]; simp)
        clear hl3 HL hte ht hl c4
        have HB := hb3; have HK1 := hkk3; have HK2 := hk23
        clear hb3 hkk3 hk23
        go_loopw [29] (fun i wr => ∃ j : Nat, j ≤ ks.length ∧ i = .int .i64 j ∧ Bld wr B b (l3 ++ T.outs (ks.take j)) ∧ Kb B b w wr ∧ Kb B b w1 wr) (fun i _ => ks.length - (intOf i).toNat)
        case atStart => exact ⟨0, Nat.zero_le _, rfl, by simpa [T.outs] using HB, HK1, HK2⟩
        case round =>
          obtain ⟨j, hj, rfl, hbj, hkj, hk1j⟩ := hrel
          have c4 := HP.out wr hkj 4 _ rfl
          clear HB HK1 HK2
          by_cases hlt : j < ks.length
          · obtain ⟨x, hx⟩ : ∃ x, ks[j]? = some x := ⟨ks[j], by simp [hlt]⟩
            obtain ⟨xc, hxc, hxr⟩ := hks.at hx
            obtain ⟨kb, ko, rfl, hkB, hat⟩ := hrow (by intro h0; have := hks.len; rw [h0] at this; simp at this; omega)
            have HN : Hid (T.outs (ks.take (j + 1)) = T.outs (ks.take j) ++ (32 :: T.out x)) := Lib.hid (touts_take hx)
            have hxm := List.mem_of_getElem? hx
            have hn1 : l3.length + (T.outs (ks.take j)).length + (T.out x).length + 2 ≤ 1000000000 := touts_room hx hl3n
            clear hx
            go_wp2_with fail
            refine (bld_byte hbj (by rw [List.length_append]; omega) (Nat.le_trans hB hkj.below.size) 32).mono ?_
            rintro e w5 ⟨rfl, hb5, hk5⟩
            have hkj5 := hkj.trans hk5
            have c4 := HP.out w5 hkj5 4 _ rfl
            go_wp2_with fail
            refine (ih x hxm xc kb (ko + j * 5) _ w5 hxr (fun w' hw' jj u hu => hw'.below.cell (p := ⟨kb, ko + j * 5 + jj, none⟩) hkB |>.trans (hat.cell hxc hu)) hkj5 hb5 (by simp only [List.length_append, List.length_cons, List.length_nil]; omega)).mono ?_
            rintro e w6 ⟨rfl, hb6, hk6⟩
            go_wp2_with fail
            refine ⟨⟨j + 1, by omega, by go_num, by rw [HN.out]; simpa using hb6, hkj5.trans hk6, (hk1j.trans hk5).trans hk6⟩, by simp [intOf]; omega⟩
          · go_wp2_with fail
            refine (bld_byte hbj (by have := touts_take_len ks j; rw [List.length_append]; omega) (Nat.le_trans hB hkj.below.size) 41).mono ?_
            rintro e w5 ⟨rfl, hb5, hk5⟩
            go_wp2
            go_end0
            refine ⟨rfl, ?_, hk1j.trans hk5⟩
            rw [show j = ks.length by omega, List.take_length] at hb5
            rw [HL3.out]
            exact hb5

end Go.Proofs.Ytcafiaoinonpgaa
