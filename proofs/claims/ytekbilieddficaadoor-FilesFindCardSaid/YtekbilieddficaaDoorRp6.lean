/- Ropes: split, build. -/
import Derived.Test.YtekbilieddficaaDoorRp5
namespace Go.Proofs.YtekbilieddficaaDoor
open Go.RowKit
set_option linter.unusedVariables false

/-- what is ahead of a place, and behind it -/
def SplitPost (B : Nat) (L : List UInt8) (x : Int) (e : Ending) (w' : World) : Prop :=
  ∃ p1 o1 p2 o2, e = .returned (.tuple #[.pointer p1, .pointer p2]) ∧ RP w' B p1 o1 ∧ RP w' B p2 o2 ∧ textO o1 = L.take x.toNat ∧ textO o2 = L.drop x.toNat

theorem len_in {B : Nat} {p : Option Addr} {o : Option RT} (w : World) (h : RP w B p o) (W : World) (hk : Below w.heap.size w W) : Calls Tryd.prog 63 #[.pointer p] W fun e w' => e = .returned (.int .i64 (textO o).length) ∧ w' = W := len_any W (h.below hk)

theorem join_in {B : Nat} {o1 o2 : Option RT} {p1 p2 : Option Addr} (W : World) (h1 : RP W B p1 o1) (h2 : RP W B p2 o2) (hB : B ≤ W.heap.size) (hl : (textO o1).length + (textO o2).length ≤ 1000000) :
    Calls Tryd.prog 65 #[.pointer p1, .pointer p2] W fun e w' => RPPost B (textO o1 ++ textO o2) e w' ∧ Below W.heap.size W w' := join_any _ o1 o2 p1 p2 W (Nat.le_refl _) h1 h2 hB hl

set_option maxRecDepth 100000 in
set_option maxHeartbeats 4000000 in
theorem split_any {B : Nat} : ∀ (o : Option RT) (p : Option Addr) (x : Int) (w : World), RP w B p o → B ≤ w.heap.size → (textO o).length ≤ 1000000 → -1000000000 ≤ x → x ≤ 1000000000 →
    Calls Tryd.prog 64 #[.pointer p, .int .i64 x] w fun e w' => SplitPost B (textO o) x e w' ∧ Below w.heap.size w w' := by
  have low : ∀ (o : Option RT) (p : Option Addr) (x : Int) (w : World), RP w B p o → x ≤ 0 → Calls Tryd.prog 64 #[.pointer p, .int .i64 x] w fun e w' => SplitPost B (textO o) x e w' ∧ Below w.heap.size w w' := by
    intro o p x w h hx
    have hfin : Hid (∀ e, e = .returned (.tuple #[.pointer none, .pointer p]) → SplitPost B (textO o) x e w) := Lib.hid (fun e he => ⟨none, none, p, o, he, rfl, h, by rw [show x.toNat = 0 by omega]; rfl, by rw [show x.toNat = 0 by omega]; rfl⟩)
    clear h
    go_enter Tryd.func64, Tryd.ntmps64
    go_wp2
    go_ret2
    exact ⟨hfin.out _ rfl, Below.refl _ _⟩
  have high : ∀ (o : Option RT) (p : Option Addr) (x : Int) (w : World), RP w B p o → 0 < x → ((textO o).length : Int) ≤ x → Calls Tryd.prog 64 #[.pointer p, .int .i64 x] w fun e w' => SplitPost B (textO o) x e w' ∧ Below w.heap.size w w' := by
    intro o p x w h hx hx2
    have L1 := len_any w h
    have hfin : Hid (∀ e, e = .returned (.tuple #[.pointer p, .pointer none]) → SplitPost B (textO o) x e w) := Lib.hid (fun e he => ⟨p, o, none, none, he, h, rfl, by rw [List.take_of_length_le (by omega)], by rw [List.drop_of_length_le (by omega)]; rfl⟩)
    obtain ⟨n, hn⟩ : ∃ n, n = (textO o).length := ⟨_, rfl⟩
    rw [← hn] at L1 hx2
    have f0 : ¬ x ≤ 0 := by omega
    replace L1 := Lib.hid L1
    replace hn := Lib.hid hn
    clear h
    go_enter Tryd.func64, Tryd.ntmps64
    go_wp2_with fail
    refine L1.out.mono ?_
    rintro e w' ⟨rfl, hw'⟩
    replace hw' := hw'.symm
    subst hw'
    go_wp2
    go_ret2
    exact ⟨hfin.out _ rfl, Below.refl _ _⟩
  intro o
  cases o with
  | none =>
    intro p x w h hB hl h1 h2
    by_cases hx : x ≤ 0
    · exact low none p x w h hx
    · exact high none p x w h (by omega) (by simp [textO]; omega)
  | some t =>
    induction t with
    | leaf s =>
      intro p x w h hB hl h1 h2
      by_cases hx : x ≤ 0
      · exact low _ p x w h hx
      · by_cases hx2 : ((textO (some (RT.leaf s))).length : Int) ≤ x
        · exact high _ p x w h (by omega) hx2
        · have L1 := len_any w h
          obtain ⟨hg, g, rfl, hr⟩ := h
          obtain ⟨_, d, ll, _, e⟩ := hr
          obtain ⟨c0, c1, _⟩ := rope9 e
          simp only [textO, RT.text] at L1 hx2 hl ⊢
          obtain ⟨n, hn⟩ : ∃ n, n = s.length := ⟨_, rfl⟩
          rw [← hn] at L1 hx2 hl
          obtain ⟨y, rfl⟩ : ∃ y : Nat, x = y := ⟨x.toNat, by omega⟩
          have f0 : ¬ (y : Int) ≤ 0 := by omega
          have f1 : ¬ (n : Int) ≤ (y : Int) := by omega
          obtain ⟨sb, hsb⟩ : ∃ sb : ByteArray, sb = ⟨s.toArray⟩ := ⟨_, rfl⟩
          rw [← hsb] at c0
          have hst : sb.data.toList = s := by rw [hsb]
          have hsz : sb.size = n := by rw [Lib.size_eq, hst, hn]
          have g1 : (y : Int) ≤ (sb.size : Int) := by omega
          have g2 : sb.size ≤ 1000000 := by omega
          have s1 : (sb.extract 0 y).data.toList = s.take y := by rw [Lib.extract_data, hst]; simp
          have s2 : (sb.extract y sb.size).data.toList = s.drop y := by
            rw [Lib.extract_data, hst, hsz, hn]
            rw [List.take_of_length_le (by rw [List.length_drop]; exact Nat.le_refl _)]
          have z1 : (sb.extract 0 y).size ≤ 1000000 := by rw [Lib.size_eq, s1, List.length_take]; omega
          have z2 : (sb.extract y sb.size).size ≤ 1000000 := by rw [Lib.size_eq, s2, List.length_drop]; omega
          have P1 : Hid (∀ W, Below w.heap.size w W → Calls Tryd.prog 74 #[.string (sb.extract 0 y)] W fun e w' => RPPost B (s.take y) e w' ∧ Below W.heap.size W w') := Lib.hid (fun W hk => by rw [← s1]; exact leaf_any B _ z1 W (Nat.le_trans hB hk.size))
          have P2 : Hid (∀ W, Below w.heap.size w W → Calls Tryd.prog 74 #[.string (sb.extract y sb.size)] W fun e w' => RPPost B (s.drop y) e w' ∧ Below W.heap.size W w') := Lib.hid (fun W hk => by rw [← s2]; exact leaf_any B _ z2 W (Nat.le_trans hB hk.size))
          have HF : Hid (∀ z, Below w.heap.size w z → z.cell? ⟨g, 0, none⟩ = some (.string sb)) := Lib.hid (fun z hz => kept_cell hz c0)
          have y0 := HF.out _ (Below.refl _ w)
          have hN2 : Below w.heap.size w w.drew := (Below.refl _ w).drew
          have y1 := HF.out _ hN2
          replace L1 := Lib.hid L1
          replace hn := Lib.hid hn
          replace hsb := Lib.hid hsb
          replace hst := Lib.hid hst
          replace hsz := Lib.hid hsz
          replace s1 := Lib.hid s1
          replace s2 := Lib.hid s2
          clear e hg low high
          go_enter Tryd.func64, Tryd.ntmps64
          go_wp2_with fail
          refine L1.out.mono ?_
          rintro e w' ⟨rfl, hw'⟩
          replace hw' := hw'.symm
          subst hw'
          go_wp2_with fail
          go_region_held3 (fun z : World => z.cell? ⟨g, 0, none⟩ = some (.string sb)) (first | with_reducible exact y0 | with_reducible exact y1 | with_reducible exact y2 | with_reducible exact y3) (first
            | (go_at_call 74; (with_reducible refine (P1.out _ hb1).mono ?_); rintro e w2 ⟨⟨pa, oa, rfl, ra, ta⟩, bx⟩; have hb2 : Below w.heap.size w w2 := hb1.trans (bx.mono hb1.size); have ra2 := ra; have rb2 := rb.below bx; have y3 := HF.out _ hb2)
            | (go_at_call 74; (with_reducible refine (P2.out _ hb1).mono ?_); rintro e w2 ⟨⟨pb, ob, rfl, rb, tb⟩, bx⟩; have hb2 : Below w.heap.size w w2 := hb1.trans (bx.mono hb1.size); have rb2 := rb; have ra2 := ra.below bx; have y3 := HF.out _ hb2)
            | (go_at_call 74; (with_reducible refine (P1.out _ hN2).mono ?_); rintro e w1 ⟨⟨pa, oa, rfl, ra, ta⟩, bx⟩; have hb1 : Below w.heap.size w w1 := hN2.trans (bx.mono hN2.size); have y2 := HF.out _ hb1)
            | (go_at_call 74; (with_reducible refine (P2.out _ hN2).mono ?_); rintro e w1 ⟨⟨pb, ob, rfl, rb, tb⟩, bx⟩; have hb1 : Below w.heap.size w w1 := hN2.trans (bx.mono hN2.size); have y2 := HF.out _ hb1))
          all_goals
            go_wp2
            go_ret2
            exact ⟨⟨pa, oa, pb, ob, rfl, ra2, rb2, by simpa using ta, by simpa using tb⟩, hb2⟩
    | node a b iha ihb =>
      intro p x w h hB hl h1 h2
      by_cases hx : x ≤ 0
      · exact low _ p x w h hx
      · by_cases hx2 : ((textO (some (RT.node a b))).length : Int) ≤ x
        · exact high _ p x w h (by omega) hx2
        · have L1 := len_any w h
          obtain ⟨hg, g, rfl, hr⟩ := h
          have hnice : (RT.node a b).Nice := by rcases hg with h | h; exact h; cases h
          obtain ⟨_, ga, gb, d, ll, hga, hgb, _, e, ha, hb⟩ := hr
          obtain ⟨_, c1, c2, _⟩ := rope9 e
          have rpa : RP w B (some ⟨ga, 0, none⟩) (some a) := ⟨.inl hnice.1, ga, rfl, ha⟩
          have rpb : RP w B (some ⟨gb, 0, none⟩) (some b) := ⟨.inl hnice.2, gb, rfl, hb⟩
          have LA := len_in w rpa
          simp only [textO] at L1 LA hx2 hl ⊢
          obtain ⟨n, hn⟩ : ∃ n, n = (RT.node a b).text.length := ⟨_, rfl⟩
          obtain ⟨m, hm⟩ : ∃ n, n = a.text.length := ⟨_, rfl⟩
          have hnm : n = m + b.text.length := by rw [hn, hm]; simp [RT.text]
          rw [← hn] at L1 hx2 hl
          rw [← hm] at LA
          obtain ⟨y, rfl⟩ : ∃ y : Nat, x = y := ⟨x.toNat, by omega⟩
          have f0 : ¬ (y : Int) ≤ 0 := by omega
          have f1 : ¬ (n : Int) ≤ (y : Int) := by omega
          have HF : Hid (∀ z, Below w.heap.size w z → z.cell? ⟨g, 1, none⟩ = some (.pointer (some ⟨ga, 0, none⟩)) ∧ z.cell? ⟨g, 2, none⟩ = some (.pointer (some ⟨gb, 0, none⟩))) := Lib.hid (fun z hz => ⟨kept_cell hz c1, kept_cell hz c2⟩)
          replace L1 := Lib.hid L1
          replace LA := Lib.hid LA
          replace hn := Lib.hid hn
          by_cases hym : y < m
          · have f2 : (y : Int) < (m : Int) := by omega
            have IA := iha (some ⟨ga, 0, none⟩) y w rpa hB (by simp only [textO]; omega) (by omega) (by omega)
            simp only [textO] at IA
            replace IA := Lib.hid IA
            replace hm := Lib.hid hm
            replace hnm := Lib.hid hnm
            clear e hg low high iha ihb
            go_enter Tryd.func64, Tryd.ntmps64
            go_wp2_with fail
            refine L1.out.mono ?_
            rintro e w' ⟨rfl, hw'⟩
            replace hw' := hw'.symm
            subst hw'
            go_wp2_with fail
            refine (LA.out _ (Below.refl _ _)).mono ?_
            rintro e w' ⟨rfl, hw'⟩
            replace hw' := hw'.symm
            subst hw'
            go_wp2_with fail
            refine IA.out.mono ?_
            rintro e w1 ⟨⟨q1, o1, q2, o2, rfl, r1, r2, t1, t2⟩, b1⟩
            obtain ⟨_, x2⟩ := HF.out _ b1
            have HJ := join_in w1 r2 (rpb.below b1) (Nat.le_trans hB b1.size) (by rw [t2, List.length_drop]; have := hm.out; have := hnm.out; simp only [textO]; omega)
            replace HJ := Lib.hid HJ
            clear c1 c2
            go_wp2_with fail
            refine HJ.out.mono ?_
            rintro e w2 ⟨⟨q3, o3, rfl, r3, t3⟩, b2⟩
            go_wp2
            go_ret2
            refine ⟨⟨q1, o1, q3, o3, rfl, r1.below b2, r3, ?_, ?_⟩, b1.trans (b2.mono b1.size)⟩
            · have := hm.out
              rw [t1]
              simp only [Int.toNat_natCast, RT.text]
              rw [List.take_append_of_le_length (by omega)]
            · have := hm.out
              rw [t3, t2]
              simp only [Int.toNat_natCast, RT.text, textO]
              rw [List.drop_append_of_le_length (by omega)]
          · have f2 : ¬ (y : Int) < (m : Int) := by omega
            have k3 : IntKind.i64.wrap ((y : Int) - (m : Int)) = (y : Int) - (m : Int) := IntWalk.i64_in _ (by omega)
            have IB : Hid (∀ W, Below w.heap.size w W → Calls Tryd.prog 64 #[.pointer (some ⟨gb, 0, none⟩), .int .i64 ((y : Int) - (m : Int))] W fun e w' => SplitPost B b.text ((y : Int) - (m : Int)) e w' ∧ Below W.heap.size W w') := Lib.hid (fun W hk => ihb (some ⟨gb, 0, none⟩) _ W (rpb.below hk) (Nat.le_trans hB hk.size) (by simp only [textO]; omega) (by omega) (by omega))
            replace hm := Lib.hid hm
            replace hnm := Lib.hid hnm
            have y0 := HF.out _ (Below.refl _ w)
            have hN2 : Below w.heap.size w w.drew := (Below.refl _ w).drew
            have y1 := HF.out _ hN2
            clear e hg low high iha ihb c1 c2
            go_enter Tryd.func64, Tryd.ntmps64
            go_wp2_with fail
            refine L1.out.mono ?_
            rintro e w' ⟨rfl, hw'⟩
            replace hw' := hw'.symm
            subst hw'
            go_wp2_with fail
            refine (LA.out _ (Below.refl _ _)).mono ?_
            rintro e w' ⟨rfl, hw'⟩
            replace hw' := hw'.symm
            subst hw'
            go_wp2_with fail
            go_region_held3 (fun z : World => z.cell? ⟨g, 1, none⟩ = some (.pointer (some ⟨ga, 0, none⟩)) ∧ z.cell? ⟨g, 2, none⟩ = some (.pointer (some ⟨gb, 0, none⟩))) (first | with_reducible exact y0 | with_reducible exact y1 | with_reducible exact y2) (first
              | (go_at_call 63; (with_reducible refine (LA.out _ hN2).mono ?_); rintro e w' ⟨rfl, hw'⟩; replace hw' := hw'.symm; subst hw')
              | (go_at_call 64; (with_reducible refine (IB.out _ hN2).mono ?_); rintro e w1 ⟨⟨q1, o1, q2, o2, rfl, r1, r2, t1, t2⟩, b1⟩; have hb1 : Below w.heap.size w w1 := hN2.trans (b1.mono hN2.size); have y2 := HF.out _ hb1))
            all_goals
              have HJ := join_in w1 (rpa.below hb1) r1 (Nat.le_trans hB hb1.size) (by rw [t1, List.length_take]; have := hm.out; have := hnm.out; simp only [textO]; omega)
              replace HJ := Lib.hid HJ
              have x1 := y2.1
              clear y0 y1 y2
              go_wp2_with fail
              refine HJ.out.mono ?_
              rintro e w2 ⟨⟨q3, o3, rfl, r3, t3⟩, b2⟩
              go_wp2
              go_ret2
              refine ⟨⟨q3, o3, q2, o2, rfl, r3, r2.below b2, ?_, ?_⟩, hb1.trans (b2.mono hb1.size)⟩
              · have := hm.out
                rw [t3, t1]
                simp only [Int.toNat_natCast, RT.text, textO]
                rw [List.take_append, ← hm.out, List.take_of_length_le (l := a.text) (by omega), show ((y : Int) - (m : Int)).toNat = y - m by omega]
              · have := hm.out
                rw [t2]
                simp only [Int.toNat_natCast, RT.text]
                rw [List.drop_append, ← hm.out, List.drop_of_length_le (l := a.text) (by omega), show ((y : Int) - (m : Int)).toNat = y - m by omega]
                simp

theorem split_in {B : Nat} {o : Option RT} {p : Option Addr} (W : World) (h : RP W B p o) (hB : B ≤ W.heap.size) (hl : (textO o).length ≤ 1000000) (x : Int) (h1 : -1000000000 ≤ x) (h2 : x ≤ 1000000000) :
    Calls Tryd.prog 64 #[.pointer p, .int .i64 x] W fun e w' => SplitPost B (textO o) x e w' ∧ Below W.heap.size W w' := split_any o p x W h hB hl h1 h2

set_option maxRecDepth 100000 in
set_option maxHeartbeats 4000000 in
theorem build_any {B : Nat} : ∀ (N : Nat) (s : ByteArray) (w : World), s.size ≤ N → s.size ≤ 1000000 → B ≤ w.heap.size →
    Calls Tryd.prog 54 #[.string s] w fun e w' => RPPost B s.data.toList e w' ∧ Below w.heap.size w w' := by
  intro N
  induction N with
  | zero =>
    intro s w hN hs hB
    have f1 : (s.size : Int) ≤ 256 := by omega
    have HL := Lib.hid (leaf_any B s hs w hB)
    go_enter Tryd.func54, Tryd.ntmps54
    go_wp2_with fail
    refine HL.out.mono ?_
    rintro e w1 ⟨⟨p, o, rfl, r, t⟩, b1⟩
    go_wp2
    go_ret
    exact ⟨⟨p, o, rfl, r, t⟩, b1⟩
  | succ N ih =>
    intro s w hN hs hB
    by_cases h256 : s.size ≤ 256
    · have f1 : (s.size : Int) ≤ 256 := by omega
      have HL := Lib.hid (leaf_any B s hs w hB)
      go_enter Tryd.func54, Tryd.ntmps54
      go_wp2_with fail
      refine HL.out.mono ?_
      rintro e w1 ⟨⟨p, o, rfl, r, t⟩, b1⟩
      go_wp2
      go_ret
      exact ⟨⟨p, o, rfl, r, t⟩, b1⟩
    · have f1 : ¬ (s.size : Int) ≤ 256 := by omega
      obtain ⟨h, hh⟩ : ∃ h, h = s.size / 2 := ⟨_, rfl⟩
      have hq : (s.size : Int) / 2 = (h : Int) := by omega
      have f2 : (h : Int) ≤ (s.size : Int) := by omega
      have f3 : h ≤ 1000000 := by omega
      have l1 : (s.extract 0 h).data.toList = s.data.toList.take h := by rw [Lib.extract_data]; simp
      have l2 : (s.extract h s.size).data.toList = s.data.toList.drop h := by
        rw [Lib.extract_data, Lib.size_eq]
        rw [List.take_of_length_le (by rw [List.length_drop]; exact Nat.le_refl _)]
      have hlen : s.data.toList.length = s.size := (Lib.size_eq s).symm
      have z1 : (s.extract 0 h).size = h := by rw [Lib.size_eq, l1, List.length_take]; omega
      have z2 : (s.extract h s.size).size = s.size - h := by rw [Lib.size_eq, l2, List.length_drop]; omega
      have n1 : s.data.toList.take h ≠ [] := by intro e; have := congrArg List.length e; rw [List.length_take] at this; simp only [List.length_nil] at this; omega
      have n2 : s.data.toList.drop h ≠ [] := by intro e; have := congrArg List.length e; rw [List.length_drop] at this; simp only [List.length_nil] at this; omega
      have P1 : Hid (∀ W, Below w.heap.size w W → Calls Tryd.prog 54 #[.string (s.extract 0 h)] W fun e w' => RNPost B (s.data.toList.take h) e w' ∧ Below W.heap.size W w') := Lib.hid (fun W hk => by
        have := ih (s.extract 0 h) W (by rw [z1]; omega) (by rw [z1]; omega) (Nat.le_trans hB hk.size)
        rw [l1] at this
        exact this.mono (fun e w' h => ⟨h.1.nice n1, h.2⟩))
      have P2 : Hid (∀ W, Below w.heap.size w W → Calls Tryd.prog 54 #[.string (s.extract h s.size)] W fun e w' => RNPost B (s.data.toList.drop h) e w' ∧ Below W.heap.size W w') := Lib.hid (fun W hk => by
        have := ih (s.extract h s.size) W (by rw [z2]; omega) (by rw [z2]; omega) (Nat.le_trans hB hk.size)
        rw [l2] at this
        exact this.mono (fun e w' h => ⟨h.1.nice n2, h.2⟩))
      have NZ : Hid (∀ W gx tx gy ty, Below w.heap.size w W → RAt W B tx gx → tx.Nice → tx.text = s.data.toList.take h → RAt W B ty gy → ty.Nice → ty.text = s.data.toList.drop h → Calls Tryd.prog 75 #[.pointer (some ⟨gx, 0, none⟩), .pointer (some ⟨gy, 0, none⟩)] W fun e w' => RNPost B s.data.toList e w' ∧ Below W.heap.size W w') := Lib.hid (by
        intro W gx tx gy ty p1 p2 p3 p4 p5 p6 p7
        have := node_in W W (Nat.le_trans hB p1.size) p2 p5 p3 p6 (by rw [p4, p7, List.length_take, List.length_drop]; omega) (Below.refl _ _)
        rw [p4, p7, List.take_append_drop] at this
        exact this)
      have hN2 : Below w.heap.size w w.drew := (Below.refl _ w).drew
      replace hh := Lib.hid hh
      replace l1 := Lib.hid l1
      replace l2 := Lib.hid l2
      replace z1 := Lib.hid z1
      replace z2 := Lib.hid z2
      replace n1 := Lib.hid n1
      replace n2 := Lib.hid n2
      replace hlen := Lib.hid hlen
      clear ih
      go_enter Tryd.func54, Tryd.ntmps54
      go_wp2_with fail
      go_region_held3 (fun z : World => True) (trivial) (first
        | (go_at_call 75; (with_reducible refine (NZ.out _ gx tx gy ty hb2 hx2 hnx htx hy2 hny hty).mono ?_); rintro e w3 ⟨⟨gz, tz, rfl, hz, hnz, htz⟩, bz⟩; have hb3 : Below w.heap.size w w3 := hb2.trans (bz.mono hb2.size))
        | (go_at_call 54; (with_reducible refine (P1.out _ hb1).mono ?_); rintro e w2 ⟨⟨gx, tx, rfl, hx, hnx, htx⟩, bx⟩; have hb2 : Below w.heap.size w w2 := hb1.trans (bx.mono hb1.size); have hx2 := hx; have hy2 := hy.below bx)
        | (go_at_call 54; (with_reducible refine (P2.out _ hb1).mono ?_); rintro e w2 ⟨⟨gy, ty, rfl, hy, hny, hty⟩, bx⟩; have hb2 : Below w.heap.size w w2 := hb1.trans (bx.mono hb1.size); have hy2 := hy; have hx2 := hx.below bx)
        | (go_at_call 54; (with_reducible refine (P1.out _ hN2).mono ?_); rintro e w1 ⟨⟨gx, tx, rfl, hx, hnx, htx⟩, bx⟩; have hb1 : Below w.heap.size w w1 := hN2.trans (bx.mono hN2.size))
        | (go_at_call 54; (with_reducible refine (P2.out _ hN2).mono ?_); rintro e w1 ⟨⟨gy, ty, rfl, hy, hny, hty⟩, bx⟩; have hb1 : Below w.heap.size w w1 := hN2.trans (bx.mono hN2.size)))
      all_goals
        go_wp2
        go_ret
        exact ⟨⟨_, some tz, rfl, ⟨.inl hnz, gz, rfl, hz⟩, htz⟩, hb3⟩
end Go.Proofs.YtekbilieddficaaDoor
