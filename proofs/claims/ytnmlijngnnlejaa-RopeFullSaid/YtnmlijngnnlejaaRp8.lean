/- Ropes: how many line ends; told once. -/
import Derived.Test.YtnmlijngnnlejaaRp7
import Derived.Test.YtnmlijngnnlejaaOnce
namespace Go.Proofs.Ytnmlijngnnlejaa
open Go.RowKit
set_option linter.unusedVariables false

/-- As KR, and block g as it was, too. -/
structure KL (B g : Nat) (w w' : World) : Prop where
  below : Below B w w'
  others : Lib.OthersKept 61 none w w'
  past : ∀ k, g ≤ k → k < w.heap.size → w'.heap[k]? = w.heap[k]?
  ropes : ∀ t k, RAt w B t k → RAt w' B t k

theorem KR.kl {B g g' : Nat} {w w' : World} (h : KR B g w w') (hg : g < g') : KL B g' w w' := ⟨h.below, h.others, fun k h1 h2 => h.past k (by omega) h2, h.ropes⟩
theorem KL.kr {B g : Nat} {w w' : World} (h : KL B g w w') : KR B g w w' := ⟨h.below, h.others, fun k h1 h2 => h.past k (by omega) h2, h.ropes⟩
theorem KL.refl (B g : Nat) (w : World) : KL B g w w := ⟨Below.refl _ _, Lib.OthersKept.refl _ _ _, fun _ _ _ => rfl, fun _ _ h => h⟩
theorem KL.trans {B g : Nat} {w w1 w2 : World} (h : KL B g w w1) (k : KL B g w1 w2) : KL B g w w2 :=
  ⟨h.below.trans k.below, h.others.trans k.others, fun i h1 h2 => (k.past i h1 (Nat.lt_of_lt_of_le h2 h.below.size)).trans (h.past i h1 h2), fun t i ht => k.ropes t i (h.ropes t i ht)⟩
theorem KL.of_below {B g : Nat} {w w' : World} (hB : B ≤ w.heap.size) (h : Below w.heap.size w w') : KL B g w w' :=
  ⟨h.mono hB, OthersKept.of_below h, fun k _ hk => h.block k hk, fun t k ht => ht.below h⟩

/-- A rope that was told: all ropes are as they were. -/
theorem memo_ropes {B g : Nat} {w W0 W1 wf : World} {T : RT} (hT : RAt w B T g) (h0 : ∀ k, k ≠ g → k < w.heap.size → W0.heap[k]? = w.heap[k]?) (h1 : KL B g W0 W1) (h2 : ∀ k, k ≠ g → wf.heap[k]? = W1.heap[k]?)
    (hs : w.heap.size ≤ W0.heap.size)
    (hg : ∀ s pa pb z h d l, w.heap[g]? = some (.cells (ropeC s pa pb z h d l) 61 (0, 0)) → wf.heap[g]? = some (.cells (ropeC s pa pb z h 1 (T.text.count 10 : Nat)) 61 (0, 0))) :
    ∀ t k, RAt w B t k → RAt wf B t k := by
  have low : ∀ t k, k < g → RAt w B t k → RAt wf B t k := by
    intro t k hk h
    have a := h.upto (w' := W0) fun i _ hi => h0 i (by omega) (by have := h.lt; omega)
    exact (h1.ropes t k a).upto fun i _ hi => h2 i (by omega)
  have high : ∀ k, g < k → k < w.heap.size → wf.heap[k]? = w.heap[k]? := fun k hk hlt => (h2 k (by omega)).trans ((h1.past k (by omega) (by omega)).trans (h0 k (by omega) hlt))
  have here : RAt wf B T g := by
    cases T with
    | leaf s =>
      obtain ⟨hB, d, l, hm, e⟩ := hT
      exact ⟨hB, 1, _, .inr ⟨rfl, rfl⟩, hg _ _ _ _ _ _ _ e⟩
    | node a b =>
      obtain ⟨hB, ga, gb, d, l, hga, hgb, hm, e, ha, hb⟩ := hT
      exact ⟨hB, ga, gb, 1, _, hga, hgb, .inr ⟨rfl, rfl⟩, hg _ _ _ _ _ _ _ e, low _ _ hga ha, low _ _ hgb hb⟩
  intro t
  induction t with
  | leaf s =>
    intro k h
    rcases Nat.lt_trichotomy k g with hk | rfl | hk
    · exact low _ _ hk h
    · rw [h.same hT]; exact here
    · have hlt := h.lt
      obtain ⟨hB, d, l, hm, e⟩ := h
      exact ⟨hB, d, l, hm, (high k hk hlt).trans e⟩
  | node a b iha ihb =>
    intro k h
    rcases Nat.lt_trichotomy k g with hk | rfl | hk
    · exact low _ _ hk h
    · rw [h.same hT]; exact here
    · have hlt := h.lt
      obtain ⟨hB, ga, gb, d, l, hga, hgb, hm, e, ha, hb⟩ := h
      exact ⟨hB, ga, gb, d, l, hga, hgb, hm, (high k hk hlt).trans e, iha _ ha, ihb _ hb⟩

theorem OthersKept.set {e : TypeId} {w : World} {a : Addr} {v : Value} {c : Array Value} {fz : Nat × Nat} (h : w.heap[a.block]? = some (.cells c e fz)) : Lib.OthersKept e none w (w.setCell a v) := by
  intro k o ho _ hne
  have hk : k ≠ a.block := by
    rintro rfl
    rw [h] at ho
    cases ho
    exact hne _ _ rfl
  exact (Below.heap_setCell _ _ _ _ hk).trans ho

theorem heap_set {w : World} {g i : Nat} {v : Value} {c : Array Value} {e : TypeId} {fz : Nat × Nat} (h : w.heap[g]? = some (.cells c e fz)) : (w.setCell ⟨g, i, none⟩ v).heap[g]? = some (.cells (c.setIfInBounds i v) e fz) := by
  simp [World.setCell, Array.getElem?_modify, h]

theorem ends_nil (w : World) : Calls Try.prog 24 #[.pointer none] w fun e w' => e = .returned (.int .i64 0) ∧ Below w.heap.size w w' := by
  go_enter Try.func24, Try.ntmps24
  go_wp2
  go_ret
  exact ⟨rfl, (Below.refl _ w).alloc (Nat.le_refl _) _⟩

/-- what the closure leaves -/
def EndsQ (B g n : Nat) (W0 : World) (w' : World) : Prop := ∃ W1, KL B g W0 W1 ∧ w' = W1.setCell ⟨g, 8, none⟩ (.int .i64 n)

set_option maxRecDepth 100000 in
set_option maxHeartbeats 4000000 in
theorem ends1_any {B g pl : Nat} {s : ByteArray} {pa pb : Option Addr} {z h l : Int} (na nb : Nat) (W0 : World) (hB : B ≤ W0.heap.size) (hna : na ≤ 1000000) (hnb : nb ≤ 1000000) (hs : s.size ≤ 1000000)
    (hg : W0.heap[g]? = some (.cells #[.string s, .pointer pa, .pointer pb, .int .i64 z, .int .i64 h, .int .u32 0, .int .i32 1, .int .u32 0, .int .i64 l] 61 (0, 0)))
    (hp : W0.heap[pl]? = some (.cells #[.pointer (some ⟨g, 0, none⟩)] 23 (0, 0)))
    (HA : ∀ W, KL B g W0 W → Calls Try.prog 24 #[.pointer pa] W fun e w' => e = .returned (.int .i64 na) ∧ KL B g W w')
    (HB : ∀ W, KL B g W0 W → Calls Try.prog 24 #[.pointer pb] W fun e w' => e = .returned (.int .i64 nb) ∧ KL B g W w') :
    Calls Try.prog 35 #[.pointer (some ⟨pl, 0, none⟩)] W0 fun e w' => e = .returned (.tuple #[]) ∧ EndsQ B g (s.data.toList.count 10 + na + nb) W0 w' := by
  have HF : Hid (∀ x, KL B g W0 x → x.cell? ⟨pl, 0, none⟩ = some (.pointer (some ⟨g, 0, none⟩)) ∧ x.cell? ⟨g, 0, none⟩ = some (.string s) ∧ x.cell? ⟨g, 1, none⟩ = some (.pointer pa) ∧ x.cell? ⟨g, 2, none⟩ = some (.pointer pb)) := Lib.hid (by
    intro x hx
    have h1 := (hx.past g (Nat.le_refl _) (lt_of_block hg)).trans hg
    have h2 := hx.others pl _ hp (by simp) (by intro c fz e; injection e with _ e; exact absurd e (by decide))
    exact ⟨by simpa using Lib.cell_of_heap h2 0, by simpa using Lib.cell_of_heap h1 0, by simpa using Lib.cell_of_heap h1 1, by simpa using Lib.cell_of_heap h1 2⟩)
  have HG : Hid (∀ x, KL B g W0 x → (∃ v, x.cell? ⟨g, 8, none⟩ = some v) ∧ x.frozen? ⟨g, 8, none⟩ = false) := Lib.hid (by
    intro x hx
    have h1 := (hx.past g (Nat.le_refl _) (lt_of_block hg)).trans hg
    exact ⟨⟨_, by simpa using Lib.cell_of_heap h1 8⟩, Lib.frozen_of_heap h1 8⟩)
  have hne : pl ≠ g := by
    rintro rfl
    rw [hg] at hp
    simp only [Option.some.injEq, Obj.cells.injEq] at hp
    exact absurd hp.2.1 (by decide)
  have HS : Hid (∀ (x : World) (u : Value), (x.cell? ⟨pl, 0, none⟩ = some (.pointer (some ⟨g, 0, none⟩)) ∧ x.cell? ⟨g, 0, none⟩ = some (.string s) ∧ x.cell? ⟨g, 1, none⟩ = some (.pointer pa) ∧ x.cell? ⟨g, 2, none⟩ = some (.pointer pb)) → (x.setCell ⟨g, 8, none⟩ u).cell? ⟨pl, 0, none⟩ = some (.pointer (some ⟨g, 0, none⟩)) ∧ (x.setCell ⟨g, 8, none⟩ u).cell? ⟨g, 0, none⟩ = some (.string s) ∧ (x.setCell ⟨g, 8, none⟩ u).cell? ⟨g, 1, none⟩ = some (.pointer pa) ∧ (x.setCell ⟨g, 8, none⟩ u).cell? ⟨g, 2, none⟩ = some (.pointer pb)) := Lib.hid (by
    rintro x u ⟨h1, h2, h3, h4⟩
    refine ⟨(World.cell?_setCell_other _ _ _ _ ?_).trans h1, (World.cell?_setCell_other _ _ _ _ (by simp)).trans h2, (World.cell?_setCell_other _ _ _ _ (by simp)).trans h3, (World.cell?_setCell_other _ _ _ _ (by simp)).trans h4⟩
    intro e
    simp only [Addr.mk.injEq] at e
    exact hne e.1.symm)
  have HC := fun W => Try.strings_Count_one s 10 W
  obtain ⟨n0, hn0⟩ : ∃ n, n = s.data.toList.count 10 := ⟨_, rfl⟩
  have hn1 : n0 ≤ 1000000 := by
    rw [hn0]
    have := List.count_le_length (a := 10) (l := s.data.toList)
    rw [← Lib.size_eq] at this
    omega
  have HC2 : Hid (∀ W, Calls Try.prog 36 #[.string s, .string ⟨#[10]⟩] W fun e w' => e = .returned (.int .i64 n0) ∧ w' = W) := Lib.hid (by rw [hn0]; exact HC)
  rw [← hn0]
  replace HA := Lib.hid HA
  replace HB := Lib.hid HB
  replace hn0 := Lib.hid hn0
  clear HC
  have kd : KL B g W0 W0.drew := KL.of_below hB (Below.refl _ _).drew
  have y0 := HF.out _ (KL.refl B g W0)
  have y1 := HF.out _ kd
  replace hg := Lib.hid hg
  replace hp := Lib.hid hp
  have kw1 : IntKind.i64.wrap ((n0 : Int) + (na : Int)) = (n0 : Int) + (na : Int) := IntWalk.i64_in _ (by omega)
  have kw2 : IntKind.i64.wrap ((n0 : Int) + (na : Int) + (nb : Int)) = (n0 : Int) + (na : Int) + (nb : Int) := IntWalk.i64_in _ (by omega)
  have hcast : Hid ((n0 : Int) + (na : Int) + (nb : Int) = ((n0 + na + nb : Nat) : Int)) := Lib.hid (by omega)
  go_enter Try.func35, Try.ntmps35
  go_wp2_with fail
  go_region_held3 (fun x : World => x.cell? ⟨pl, 0, none⟩ = some (.pointer (some ⟨g, 0, none⟩)) ∧ x.cell? ⟨g, 0, none⟩ = some (.string s) ∧ x.cell? ⟨g, 1, none⟩ = some (.pointer pa) ∧ x.cell? ⟨g, 2, none⟩ = some (.pointer pb)) (first | with_reducible exact y0 | with_reducible exact y1 | with_reducible exact y2 | with_reducible exact y3 | with_reducible exact y4 _) (first
    | (go_at_call 36; (with_reducible refine (HC2.out _).mono ?_); rintro e w' ⟨rfl, hw'⟩; replace hw' := hw'.symm; subst hw')
    | (go_at_call 24; (with_reducible refine (HB.out _ k1).mono ?_); rintro e w2 ⟨rfl, kx⟩; have k2 := k1.trans kx; have y3 := HF.out _ k2; obtain ⟨⟨v8, c8⟩, f8⟩ := HG.out _ k2; have y4 := fun u => HS.out w2 u y3)
    | (go_at_call 24; (with_reducible refine (HA.out _ kd).mono ?_); rintro e w1 ⟨rfl, kx⟩; have k1 := kd.trans kx; have y2 := HF.out _ k1))
  all_goals
    clear kw1 kw2
    go_end0
    exact ⟨rfl, w2, k2, by rw [hcast.out]⟩

set_option maxRecDepth 100000 in
set_option maxHeartbeats 4000000 in
/-- '(*sync.Once).doSlow', not yet done and the lock free, at the closure of ends. -/
theorem rope_slow {Q : World → Prop} {b off : Nat} (HQ : OnceQ Q b off) (pl : Addr) (w : World)
    (h0 : w.cell? ⟨b, off, none⟩ = some (.int .u32 0)) (h1 : w.cell? ⟨b, off + 1, none⟩ = some (.int .i32 0)) (f0 : w.frozen? ⟨b, off, none⟩ = false) (f1 : w.frozen? ⟨b, off + 1, none⟩ = false)
    (hf : Calls Try.prog 35 #[.pointer (some pl)] (w.setCell ⟨b, off + 1, none⟩ (.int .i32 1)) fun e w' => e = .returned (.tuple #[]) ∧ Q w') :
    Calls Try.prog 40 #[.pointer (some ⟨b, off, none⟩), .func (.func 35) #[] #[.pointer (some pl)]] w fun e w' => SlowPost Q b off e w' := by
  have HL := Lib.hid (lock_free ⟨b, off + 1, none⟩ w h1 f1)
  have HB := bool_load ⟨b, off, none⟩ 0 (w.setCell ⟨b, off + 1, none⟩ (.int .i32 1)) ((World.cell?_setCell_other _ ⟨b, off + 1, none⟩ ⟨b, off, none⟩ _ (by simp)).trans h0)
  have hnot : ∀ (x : Bool) (w : World), (Op.unary .not (.bool x)).run Try.prog w = .ok (.bool (!x)) w := fun _ _ => rfl
  rw [show ((0 : Int) != 0) = false from rfl] at HB
  replace HB := Lib.hid HB
  replace hf := Lib.hid hf
  clear h0 h1 f0 f1
  go_enter_defers Try.func40, Try.ntmps40
  go_wp2_with fail
  refine HL.out.mono ?_
  rintro e w' ⟨rfl, rfl⟩
  go_wp2_with fail
  refine HB.out.mono ?_
  rintro e w' ⟨rfl, rfl⟩
  go_wp2_with fail
  refine hf.out.mono ?_
  rintro e w2 ⟨rfl, hq⟩
  obtain ⟨q1, q2, q3, q4⟩ := HQ.done _ hq
  replace hq := Lib.hid hq
  go_wp2_with fail
  refine leaves_cons (f := 49) (args := #[.pointer (some ⟨b, off, none⟩), .bool true]) (by simp) (by simp [go_sem]) ?_
  refine (store_deferred ⟨b, off, none⟩ (.int .u32 0) .returning _ q1 q3).mono ?_
  rintro e u' w'' ⟨rfl, rfl, rfl⟩
  refine leaves_cons (f := 48) (args := #[.pointer (some ⟨b, off + 1, none⟩)]) (by simp [settle]) (by simp [go_sem]) ?_
  refine (unlock_deferred ⟨b, off + 1, none⟩ _ _ ?_ (by simp [q4])).mono ?_
  · exact (World.cell?_setCell_other _ ⟨b, off, none⟩ ⟨b, off + 1, none⟩ _ (by simp)).trans q2
  rintro e u' w'' ⟨rfl, rfl, rfl⟩
  simp [Leaves, settle, results, Try.results40]
  exact ⟨rfl, w2, hq.out, rfl⟩

set_option maxRecDepth 100000 in
/-- '(*sync.Once).Do', not yet done. -/
theorem rope_do {Q : World → Prop} {b off : Nat} (HQ : OnceQ Q b off) (pl : Addr) (w : World)
    (h0 : w.cell? ⟨b, off, none⟩ = some (.int .u32 0)) (h1 : w.cell? ⟨b, off + 1, none⟩ = some (.int .i32 0)) (f0 : w.frozen? ⟨b, off, none⟩ = false) (f1 : w.frozen? ⟨b, off + 1, none⟩ = false)
    (hf : Calls Try.prog 35 #[.pointer (some pl)] (w.setCell ⟨b, off + 1, none⟩ (.int .i32 1)) fun e w' => e = .returned (.tuple #[]) ∧ Q w') :
    Calls Try.prog 34 #[.pointer (some ⟨b, off, none⟩), .func (.func 35) #[] #[.pointer (some pl)]] w fun e w' => SlowPost Q b off e w' := by
  have HS := Lib.hid (rope_slow HQ pl w h0 h1 f0 f1 hf)
  have HB := bool_load ⟨b, off, none⟩ 0 w h0
  have hnot : ∀ (x : Bool) (w : World), (Op.unary .not (.bool x)).run Try.prog w = .ok (.bool (!x)) w := fun _ _ => rfl
  rw [show ((0 : Int) != 0) = false from rfl] at HB
  replace HB := Lib.hid HB
  clear h0 h1 f0 f1 hf
  go_enter Try.func34, Try.ntmps34
  go_wp2_with fail
  refine HB.out.mono ?_
  rintro e w' ⟨rfl, hw'⟩
  replace hw' := hw'.symm
  subst hw'
  go_wp2_with fail
  refine HS.out.mono ?_
  rintro e w2 ⟨rfl, hq⟩
  replace hq := Lib.hid hq
  go_wp2
  go_end0
  exact ⟨rfl, hq.out⟩

theorem ropeC_set6 (s : ByteArray) (pa pb : Option Addr) (z h d l : Int) : (ropeC s pa pb z h d l).setIfInBounds 6 (.int .i32 1) = #[Value.string s, .pointer pa, .pointer pb, .int .i64 z, .int .i64 h, .int .u32 d, .int .i32 1, .int .u32 0, .int .i64 l] := rfl

set_option maxRecDepth 100000 in
set_option maxHeartbeats 4000000 in
theorem ends_first {B g : Nat} {t : RT} {s : ByteArray} {pa pb : Option Addr} (na nb : Nat) (w : World) (hr : RAt w B t g) (hB : B ≤ w.heap.size) (hna : na ≤ 1000000) (hnb : nb ≤ 1000000) (hs : s.size ≤ 1000000)
    (e0 : w.heap[g]? = some (.cells (ropeC s pa pb t.text.length t.high 0 0) 61 (0, 0))) (hcnt : s.data.toList.count 10 + na + nb = t.text.count 10)
    (HA : ∀ W, (∀ tt k, k < g → RAt w B tt k → RAt W B tt k) → B ≤ W.heap.size → Calls Try.prog 24 #[.pointer pa] W fun e w' => e = .returned (.int .i64 na) ∧ KL B g W w')
    (HB : ∀ W, (∀ tt k, k < g → RAt w B tt k → RAt W B tt k) → B ≤ W.heap.size → Calls Try.prog 24 #[.pointer pb] W fun e w' => e = .returned (.int .i64 nb) ∧ KL B g W w') :
    Calls Try.prog 24 #[.pointer (some ⟨g, 0, none⟩)] w fun e w' => e = .returned (.int .i64 (t.text.count 10 : Nat)) ∧ KR B g w w' := by
  have hgB := hr.ge
  have hglt := hr.lt
  obtain ⟨Wb, hWb⟩ : ∃ Wb, Wb = w.alloc (.cells #[.pointer (some ⟨g, 0, none⟩)] 23) := ⟨_, rfl⟩
  have bWb : Below w.heap.size w Wb := by rw [hWb]; exact (Below.refl _ w).alloc (Nat.le_refl _) _
  have sWb : Wb.heap.size = w.heap.size + 1 := by rw [hWb]; simp
  have eb : Wb.heap[g]? = some (.cells (ropeC s pa pb t.text.length t.high 0 0) 61 (0, 0)) := (bWb.block g hglt).trans e0
  have pb0 : Wb.heap[w.heap.size]? = some (.cells #[.pointer (some ⟨g, 0, none⟩)] 23 (0, 0)) := by rw [hWb]; exact heap_alloc_new w _
  have hne : w.heap.size ≠ g := by omega
  obtain ⟨W0, hW0⟩ : ∃ W0, W0 = Wb.setCell ⟨g, 6, none⟩ (.int .i32 1) := ⟨_, rfl⟩
  have e1 : W0.heap[g]? = some (.cells #[.string s, .pointer pa, .pointer pb, .int .i64 t.text.length, .int .i64 t.high, .int .u32 0, .int .i32 1, .int .u32 0, .int .i64 0] 61 (0, 0)) := by rw [hW0]; exact heap_set eb
  have p1 : W0.heap[w.heap.size]? = some (.cells #[.pointer (some ⟨g, 0, none⟩)] 23 (0, 0)) := by rw [hW0]; exact (Below.heap_setCell _ _ _ _ hne).trans pb0
  have sW0 : W0.heap.size = w.heap.size + 1 := by rw [hW0, World.size_setCell, sWb]
  have oth0 : ∀ k, k ≠ g → k < w.heap.size → W0.heap[k]? = w.heap[k]? := fun k hk hlt => by rw [hW0]; exact (Below.heap_setCell _ _ _ _ hk).trans (bWb.block k hlt)
  have lowW : ∀ W, KL B g W0 W → ∀ tt k, k < g → RAt w B tt k → RAt W B tt k := fun W hk tt k hlt h => hk.ropes tt k (h.upto fun i _ hi => oth0 i (by omega) (by have := h.lt; omega))
  obtain ⟨n, hn⟩ : ∃ n : Nat, n = t.text.count 10 := ⟨_, rfl⟩
  rw [← hn] at hcnt ⊢
  have HF := ends1_any (l := 0) na nb W0 (by omega) hna hnb hs e1 p1 (fun W hk => HA W (lowW W hk) (Nat.le_trans (by omega) hk.below.size)) (fun W hk => HB W (lowW W hk) (Nat.le_trans (by omega) hk.below.size))
  rw [hcnt, hW0] at HF
  rw [← hW0] at HF
  have HQ : OnceQ (EndsQ B g n W0) g 5 := ⟨by
    rintro w' ⟨W1, hk, rfl⟩
    have h1 := (hk.past g (Nat.le_refl _) (lt_of_block e1)).trans e1
    have h2 := heap_set (i := 8) (v := .int .i64 n) h1
    exact ⟨Lib.cell_of_heap h2 5, Lib.cell_of_heap h2 6, Lib.frozen_of_heap h2 5, Lib.frozen_of_heap h2 6⟩⟩
  obtain ⟨_, _, _, _, _, c5, c6, _, _⟩ := rope9 eb
  have HD := rope_do HQ ⟨w.heap.size, 0, none⟩ Wb c5 c6 (Lib.frozen_of_heap eb 5) (Lib.frozen_of_heap eb 6) (by rw [show (5 + 1) = 6 from rfl, ← hW0]; exact HF)
  have FIN : Hid (∀ w', EndsQ B g n W0 w' → ∀ wf, wf = (w'.drew.setCell ⟨g, 5, none⟩ (.int .u32 1)).setCell ⟨g, 5 + 1, none⟩ (.int .i32 0) → KR B g w wf ∧ wf.cell? ⟨w.heap.size, 0, none⟩ = some (.pointer (some ⟨g, 0, none⟩)) ∧ wf.cell? ⟨g, 8, none⟩ = some (.int .i64 n)) := Lib.hid (by
    rintro w' ⟨W1, hk, rfl⟩ wf rfl
    have h1 := (hk.past g (Nat.le_refl _) (lt_of_block e1)).trans e1
    have h2 := heap_set (i := 8) (v := .int .i64 n) h1
    have h3 : (W1.setCell ⟨g, 8, none⟩ (.int .i64 n)).drew.heap[g]? = _ := h2
    have h4 := heap_set (i := 5) (v := .int .u32 1) h3
    have h5 := heap_set (i := 6) (v := .int .i32 0) h4
    have hoth : ∀ k, k ≠ g → ((((W1.setCell ⟨g, 8, none⟩ (.int .i64 n)).drew.setCell ⟨g, 5, none⟩ (.int .u32 1)).setCell ⟨g, 6, none⟩ (.int .i32 0)).heap[k]? = W1.heap[k]?) := fun k hk => (Below.heap_setCell _ _ _ _ hk).trans ((Below.heap_setCell _ _ _ _ hk).trans (Below.heap_setCell W1 ⟨g, 8, none⟩ _ k hk))
    have hp := hk.others _ _ p1 (by simp) (by intro c fz e; injection e with _ e; exact absurd e (by decide))
    refine ⟨⟨?_, ?_, ?_, ?_⟩, ?_, Lib.cell_of_heap h5 8⟩
    · have b0 : Below B w W0 := by rw [hW0]; exact (bWb.mono hB).setCell hgB _
      exact (((b0.trans hk.below).setCell hgB _).drew.setCell hgB _).setCell hgB _
    · have o0 : Lib.OthersKept 61 none w W0 := by rw [hW0]; exact (OthersKept.of_below bWb).trans (OthersKept.set eb)
      exact ((o0.trans hk.others).trans (OthersKept.set h1)).drew.trans ((OthersKept.set h3).trans (OthersKept.set h4))
    · intro k hgk hlt
      exact (hoth k (by omega)).trans ((hk.past k (by omega) (by omega)).trans (oth0 k (by omega) hlt))
    · refine memo_ropes hr oth0 hk hoth (by omega) ?_
      intro s' pa' pb' z h d l e'
      rw [e0] at e'
      simp only [Option.some.injEq, Obj.cells.injEq] at e'
      have e6 := e'.1
      unfold ropeC at e6
      simp only [Array.mk.injEq, List.cons.injEq, Value.string.injEq, Value.pointer.injEq, Value.int.injEq, true_and, and_true] at e6
      obtain ⟨rfl, rfl, rfl, rfl, rfl, _, _⟩ := e6
      rw [← hn]
      exact h5
    · have := (hoth _ hne).trans hp
      exact Lib.cell_of_heap this 0)
  replace HD := Lib.hid HD
  have hbx := cell_of_one pb0
  replace hn := Lib.hid hn
  clear HA HB HF HQ e1 p1 oth0 lowW hcnt e0 c5 c6 eb pb0 hr hW0
  subst hWb
  clear hbx bWb sWb sW0
  go_enter Try.func24, Try.ntmps24
  go_wp2_with fail
  refine HD.out.mono ?_
  rintro e wf ⟨rfl, w', hq, hwf⟩
  obtain ⟨hk, d0, d8⟩ := FIN.out w' hq wf hwf
  replace hq := Lib.hid hq
  replace hwf := Lib.hid hwf
  replace hk := Lib.hid hk
  go_wp2
  go_ret
  exact ⟨rfl, hk.out⟩

set_option maxRecDepth 100000 in
set_option maxHeartbeats 4000000 in
theorem ends_told {B g : Nat} {t : RT} {s0 : ByteArray} {pa0 pb0 : Option Addr} (w : World) (hr : RAt w B t g) (hB : B ≤ w.heap.size) (e0 : w.heap[g]? = some (.cells (ropeC s0 pa0 pb0 t.text.length t.high 1 (t.text.count 10 : Nat)) 61 (0, 0))) :
    Calls Try.prog 24 #[.pointer (some ⟨g, 0, none⟩)] w fun e w' => e = .returned (.int .i64 (t.text.count 10 : Nat)) ∧ KR B g w w' := by
  have hglt := hr.lt
  have e1 : (w.alloc (.cells #[.pointer (some ⟨g, 0, none⟩)] 23)).heap[g]? = some (.cells (ropeC s0 pa0 pb0 t.text.length t.high 1 (t.text.count 10 : Nat)) 61 (0, 0)) := (Lib.alloc_old _ _ _ hglt).trans e0
  obtain ⟨_, _, _, _, _, c5, _, _, c8⟩ := rope9 e1
  have HD := Lib.hid (do_done g 5 1 (by decide) (.func (.func 35) #[] #[.pointer (some ⟨w.heap.size, 0, none⟩)]) _ c5)
  obtain ⟨n, hn⟩ : ∃ n : Nat, n = t.text.count 10 := ⟨_, rfl⟩
  rw [← hn] at c8 ⊢
  replace e1 := Lib.hid e1
  replace e0 := Lib.hid e0
  replace hn := Lib.hid hn
  clear hr c5
  go_enter Try.func24, Try.ntmps24
  go_wp2_with fail
  refine HD.out.mono ?_
  rintro e w' ⟨rfl, hw'⟩
  subst hw'
  go_wp2
  go_ret
  exact ⟨rfl, KR.of_below hB ((Below.refl _ w).alloc (Nat.le_refl _) _)⟩

/-- ends: how many bytes 10 -/
theorem ends_any {B : Nat} : ∀ (t : RT) (g : Nat) (w : World), RAt w B t g → B ≤ w.heap.size → t.text.length ≤ 1000000 →
    Calls Try.prog 24 #[.pointer (some ⟨g, 0, none⟩)] w fun e w' => e = .returned (.int .i64 (t.text.count 10 : Nat)) ∧ KR B g w w' := by
  intro t
  induction t with
  | leaf s =>
    intro g w hr hB hl
    have hr' := hr
    obtain ⟨_, d, l, hm, e⟩ := hr'
    rcases hm with ⟨rfl, rfl⟩ | ⟨rfl, rfl⟩
    · have hnil : ∀ W, (∀ tt k, k < g → RAt w B tt k → RAt W B tt k) → B ≤ W.heap.size → Calls Try.prog 24 #[.pointer none] W fun e w' => e = .returned (.int .i64 ((0 : Nat) : Int)) ∧ KL B g W w' := fun W _ hW => (ends_nil W).mono fun e w' h => ⟨h.1, KL.of_below hW h.2⟩
      exact ends_first (t := .leaf s) (s := ⟨s.toArray⟩) 0 0 w hr hB (by omega) (by omega) (by rw [Lib.size_eq]; simpa [RT.text] using hl) e (by simp [RT.text]) hnil hnil
    · exact ends_told (t := .leaf s) w hr hB e
  | node a b iha ihb =>
    intro g w hr hB hl
    have hr' := hr
    obtain ⟨_, ga, gb, d, l, hga, hgb, hm, e, ha, hb⟩ := hr'
    simp only [RT.text, List.length_append] at hl
    rcases hm with ⟨rfl, rfl⟩ | ⟨rfl, rfl⟩
    · have c1 := List.count_le_length (a := 10) (l := a.text)
      have c2 := List.count_le_length (a := 10) (l := b.text)
      refine ends_first (t := .node a b) (s := ⟨#[]⟩) (a.text.count 10) (b.text.count 10) w hr hB (by omega) (by omega) (by simp [ByteArray.size]) e (by simp [RT.text]) ?_ ?_
      · intro W h1 h2
        exact (iha ga W (h1 a ga hga ha) h2 (by omega)).mono fun e w' h => ⟨h.1, h.2.kl hga⟩
      · intro W h1 h2
        exact (ihb gb W (h1 b gb hgb hb) h2 (by omega)).mono fun e w' h => ⟨h.1, h.2.kl hgb⟩
    · exact ends_told (t := .node a b) w hr hB e
end Go.Proofs.Ytnmlijngnnlejaa
