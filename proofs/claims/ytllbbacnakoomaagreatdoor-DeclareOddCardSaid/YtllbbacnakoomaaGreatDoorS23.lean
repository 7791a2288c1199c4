/- Texts of this seat's proofs, laid into one file. -/
import Derived.Test.YtllbbacnakoomaaGreatDoorS15
set_option maxRecDepth 100000
set_option maxHeartbeats 16000000
namespace Go.Proofs.YtllbbacnakoomaaGreatDoor
open Go.RowKit
set_option linter.unusedVariables false
structure Nd where
 (n : T) (ao : Option Addr) (cap : Nat)
def Nd.cs (x : Nd) : List Value := ndC x.n x.ao x.cap
def Ft (F : Nat → Prop) (m : Nat) (vs : List (Nat × Obj)) (O : Option Nat) (k : Nat) : Prop := (F k ∨ m ≤ k) ∧ (∀ x ∈ vs, x.1 ≠ k) ∧ O ≠ some k
structure Grown2 (w w' : World) (r : Nat) (O : Option Nat) : Prop where
 os : w'.os = w.os
 tape : w'.tape = w.tape
 output : w'.output = w.output
 size : w.heap.size ≤ w'.heap.size
 block : ∀ k, k < w.heap.size → k ≠ r → O ≠ some k → w'.heap[k]? = w.heap[k]?
 env : ∀ (b : Nat) x fz, w.heap[b]? = some (.cells x 113 fz) → w'.heap[b]? = some (.cells x 113 fz)
theorem Grown2.grown {w w' : World} {r : Nat} (h : Grown2 w w' r none) : w.grownBy w' (some r) :=
 ⟨h.os, h.tape, h.output, h.size, fun k hk hne => h.block k hk (fun e => hne (by rw [e])) (by simp)⟩
structure Cx (L : List Ct) (ta : Option Addr) (tc rb : Nat) (F : Nat → Prop) (O0 : Option Nat) (w0 : World) (s : Ps) (ns : List Nd) (vs : List (Nat × Obj)) (ks : List T) (v : Value) (w : World) : Prop where
 ps : PS L ta tc rb s w
 kp : Grown2 w0 w rb O0
 fr : ∀ k, F k → k ≠ rb ∧ k < w0.heap.size
 rb0 : rb < w0.heap.size
 tlo : ∀ b o, ta = some ⟨b, o, none⟩ → b < w0.heap.size
 vok : ∀ x ∈ vs, w.heap[x.1]? = some x.2 ∧ x.1 ≠ rb ∧ (w0.heap.size ≤ x.1 ∨ O0 = some x.1)
 vnd : (vs.map (·.1)).Nodup
 own : ∃ css, Own w 0 50 5 v css ∧ Reps w (Ft F w0.heap.size vs v.ownBlock) ks css
 olo : ∀ k, v.ownBlock = some k → k ≠ rb ∧ (w0.heap.size ≤ k ∨ O0 = some k)
 ovs : ∀ x ∈ vs, v.ownBlock ≠ some x.1
 nok : ∀ x ∈ ns, Rep w (Ft F w0.heap.size vs v.ownBlock) x.n x.cs
theorem nd_at {vs : List (Nat × Obj)} (h : (vs.map (·.1)).Nodup) {i j : Nat} {x y : Nat × Obj} (hi : vs[i]? = some x) (hj : vs[j]? = some y) (e : x.1 = y.1) : i = j := by
 have h' := List.pairwise_iff_getElem.1 h
 obtain ⟨a1, a2⟩ := List.getElem?_eq_some_iff.1 hi
 obtain ⟨b1, b2⟩ := List.getElem?_eq_some_iff.1 hj
 rcases Nat.lt_trichotomy i j with k | k | k
 ·exact absurd (by rw [List.getElem_map, List.getElem_map, a2, b2]; exact e) (h' i j (by simpa using a1) (by simpa using b1) k)
 ·exact k
 ·exact absurd (by rw [List.getElem_map, List.getElem_map, a2, b2]; exact e.symm) (h' j i (by simpa using b1) (by simpa using a1) k)
variable {L : List Ct} {ta : Option Addr} {tc rb : Nat} {F : Nat → Prop} {O0 : Option Nat} {w0 : World} {s s' : Ps} {ns : List Nd} {vs : List (Nat × Obj)} {ks : List T} {v : Value} {w w' : World}
theorem PS.tlt (h : PS L ta tc rb s w) : ∀ b o, ta = some ⟨b, o, none⟩ → b < w.heap.size := fun b o e => by
 obtain ⟨c, fz, hc⟩ := h.tty b o e
 exact lt_of_block hc
theorem PS.otherT (h : PS L ta tc rb s w) {g : Nat} {c : Array Value} {e : TypeId} {fz : Nat × Nat} (hg : w.heap[g]? = some (.cells c e fz)) (he : e ≠ 138 ∧ e ≠ 113 ∧ (e ≠ 95 ∨ ∀ b o, ta = some ⟨b, o, none⟩ → b ≠ g)) (hs : c.size ≠ 256) (hk : ∀ k, k ≠ g → w'.heap[k]? = w.heap[k]?) : PS L ta tc rb s w' := by
 rcases he.2.2 with h1 | h1
 ·exact h.other hg ⟨he.1, he.2.1, h1⟩ hs hk
 have hne : ∀ {b : Nat} {y : Array Value} {e' : TypeId} {fy : Nat × Nat}, w.heap[b]? = some (.cells y e' fy) → e ≠ e' → b ≠ g := by
  rintro b y e' fy hb hee rfl
  rw [hg] at hb
  injection hb with hb
  injection hb with _ hb _
  exact hee hb
 obtain ⟨p, hp, hev⟩ := h.rd
 have htk : ∀ b o, ta = some ⟨b, o, none⟩ → w'.heap[b]? = w.heap[b]? := fun b o e => hk b (h1 b o e)
 refine ⟨?_, h.tne, h.len, h.cap, h.tsz, ⟨p, (hk _ (hne hp he.1)).trans hp, hev.moved fun b x fz hx => (hk b (hne hx he.2.1)).trans hx⟩, h.lo, h.hi, h.tab.block fun b y e' fy hy hs' => hk b (by
  rintro rfl
  rw [hg] at hy
  injection hy with hy
  injection hy with hy _ _
  rw [← hy] at hs'
  exact hs hs'), fun b o e => ?_⟩
 ·intro hn
  obtain ⟨b, o, rfl, hat⟩ := h.toks hn
  exact ⟨b, o, rfl, fun i cs hi j u hj => (World.cell?_of_block (a := ⟨b, o + i * 7 + j, none⟩) (htk b o rfl)).trans (hat i cs hi j u hj)⟩
 ·obtain ⟨y, fy, hy⟩ := h.tty b o e
  exact ⟨y, fy, (htk b o e).trans hy⟩
theorem Cx.start (h : PS L ta tc rb s w) : Cx L ta tc rb (fun _ => False) none w s [] [] [] (.slice none 0 0) w :=
 ⟨h, ⟨rfl, rfl, rfl, Nat.le_refl _, fun _ _ _ _ => rfl, fun _ _ _ h => h⟩, fun _ h => h.elim, h.lt, h.tlt, by simp, by simp, ⟨[], Own.nil _ _ _ _, .nil⟩, by simp [Value.ownBlock], by simp, by simp⟩
theorem Cx.startN (h : PS L ta tc rb s w) {G : Nat → Prop} (hG : ¬ G rb) {ns : List Nd} (hn : ∀ x ∈ ns, Rep w G x.n x.cs) : Cx L ta tc rb (fun k => G k ∧ k < w.heap.size) none w s ns [] [] (.slice none 0 0) w :=
 ⟨h, ⟨rfl, rfl, rfl, Nat.le_refl _, fun _ _ _ _ => rfl, fun _ _ _ h => h⟩, fun k hk => ⟨by rintro rfl; exact hG hk.1, hk.2⟩, h.lt, h.tlt, by simp, by simp, ⟨[], Own.nil _ _ _ _, .nil⟩, by simp [Value.ownBlock], by simp, fun x hx =>
  (hn x hx).wide fun k hk hl => ⟨.inl ⟨hk, hl⟩, by simp, by simp [Value.ownBlock]⟩⟩
theorem Cx.call (C : Cx L ta tc rb F O0 w0 s ns vs ks v w) (h : PS L ta tc rb s' w') (k : w.grownBy w' (some rb)) : Cx L ta tc rb F O0 w0 s' ns vs ks v w' := by
 have hne : ∀ k, Ft F w0.heap.size vs v.ownBlock k → k ≠ rb := by
  rintro k ⟨h | h, _, _⟩
  ·exact (C.fr k h).1
  ·have := C.rb0; omega
 have hK : KeptOn (Ft F w0.heap.size vs v.ownBlock) w w' := fun i hi hl => k.block i hl (by intro e; exact hne i hi (Option.some.inj e))
 obtain ⟨p, hp, _⟩ := C.ps.rd
 refine ⟨h, ⟨k.os.trans C.kp.os, k.tape.trans C.kp.tape, k.output.trans C.kp.output, Nat.le_trans C.kp.size k.size, fun i h1 h2 h3 => (k.block i (Nat.lt_of_lt_of_le h1 C.kp.size) (by intro e; exact h2 (Option.some.inj e))).trans (C.kp.block i h1 h2 h3), fun b x fz hx => kp_env k hp b x fz (C.kp.env b x fz hx)⟩, C.fr, C.rb0, C.tlo, fun x hx => ?_, C.vnd, ?_, C.olo, C.ovs, fun x hx => (C.nok x hx).later hK⟩
 ·obtain ⟨h1, h2⟩ := C.vok x hx
  exact ⟨kp_block k h1 h2.1, h2⟩
 ·obtain ⟨css, h1, h2⟩ := C.own
  refine ⟨css, h1.kept k ?_, h2.later hK⟩
  cases hv : v.ownBlock with
  | none => exact .inl rfl
  | some i =>
    right
    intro e
    exact (C.olo i hv).1 (Option.some.inj e)
theorem Cx.below (C : Cx L ta tc rb F O0 w0 s ns vs ks v w) (hb : Below w.heap.size w w') : Cx L ta tc rb F O0 w0 s ns vs ks v w' := C.call (C.ps.below hb) (kp_of_below hb _)
theorem Own.block_lt {w : World} {B e sz : Nat} {v : Value} {css : List (List Value)} (h : Own w B e sz v css) {k : Nat} (hk : v.ownBlock = some k) : k < w.heap.size := by
 obtain ⟨c, fz, hc⟩ := h.size_lt k hk
 exact lt_of_block hc
theorem Cx.retF (C : Cx L ta tc rb F O0 w0 s ns vs ks v w) {n : T} {ao : Option Addr} {cap : Nat} (hn : Rep w' (fun k => Ft F w0.heap.size vs v.ownBlock k ∨ w.heap.size ≤ k) n (ndC n ao cap)) (h : PS L ta tc rb s' w') (k : w.grownBy w' (some rb)) : Cx L ta tc rb F O0 w0 s' (⟨n, ao, cap⟩ :: ns) vs ks v w' := by
 have C' := C.call h k
 refine ⟨C'.ps, C'.kp, C'.fr, C'.rb0, C'.tlo, C'.vok, C'.vnd, C'.own, C'.olo, C'.ovs, fun x hx => ?_⟩
 rcases List.mem_cons.1 hx with rfl | hx
 ·refine hn.wide fun i hi _ => ?_
  rcases hi with hi | hi
  ·exact hi
  ·refine ⟨.inr (Nat.le_trans C.kp.size hi), fun y hy e => ?_, fun e => ?_⟩
   ·have := lt_of_block (C.vok y hy).1
    omega
   ·obtain ⟨css, h1, _⟩ := C.own
    have := h1.block_lt e
    omega
 ·exact C'.nok x hx
theorem Cx.ret (C : Cx L ta tc rb F O0 w0 s ns vs ks v w) {n : T} {ao : Option Addr} {cap : Nat} (hn : NdAt w' w.heap.size n ao cap) (h : PS L ta tc rb s' w') (k : w.grownBy w' (some rb)) : Cx L ta tc rb F O0 w0 s' (⟨n, ao, cap⟩ :: ns) vs ks v w' :=
 C.retF (hn.wide fun i hi _ => .inr hi) h k
theorem Cx.leaf (C : Cx L ta tc rb F O0 w0 s ns vs ks v w) (k t : ByteArray) (f o : Int) : Cx L ta tc rb F O0 w0 s (⟨.mk k t f o [], none, 0⟩ :: ns) vs ks v w :=
 C.ret (NdAt.leaf _ _ _ _ _ _) C.ps (kp_refl _ _)
theorem Cx.belowV (C : Cx L ta tc rb F O0 w0 s ns vs ks v w) (hb : Below w.heap.size w w') {a : Nat} {o : Obj} (hg : w'.heap[a]? = some o) (hge : w.heap.size ≤ a) : Cx L ta tc rb F O0 w0 s ns ((a, o) :: vs) ks v w' := by
 have C' := C.below hb
 have hlt : ∀ x ∈ vs, x.1 < w.heap.size := fun x hx => lt_of_block (C.vok x hx).1
 have hown : ∀ k, v.ownBlock = some k → k < w.heap.size := fun k hk => by
  obtain ⟨css, h1, _⟩ := C.own
  exact h1.block_lt hk
 have hw : ∀ k, (Ft F w0.heap.size vs v.ownBlock k ∧ k < w.heap.size) → Ft F w0.heap.size ((a, o) :: vs) v.ownBlock k := by
  rintro k ⟨⟨h1, h2, h3⟩, h4⟩
  refine ⟨h1, fun x hx => ?_, h3⟩
  rcases List.mem_cons.1 hx with rfl | hx
  ·simp only; omega
  ·exact h2 x hx
 refine ⟨C'.ps, C'.kp, C'.fr, C'.rb0, C'.tlo, fun x hx => ?_, ?_, ?_, C'.olo, fun x hx => ?_, fun x hx => ?_⟩
 ·rcases List.mem_cons.1 hx with rfl | hx
  ·exact ⟨hg, by have := C.ps.lt; simp only; omega, .inl (Nat.le_trans C.kp.size hge)⟩
  ·exact C'.vok x hx
 ·rw [List.map_cons, List.nodup_cons]
  refine ⟨fun hm => ?_, C.vnd⟩
  obtain ⟨y, hy, e⟩ := List.mem_map.1 hm
  have := hlt y hy
  simp only at e
  omega
 ·obtain ⟨css, h1, h2⟩ := C.own
  exact ⟨css, h1.below hb, ((h2.wide (G := fun k => Ft F w0.heap.size vs v.ownBlock k ∧ k < w.heap.size) fun k h1 h2 => ⟨h1, h2⟩).later (KeptOn.of_below hb)).wide fun k h _ => hw k h⟩
 ·rcases List.mem_cons.1 hx with rfl | hx
  ·intro e
   have := hown _ e
   simp only at this
   omega
  ·exact C.ovs x hx
 ·exact (((C.nok x hx).wide (G := fun k => Ft F w0.heap.size vs v.ownBlock k ∧ k < w.heap.size) fun k h1 h2 => ⟨h1, h2⟩).later (KeptOn.of_below hb)).wide fun k h _ => hw k h
theorem Cx.alloc (C : Cx L ta tc rb F O0 w0 s ns vs ks v w) (o : Obj) {a : Nat} (ha : a = w.heap.size) : Cx L ta tc rb F O0 w0 s ns ((a, o) :: vs) ks v (w.alloc o) := by
 subst ha
 exact C.belowV ((Below.refl w.heap.size w).alloc (Nat.le_refl _) o) (heap_alloc_new w o) (Nat.le_refl _)
theorem Cx.var (C : Cx L ta tc rb F O0 w0 s ns vs ks v w) {i g : Nat} {o : Obj} (h : vs[i]? = some (g, o)) : w.heap[g]? = some o := (C.vok _ (List.mem_of_getElem? h)).1
theorem set_at {α : Type} {l : List α} {i j : Nat} {a x : α} (h : (l.set i a)[j]? = some x) : (j = i ∧ x = a) ∨ (j ≠ i ∧ l[j]? = some x) := by
 rw [List.getElem?_set] at h
 by_cases e : i = j
 ·subst e
  left
  simp at h
  exact ⟨rfl, h.2.symm⟩
 ·rw [if_neg e] at h
  exact .inr ⟨fun h => e h.symm, h⟩
theorem Cx.turn (C : Cx L ta tc rb F O0 w0 s ns vs ks v w) {i g : Nat} {c c' : Array Value} {t : TypeId} {fz : Nat × Nat} (h : vs[i]? = some (g, .cells c t fz)) (ht : t ≠ 138 ∧ t ≠ 113) (hO : O0 = none ∨ t ≠ 95) (hs : c.size ≠ 256)
 (h1 : w'.heap[g]? = some (.cells c' t fz)) (h2 : ∀ k, k ≠ g → w'.heap[k]? = w.heap[k]?) (h3 : w'.os = w.os ∧ w'.tape = w.tape ∧ w'.output = w.output ∧ w.heap.size ≤ w'.heap.size) : Cx L ta tc rb F O0 w0 s ns (vs.set i (g, .cells c' t fz)) ks v w' := by
 have hb := C.var h
 have hg0 := (C.vok _ (List.mem_of_getElem? h)).2
 simp only at hg0
 have hge : ∀ x ∈ vs.set i (g, .cells c' t fz), ∃ y ∈ vs, y.1 = x.1 := by
  intro x hx
  obtain ⟨j, hj⟩ := List.getElem?_of_mem hx
  rcases set_at hj with ⟨_, rfl⟩ | ⟨_, hj⟩
  ·exact ⟨_, List.mem_of_getElem? h, rfl⟩
  ·exact ⟨x, List.mem_of_getElem? hj, rfl⟩
 have hft : ∀ k, Ft F w0.heap.size vs v.ownBlock k → Ft F w0.heap.size (vs.set i (g, .cells c' t fz)) v.ownBlock k := by
  rintro k ⟨h1, h2, h3⟩
  refine ⟨h1, fun x hx => ?_, h3⟩
  obtain ⟨y, hy, e⟩ := hge x hx
  rw [← e]
  exact h2 y hy
 have hK : KeptOn (Ft F w0.heap.size vs v.ownBlock) w w' := fun k hk _ => h2 _ (fun e => hk.2.1 _ (List.mem_of_getElem? h) e.symm)
 refine ⟨C.ps.otherT hb ⟨ht.1, ht.2, hO.symm.imp id fun hO b o e => by
  have := C.tlo b o e
  rcases hg0.2 with h | h
  ·omega
  ·rw [hO] at h; cases h⟩ hs h2, ⟨h3.1.trans C.kp.os, h3.2.1.trans C.kp.tape, h3.2.2.1.trans C.kp.output, Nat.le_trans C.kp.size h3.2.2.2, fun k k1 k2 k3 => (h2 _ (by
  rintro rfl
  rcases hg0.2 with e | e
  ·omega
  ·exact k3 e)).trans (C.kp.block k k1 k2 k3), fun b x fz' hx => (h2 _ (by
  rintro rfl
  have := C.kp.env _ _ _ hx
  rw [hb] at this
  injection this with this
  injection this with _ this _
  exact ht.2 this)).trans (C.kp.env b x fz' hx)⟩, C.fr, C.rb0, C.tlo, fun x hx => ?_, ?_, ?_, C.olo, fun x hx => ?_, fun x hx => ?_⟩
 ·obtain ⟨j, hj⟩ := List.getElem?_of_mem hx
  rcases set_at hj with ⟨_, rfl⟩ | ⟨hne, hj⟩
  ·exact ⟨h1, hg0⟩
  ·have := C.vok x (List.mem_of_getElem? hj)
   exact ⟨(h2 _ (fun e => hne (nd_at C.vnd hj h e))).trans this.1, this.2⟩
 ·have e : (vs.set i (g, .cells c' t fz)).map (·.1) = vs.map (·.1) := by
   refine List.ext_getElem? fun j => ?_
   rw [List.getElem?_map, List.getElem?_map, List.getElem?_set]
   by_cases hij : i = j
   ·subst hij
    rw [if_pos rfl, h, if_pos (List.getElem?_eq_some_iff.1 h).1]
    rfl
   ·rw [if_neg hij]
  rw [e]
  exact C.vnd
 ·obtain ⟨css, k1, k2⟩ := C.own
  refine ⟨css, ?_, (k2.later hK).wide fun k hk _ => hft k hk⟩
  refine ⟨⟨k1.1.1, ?_⟩, k1.2⟩
  rcases k1.1.2 with h0 | ⟨g', cap, cur, hv, hg1, hg, r⟩
  ·exact .inl h0
  ·refine .inr ⟨g', cap, cur, hv, hg1, (h2 _ ?_).trans hg, r⟩
   intro e
   exact C.ovs _ (List.mem_of_getElem? h) (by rw [hv, ← e]; rfl)
 ·obtain ⟨y, hy, e⟩ := hge x hx
  rw [← e]
  exact C.ovs y hy
 ·exact ((C.nok x hx).later hK).wide fun k hk _ => hft k hk
theorem Cx.set (C : Cx L ta tc rb F O0 w0 s ns vs ks v w) {i g : Nat} {c : Array Value} {fz : Nat × Nat} (h : vs[i]? = some (g, .cells c 50 fz)) (hs : c.size = 5) (cs : Array Value) : Cx L ta tc rb F O0 w0 s ns (vs.set i (g, .cells cs 50 fz)) ks v (w.setRow g cs) :=
 C.turn h (by decide) (.inr (by decide)) (by omega) (setRow_heap _ _ _ _ _ _ (C.var h)) (fun k hk => row_other _ hk) ⟨rfl, rfl, rfl, by simp only [World.setRow, Array.size_modify]; exact Nat.le_refl _⟩
theorem Cx.setT {F : Nat → Prop} (C : Cx L ta tc rb F none w0 s ns vs ks v w) {i g : Nat} {c : Array Value} {fz : Nat × Nat} (h : vs[i]? = some (g, .cells c 95 fz)) (hs : c.size = 7) (cs : Array Value) : Cx L ta tc rb F none w0 s ns (vs.set i (g, .cells cs 95 fz)) ks v (w.setRow g cs) :=
 C.turn h (by decide) (.inl rfl) (by omega) (setRow_heap _ _ _ _ _ _ (C.var h)) (fun k hk => row_other _ hk) ⟨rfl, rfl, rfl, by simp only [World.setRow, Array.size_modify]; exact Nat.le_refl _⟩
theorem Cx.setc (C : Cx L ta tc rb F O0 w0 s ns vs ks v w) {i g : Nat} {c : Array Value} {t : TypeId} {fz : Nat × Nat} (h : vs[i]? = some (g, .cells c t fz)) (ht : t ≠ 138 ∧ t ≠ 113 ∧ t ≠ 95) (hs : c.size ≠ 256) (j : Nat) (u : Value) : Cx L ta tc rb F O0 w0 s ns (vs.set i (g, .cells (c.setIfInBounds j u) t fz)) ks v (w.setCell ⟨g, j, none⟩ u) :=
 C.turn h ⟨ht.1, ht.2.1⟩ (.inr ht.2.2) hs (rd_set (C.var h)) (fun k hk => Below.heap_setCell _ _ _ _ (fun e => hk e)) ⟨rfl, rfl, rfl, by simp [World.size_setCell]⟩
theorem Cx.weak (C : Cx L ta tc rb F O0 w0 s ns vs ks v w) {ns' : List Nd} {vs' : List (Nat × Obj)} (hn : ∀ x ∈ ns', x ∈ ns) (hv : vs'.Sublist vs) : Cx L ta tc rb F O0 w0 s ns' vs' ks v w := by
 have hft : ∀ k, Ft F w0.heap.size vs v.ownBlock k → Ft F w0.heap.size vs' v.ownBlock k := fun k ⟨h1, h2, h3⟩ => ⟨h1, fun x hx => h2 x (hv.subset hx), h3⟩
 obtain ⟨css, h1, h2⟩ := C.own
 refine ⟨C.ps, C.kp, C.fr, C.rb0, C.tlo, fun x hx => C.vok x (hv.subset hx), List.Pairwise.sublist (hv.map _) C.vnd, ⟨css, h1, h2.wide fun k hk _ => hft k hk⟩, C.olo, fun x hx => C.ovs x (hv.subset hx), fun x hx => (C.nok x (hn x hx)).wide fun k hk _ => hft k hk⟩
theorem Cx.env (C : Cx L ta tc rb F O0 w0 s ns vs ks v w) {p : Option Addr} {e : Ev} (h : EvAt w0 p e) : EvAt w p e := h.moved C.kp.env
theorem Cx.up (C : Cx L ta tc rb F O0 w0 s ns vs ks v w) {n : Int} (h1 : -1 ≤ s.at_ + n) (h2 : s.at_ + n ≤ L.length) : Cx L ta tc rb F O0 w0 (s.up n) ns vs ks v (w.setCell ⟨rb, 1, none⟩ (.int .i64 (s.at_ + n))) := C.call (C.ps.up h1 h2) (kp_set _ _ _ _)
theorem Cx.into (C : Cx L ta tc rb F O0 w0 s ns vs ks v w) {p : Option Addr} {e : Ev} (h : EvAt w p e) : Cx L ta tc rb F O0 w0 (s.into e) ns vs ks v (w.setCell ⟨rb, 2, none⟩ (.pointer p)) := C.call (C.ps.into h) (kp_set _ _ _ _)
theorem Cx.sl (C : Cx L ta tc rb F O0 w0 s ns vs ks v w) : ∃ ao cap, v = .slice ao ks.length cap := by
 obtain ⟨css, h1, h2⟩ := C.own
 obtain ⟨ao, cap, rfl, _⟩ := h1.rown h2.len
 exact ⟨ao, cap, rfl⟩
theorem Reps.pick {w : World} {G : Nat → Prop} : ∀ {xs : List Nd}, (∀ x ∈ xs, Rep w G x.n x.cs) → Reps w G (xs.map (·.n)) (xs.map Nd.cs)
 | [], _ => .nil
 | x :: xs, h => .cons (h x (by simp)) (Reps.pick fun y hy => h y (by simp [hy]))
theorem Cx.lit (C : Cx L ta tc rb F O0 w0 s ns vs ks v w) (xs : List Nd) (h : ∀ x ∈ xs, x ∈ ns) (hl : xs.length ≤ 1000) {o : Obj} (ho : o = .cells (xs.map Nd.cs).flatten.toArray 50 (0,0)) {a n : Nat} (ha : a = w.heap.size) (hn : n = xs.length) : Cx L ta tc rb F O0 w0 s ns vs (xs.map (·.n)) (.slice (some ⟨a, 0, none⟩) n n) (w.alloc o) := by
 subst ho ha hn
 have hb := (Below.refl w.heap.size w).alloc (Nat.le_refl _) (.cells (xs.map Nd.cs).flatten.toArray 50 (0,0))
 have C' := C.below hb
 have hsz : ∀ c ∈ xs.map Nd.cs, c.length = 5 := by
  intro c hc
  obtain ⟨x, _, rfl⟩ := List.mem_map.1 hc
  rfl
 have hf : (xs.map Nd.cs).flatten.length = xs.length * 5 := by rw [flatten_len hsz, List.length_map]
 have hw : ∀ k, (Ft F w0.heap.size vs v.ownBlock k ∧ k < w.heap.size) → Ft F w0.heap.size vs (some w.heap.size) k := by
  rintro k ⟨⟨h1, h2, h3⟩, h4⟩
  refine ⟨h1, h2, fun e => ?_⟩
  have := Option.some.inj e
  omega
 have hN : ∀ x ∈ ns, Rep (w.alloc (.cells (xs.map Nd.cs).flatten.toArray 50 (0,0))) (Ft F w0.heap.size vs (some w.heap.size)) x.n x.cs := fun x hx =>
  (((C.nok x hx).wide (G := fun k => Ft F w0.heap.size vs v.ownBlock k ∧ k < w.heap.size) fun k h1 h2 => ⟨h1, h2⟩).later (KeptOn.of_below hb)).wide fun k h _ => hw k h
 have hO : Own (w.alloc (.cells (xs.map Nd.cs).flatten.toArray 50 (0,0))) 0 50 5 (.slice (some ⟨w.heap.size, 0, none⟩) xs.length xs.length) (xs.map Nd.cs) := by
  refine ⟨⟨by rw [flatten_len hsz], .inr ⟨w.heap.size, xs.length, (xs.map Nd.cs).flatten.toArray, by rw [List.length_map], Nat.zero_le _, heap_alloc_new w _, by rw [List.length_map]; exact Nat.le_refl _, by unfold maxLen; omega, by rw [List.size_toArray, hf], ?_⟩⟩, hsz⟩
  rw [List.length_map, ← hf, List.take_length]
 refine ⟨C'.ps, C'.kp, C'.fr, C'.rb0, C'.tlo, C'.vok, C'.vnd, ⟨_, hO, Reps.pick fun x hx => hN x (h x hx)⟩, fun k hk => ?_, fun x hx e => ?_, hN⟩
 ·have := Option.some.inj hk
  simp only at this
  have h1 := C.ps.lt
  exact ⟨by omega, .inl (by have := C.kp.size; omega)⟩
 ·have h1 := lt_of_block (C.vok x hx).1
  have := Option.some.inj e
  simp only at this
  omega
theorem Cx.litN (C : Cx L ta tc rb F O0 w0 s ns vs ks v w) (xs : List Nd) (h : ∀ x ∈ xs, x ∈ ns) (hl : xs.length ≤ 1000) {o : Obj} (ho : o = .cells (xs.map Nd.cs).flatten.toArray 50 (0,0)) {a n : Nat} (ha : a = w.heap.size) (hn : n = xs.length) (k t : ByteArray) (f : Int) : Cx L ta tc rb F O0 w0 s (⟨mkP k t f s (xs.map (·.n)), some ⟨a, 0, none⟩, n⟩ :: ns) vs ks v (w.alloc o) := by
 subst ho ha hn
 have hb := (Below.refl w.heap.size w).alloc (Nat.le_refl _) (.cells (xs.map Nd.cs).flatten.toArray 50 (0,0))
 have hsz : ∀ c ∈ xs.map Nd.cs, c.length = 5 := by
  intro c hc
  obtain ⟨x, _, rfl⟩ := List.mem_map.1 hc
  rfl
 have hlm : (xs.map (·.n)).length = xs.length := List.length_map _
 refine C.retF (w' := w.alloc (.cells (xs.map Nd.cs).flatten.toArray 50 (0,0))) ?_ (C.ps.below hb) (kp_of_below hb _)
 unfold mkP
 have hR : Reps (w.alloc (.cells (xs.map Nd.cs).flatten.toArray 50 (0,0))) (fun k => Ft F w0.heap.size vs v.ownBlock k ∨ w.heap.size ≤ k) (xs.map (·.n)) (xs.map Nd.cs) :=
  Reps.pick fun x hx => ((C.nok x (h x hx)).later (KeptOn.of_below hb)).wide fun k hk _ => .inl hk
 have := Rep.mk (k := k) (t := t) (f := f) (o := s.at_) (ao := some ⟨w.heap.size, 0, none⟩) (cap := xs.length) hR (fun _ => ⟨w.heap.size, 0, rfl, .inr (Nat.le_refl _), (by
  obtain ⟨b, o, e, r⟩ := row_new w hsz 50 rfl rfl (by assumption)
  simp only [Option.some.injEq, Addr.mk.injEq, and_true] at e
  obtain ⟨rfl, rfl⟩ := e
  exact r)⟩) ⟨by omega, by omega⟩
 unfold ndC
 exact this
theorem Cx.fresh (C : Cx L ta tc rb F O0 w0 s ns vs ks v w) : Cx L ta tc rb F O0 w0 s ns vs [] (.slice none 0 0) w := by
 have hft : ∀ k, Ft F w0.heap.size vs v.ownBlock k → Ft F w0.heap.size vs (Value.ownBlock (.slice none 0 0)) k := fun k ⟨h1, h2, h3⟩ => ⟨h1, h2, by simp [Value.ownBlock]⟩
 exact ⟨C.ps, C.kp, C.fr, C.rb0, C.tlo, C.vok, C.vnd, ⟨[], Own.nil _ _ _ _, .nil⟩, by simp [Value.ownBlock], by simp [Value.ownBlock], fun x hx => (C.nok x hx).wide fun k hk _ => hft k hk⟩
theorem Cx.nodeOf {ao : Option Addr} {n cap : Nat} (C : Cx L ta tc rb F none w0 s ns vs ks (.slice ao n cap) w) (hl : ks.length ≤ 1000000000) (k t : ByteArray) (f o : Int) : Cx L ta tc rb F none w0 s (⟨.mk k t f o ks, ao, cap⟩ :: ns) vs [] (.slice none 0 0) w := by
 have C' := C.fresh
 refine ⟨C'.ps, C'.kp, C'.fr, C'.rb0, C'.tlo, C'.vok, C'.vnd, C'.own, C'.olo, C'.ovs, fun x hx => ?_⟩
 rcases List.mem_cons.1 hx with rfl | hx
 ·obtain ⟨css, h1, h2⟩ := C.own
  obtain ⟨ao', cap', hv, hc, hm, hr, _⟩ := h1.rown h2.len
  injection hv with e1 e2 e3
  subst e1 e2 e3
  refine .mk (h2.wide fun k hk _ => ⟨hk.1, hk.2.1, by simp [Value.ownBlock]⟩) ?_ ⟨hc, hl⟩
  intro hne
  obtain ⟨b, o, rfl, hat⟩ := hr hne
  refine ⟨b, o, rfl, ⟨.inr ?_, fun x hx e => C.ovs x hx (by rw [e]; rfl), by simp [Value.ownBlock]⟩, hat⟩
  rcases (C.olo b rfl).2 with h | h
  ·exact h
  ·cases h
 ·exact C'.nok x hx
theorem Cx.made {ao : Option Addr} {n cap : Nat} (C : Cx L ta tc rb F none w0 s ns vs ks (.slice ao n cap) w) (hb : Below w.heap.size w w') (hl : ks.length ≤ 1000000000) (k t : ByteArray) (f : Int) : Cx L ta tc rb F none w0 s (⟨mkP k t f s ks, ao, cap⟩ :: ns) vs [] (.slice none 0 0) w' := (C.below hb).nodeOf hl k t f s.at_
theorem Cx.out (C : Cx L ta tc rb (fun _ => False) none w0 s ns vs ks v w) {n : T} {ao : Option Addr} {cap : Nat} (h : (⟨n, ao, cap⟩ : Nd) ∈ ns) : NdAt w w0.heap.size n ao cap ∧ PS L ta tc rb s w ∧ w0.grownBy w (some rb) :=
 ⟨(C.nok _ h).wide fun k hk _ => hk.1.elim (fun h => h.elim) id, C.ps, C.kp.grown⟩
theorem Cx.outF {G : Nat → Prop} (C : Cx L ta tc rb (fun k => G k ∧ k < w0.heap.size) none w0 s ns vs ks v w) {n : T} {ao : Option Addr} {cap : Nat} (h : (⟨n, ao, cap⟩ : Nd) ∈ ns) : Rep w (fun k => G k ∨ w0.heap.size ≤ k) n (ndC n ao cap) ∧ PS L ta tc rb s w ∧ w0.grownBy w (some rb) :=
 ⟨(C.nok _ h).wide fun k hk _ => hk.1.elim (fun h => .inl h.1) .inr, C.ps, C.kp.grown⟩
theorem Cx.nrb (C : Cx L ta tc rb F O0 w0 s ns vs ks v w) : ¬ Ft F w0.heap.size vs v.ownBlock rb := by
 rintro ⟨h | h, _, _⟩
 ·exact (C.fr _ h).1 rfl
 ·have := C.rb0; omega
def NdRetF (L : List Ct) (ta : Option Addr) (tc rb : Nat) (H : Nat → Prop) (w : World) (n : T) (s : Ps) (e : Ending) (w' : World) : Prop :=
 ∃ ao cap, e = .returned (ndV n ao cap) ∧ Rep w' (fun k => H k ∨ w.heap.size ≤ k) n (ndC n ao cap) ∧ PS L ta tc rb s w' ∧ w.grownBy w' (some rb)
abbrev bxO (n : T) (ao : Option Addr) (cap : Nat) : Obj := .cells #[.string n.kind, .string n.text, .int .i64 n.from_, .int .i64 n.to_, .slice ao n.kids.length cap] 50 (0,0)
abbrev rowA (n : T) (ao : Option Addr) (cap : Nat) : Array Value := #[.string n.kind, .string n.text, .int .i64 n.from_, .int .i64 n.to_, .slice ao n.kids.length cap]
abbrev nzO : Obj := .cells #[.string ⟨#[]⟩, .string ⟨#[]⟩, .int .i64 0, .int .i64 0, .slice none 0 0] 50 (0,0)
abbrev lfO (n : T) : Obj := .cells #[.string n.kind, .string n.text, .int .i64 n.from_, .int .i64 n.to_, .slice none 0 0] 50 (0,0)
abbrev ctO (t : Ct) : Obj := .cells #[.int .i64 t.kind, .string t.text, .string t.file, .int .i64 t.f, .int .i64 t.t, .int .i64 t.fro, .int .i64 t.cnt] 95 (0,0)
theorem ct_box {g : Nat} {t : Ct} (h : w.heap[g]? = some (ctO t)) : w.cell? ⟨g, 0, none⟩ = some (.int .i64 t.kind) ∧ w.cell? ⟨g, 1, none⟩ = some (.string t.text) ∧ w.cell? ⟨g, 2, none⟩ = some (.string t.file) ∧ w.cell? ⟨g, 3, none⟩ = some (.int .i64 t.f) ∧ w.cell? ⟨g, 4, none⟩ = some (.int .i64 t.t) ∧ w.cell? ⟨g, 5, none⟩ = some (.int .i64 t.fro) ∧ w.cell? ⟨g, 6, none⟩ = some (.int .i64 t.cnt) ∧ ∀ j, w.frozen? ⟨g, j, none⟩ = false := by
 refine ⟨?_, ?_, ?_, ?_, ?_, ?_, ?_, fun j => Lib.frozen_of_heap h j⟩ <;> rw [Lib.cell_of_heap h] <;> rfl
theorem mem1 {x : Nd} {l : List Nd} : ∀ y ∈ [x], y ∈ x :: l := by
 intro y hy
 simp at hy
 subst hy
 exact .head _
theorem hasP_ok {L : List Ct} {s : Ps} {x : ByteArray} (h : s.bad = false) : hasP L s x = isP L s x := by unfold hasP; rw [h]; rfl
theorem hasW_ok {L : List Ct} {s : Ps} {x : ByteArray} (h : s.bad = false) : hasW L s x = wordP L s x := by unfold hasW; rw [h]; rfl
open Classical in
theorem wp_scope_gh {P : Program} {a : Act} {w : World} {Q : Exit → Act → World → Prop} {c rest : Code} (l : Nat) (J : Nat → Act → World → Prop) (hf : findLabel c l = some (.seq .skip rest))
 (first : (Hid (∀ n a w, J n a w → rest.wp P (Exit.jump l (fun a w => ∃ n, J n a w) Q) a w)) → c.wp P (Exit.jump l (fun a w => ∃ n, J n a w) Q) a w)
 (pass : ∀ n a w, J n a w → rest.wp P (Exit.jump l (fun a' w' => ∃ n', n' < n ∧ J n' a' w') Q) a w) : (Code.scope c).wp P Q a w := by
 refine wp_scope_loop l (fun a w => ∃ n, J n a w) (fun a w => leastOf (fun n => J n a w)) hf ?_ ?_
 ·intro h
  exact first (Hd (fun n a w hj => h.out a w ⟨n, hj⟩))
 ·rintro a w hj
  have hl := leastOf_spec hj
  refine Code.wp_mono ?_ (pass _ a w hl.1)
  intro e a' w' q
  cases e <;> first
   | exact q
   | exact ⟨q.1, ⟨_, q.2.choose_spec.2⟩, Nat.lt_of_le_of_lt ((leastOf_spec ⟨_, q.2.choose_spec.2⟩).2 _ q.2.choose_spec.2) q.2.choose_spec.1⟩
theorem PS.grown {g : Nat} {c : Array Value} {fz : Nat × Nat} (h : PS L ta tc rb s w) (hg : w.heap[g]? = some (.cells c 50 fz)) (hs : c.size ≠ 256) (hk : w.grownBy w' (some g)) : PS L ta tc rb s w' := by
 have hne : ∀ {b : Nat} {y : Array Value} {e' : TypeId} {fy : Nat × Nat}, w.heap[b]? = some (.cells y e' fy) → 50 ≠ e' → w'.heap[b]? = some (.cells y e' fy) := by
  intro b y e' fy hb hee
  refine kp_block hk hb ?_
  rintro rfl
  rw [hg] at hb
  injection hb with hb
  injection hb with _ hb _
  exact hee hb
 obtain ⟨p, hp, hev⟩ := h.rd
 refine ⟨?_, h.tne, h.len, h.cap, h.tsz, ⟨p, hne hp (by decide), hev.moved fun b x fz hx => hne hx (by decide)⟩, h.lo, h.hi, h.tab.block fun b y e' fy hy hs' => hk.block b (lt_of_block hy) (by
  intro e
  have := Option.some.inj e
  subst this
  rw [hg] at hy
  injection hy with hy
  injection hy with hy _ _
  rw [← hy] at hs'
  exact hs hs'), fun b o e => ?_⟩
 ·intro hn
  obtain ⟨b, o, rfl, hat⟩ := h.toks hn
  refine ⟨b, o, rfl, fun i cs hi j u hj => ?_⟩
  obtain ⟨y, fy, hy⟩ := h.tty b o rfl
  exact (World.cell?_of_block (a := ⟨b, o + i * 7 + j, none⟩) ((hne hy (by decide)).trans hy.symm)).trans (hat i cs hi j u hj)
 ·obtain ⟨y, fy, hy⟩ := h.tty b o e
  exact ⟨y, fy, hne hy (by decide)⟩
theorem Cx.snoc (C : Cx L ta tc rb F O0 w0 s ns vs ks v w) {x : Nd} (hx : x ∈ ns) {css : List (List Value)} (h1 : Own w 0 50 5 v css) (h2 : Reps w (Ft F w0.heap.size vs v.ownBlock) ks css) {n g' cap : Nat} (ho : Own w' 0 50 5 (.slice (some ⟨g', 0, none⟩) n cap) (css ++ [x.cs])) (hg : w.grownBy w' v.ownBlock) (hl : v.ownBlock = some g' ∨ w.heap.size ≤ g') :
 n = ks.length + 1 ∧ Cx L ta tc rb F O0 w0 s ns vs (ks ++ [x.n]) (.slice (some ⟨g', 0, none⟩) n cap) w' := by
 have hn : n = ks.length + 1 := by
  obtain ⟨_, _, e, _⟩ := ho.row
  injection e with _ e _
  rw [e, List.length_append, h2.len]
  rfl
 have hblk : ∀ k, k < w.heap.size → v.ownBlock ≠ some k → w'.heap[k]? = w.heap[k]? := fun k hk hne => hg.block k hk (fun e => hne e.symm)
 have hps : PS L ta tc rb s w' := by
  cases hv : v.ownBlock with
  | none =>
    rw [hv] at hg
    exact C.ps.below ⟨hg.os, hg.tape, hg.output, hg.size, fun k hk => hg.block k hk (by simp)⟩
  | some b =>
    rw [hv] at hg
    rcases h1.1.2 with ⟨rfl, _⟩ | ⟨g, cap', cur, rfl, _, hgb, _, _, hs, _⟩
    ·simp [Value.ownBlock] at hv
    ·simp only [Value.ownBlock, Option.some.injEq] at hv
     subst hv
     exact C.ps.grown hgb (by omega) hg
 have hft : ∀ k, (Ft F w0.heap.size vs v.ownBlock k ∧ k < w.heap.size) → Ft F w0.heap.size vs (some g') k := by
  rintro k ⟨⟨a, b, c⟩, d⟩
  refine ⟨a, b, fun e => ?_⟩
  have e' := Option.some.inj e
  rcases hl with hl | hl
  ·exact c (by rw [hl, e'])
  ·omega
 have hK : KeptOn (fun k => Ft F w0.heap.size vs v.ownBlock k ∧ k < w.heap.size) w w' := fun k hk hl => hblk k hl hk.1.2.2
 have hN : ∀ y ∈ ns, Rep w' (Ft F w0.heap.size vs (some g')) y.n y.cs := fun y hy => (((C.nok y hy).wide (G := fun k => Ft F w0.heap.size vs v.ownBlock k ∧ k < w.heap.size) fun k h1 h2 => ⟨h1, h2⟩).later hK).wide fun k h _ => hft k h
 refine ⟨hn, hps, ⟨hg.os.trans C.kp.os, hg.tape.trans C.kp.tape, hg.output.trans C.kp.output, Nat.le_trans C.kp.size hg.size, fun k a b c => (hblk k (Nat.lt_of_lt_of_le a C.kp.size) (fun e => by
  rcases (C.olo k e).2 with h | h
  ·omega
  ·exact c h)).trans (C.kp.block k a b c), fun b y fz hy => (hblk b (lt_of_block (C.kp.env b y fz hy)) (fun e => by
  obtain ⟨c, fz', hc⟩ := h1.size_lt b e
  rw [C.kp.env b y fz hy] at hc
  injection hc with hc
  injection hc with _ hc _
  revert hc
  decide)).trans (C.kp.env b y fz hy)⟩, C.fr, C.rb0, C.tlo, fun y hy => ?_, C.vnd, ⟨css ++ [x.cs], ho, ?_⟩, fun k hk => ?_, fun y hy e => ?_, hN⟩
 ·obtain ⟨a, b⟩ := C.vok y hy
  exact ⟨(hblk _ (lt_of_block a) (C.ovs y hy)).trans a, b⟩
 ·exact ((((h2.snoc (C.nok x hx)).wide (G := fun k => Ft F w0.heap.size vs v.ownBlock k ∧ k < w.heap.size) fun k h1 h2 => ⟨h1, h2⟩).later hK).wide fun k h _ => hft k h)
 ·have e := Option.some.inj hk
  simp only at e
  subst e
  rcases hl with hl | hl
  ·exact C.olo _ hl
  ·have h1 := C.ps.lt
   exact ⟨by omega, .inl (by have := C.kp.size; omega)⟩
 ·have e' := Option.some.inj e
  simp only at e'
  rcases hl with hl | hl
  ·exact C.ovs y hy (by rw [hl, e'])
  ·have := lt_of_block (C.vok y hy).1
   omega
theorem wpList_snoc (C : Cx L ta tc rb F O0 w0 s ns vs ks v w) {x : Nd} (hx : x ∈ ns) (hl : ks.length + 1 ≤ 1000000000) {ops : Array Oper} {rest : List Oper} {o : Oper} {a : Act} {Q : Exit → Act → World → Prop}
 (hgd : o.guard = none) {sl xo : Operand} (ho : o.op = .call { callee := .builtin .append, args := #[sl, xo], argTypes := #[48,48] }) (hs : a.eval sl = v) {c g : Nat} (hxo : a.eval xo = .slice (some ⟨g, 0, none⟩) 1 c) (hg : g = w.heap.size)
 (h : ∀ m ao cap w', Hid ((ks ++ [x.n]).length = m) → Cx L ta tc rb F O0 w0 s ns vs (ks ++ [x.n]) (.slice ao m cap) w' → wpList Tryz.prog ops Q rest (a.put o.dst (.slice ao m cap)) w') :
 wpList Tryz.prog ops Q (o :: rest) a (w.alloc (.cells x.cs.toArray 50 (0,0))) := by
 obtain ⟨css, h1, h2⟩ := C.own
 refine wpList_append1L E50 hgd ho h1 hs hxo hg rfl (by intro u hu; unfold Nd.cs ndC at hu; simp at hu; rcases hu with rfl | rfl | rfl | rfl | rfl <;> rfl) (by rw [h2.len]; exact hl) (by decide) (Nat.zero_le _) ?_
 intro n g' cap w' k1 k2 k3
 obtain ⟨k0, k4⟩ := C.snoc hx h1 h2 k1 k2 k3
 exact h n _ cap w' (Hd (by rw [k0, List.length_append]; rfl)) k4
abbrev ctZ : Obj := .cells #[.int .i64 0, .string ⟨#[]⟩, .string ⟨#[]⟩, .int .i64 0, .int .i64 0, .int .i64 0, .int .i64 0] 95 (0,0)
abbrev set7 (w : World) (g : Nat) (v0 v1 v2 v3 v4 v5 v6 : Value) : World := ((((((w.setCell ⟨g, 0, none⟩ v0).setCell ⟨g, 1, none⟩ v1).setCell ⟨g, 2, none⟩ v2).setCell ⟨g, 3, none⟩ v3).setCell ⟨g, 4, none⟩ v4).setCell ⟨g, 5, none⟩ v5).setCell ⟨g, 6, none⟩ v6
theorem ct_set7 {w : World} {g : Nat} {a0 a1 a2 a3 a4 a5 a6 v0 v1 v2 v3 v4 v5 v6 : Value} {e : TypeId} {fz : Nat × Nat} (h : w.heap[g]? = some (.cells #[a0, a1, a2, a3, a4, a5, a6] e fz)) : (set7 w g v0 v1 v2 v3 v4 v5 v6).heap[g]? = some (.cells #[v0, v1, v2, v3, v4, v5, v6] e fz) :=
 rd_set (c := #[v0, v1, v2, v3, v4, v5, a6]) (rd_set (c := #[v0, v1, v2, v3, v4, a5, a6]) (rd_set (c := #[v0, v1, v2, v3, a4, a5, a6]) (rd_set (c := #[v0, v1, v2, a3, a4, a5, a6]) (rd_set (c := #[v0, v1, a2, a3, a4, a5, a6]) (rd_set (c := #[v0, a1, a2, a3, a4, a5, a6]) (rd_set h))))))
theorem ct_set7_below {B : Nat} {a w : World} {g : Nat} {v0 v1 v2 v3 v4 v5 v6 : Value} (h : Below B a w) (hg : B ≤ g) : Below B a (set7 w g v0 v1 v2 v3 v4 v5 v6) :=
 ((((((h.setCell hg _).setCell hg _).setCell hg _).setCell hg _).setCell hg _).setCell hg _).setCell hg _
theorem cell_set1 {w : World} {g b i j : Nat} {x u : Value} (h : w.cell? ⟨b, j, none⟩ = some u) (hne : g ≠ b) : (w.setCell ⟨g, i, none⟩ x).cell? ⟨b, j, none⟩ = some u := by
 have e : (w.setCell ⟨g, i, none⟩ x).heap[b]? = w.heap[b]? := Below.heap_setCell _ _ _ _ (fun e => hne e.symm)
 exact (World.cell?_of_block (a := ⟨b, j, none⟩) e).trans h
theorem cell_set7 {w : World} {g b j : Nat} {v0 v1 v2 v3 v4 v5 v6 u : Value} (h : w.cell? ⟨b, j, none⟩ = some u) (hne : g ≠ b) : (set7 w g v0 v1 v2 v3 v4 v5 v6).cell? ⟨b, j, none⟩ = some u :=
 cell_set1 (cell_set1 (cell_set1 (cell_set1 (cell_set1 (cell_set1 (cell_set1 h hne) hne) hne) hne) hne) hne) hne
theorem cells7 {w : World} {b : Nat} {a0 a1 a2 a3 a4 a5 a6 : Value} {e : TypeId} (h : w.heap[b]? = some (.cells #[a0, a1, a2, a3, a4, a5, a6] e (0,0))) : w.cell? ⟨b, 0, none⟩ = some a0 ∧ w.cell? ⟨b, 1, none⟩ = some a1 ∧ w.cell? ⟨b, 2, none⟩ = some a2 ∧ w.cell? ⟨b, 3, none⟩ = some a3 ∧ w.cell? ⟨b, 4, none⟩ = some a4 ∧ w.cell? ⟨b, 5, none⟩ = some a5 ∧ w.cell? ⟨b, 6, none⟩ = some a6 ∧ ∀ j, w.frozen? ⟨b, j, none⟩ = false := by
 refine ⟨?_, ?_, ?_, ?_, ?_, ?_, ?_, fun j => Lib.frozen_of_heap h j⟩ <;> rw [Lib.cell_of_heap h] <;> rfl
theorem kept_one {w w1 : World} {a : Obj} (h : Below (w.alloc a).drew.heap.size (w.alloc a).drew w1) : w1.heap[w.heap.size]? = some a :=
 (h.block _ (by simp)).trans (heap_alloc_new w a)
theorem tok_reg {L : List Ct} {ta : Option Addr} {tc rb : Nat} {s : Ps} {w : World} (h : PS L ta tc rb s w) : ∀ x, Below w.heap.size w x → Calls Tryz.prog 100 #[.pointer (some ⟨rb, 0, none⟩)] x fun e w' => e = .returned (ctV (tokP L s.at_)) ∧ w'.cell? ⟨rb, 1, none⟩ = some (.int .i64 s.at_) ∧ x.heap.size ≤ w'.heap.size ∧ Below x.heap.size x w' ∧ Below w.heap.size w w' ∧ rb < w'.heap.size ∧ (∀ o, (w'.alloc o).cell? ⟨rb, 1, none⟩ = some (.int .i64 s.at_)) ∧ ∀ g, g ≠ rb → ∀ v0 v1 v2 v3 v4 v5 v6, (set7 w' g v0 v1 v2 v3 v4 v5 v6).cell? ⟨rb, 1, none⟩ = some (.int .i64 s.at_) := fun x hx => (tok_any (h.below hx)).mono fun e w' ⟨h1, h2⟩ => by
 have hw := hx.trans (h2.mono hx.size)
 obtain ⟨_, _, _, d1, _⟩ := (h.below hw).cells
 exact ⟨h1, d1, h2.size, h2, hw, (h.below hw).lt, fun o => kept_cell ((Below.refl _ w').alloc (Nat.le_refl _) o) d1, fun g hg v0 v1 v2 v3 v4 v5 v6 => cell_set7 d1 hg⟩
end Go.Proofs.YtllbbacnakoomaaGreatDoor
namespace Go.Proofs.YtllbbacnakoomaaGreatDoor
open Go.RowKit
set_option linter.unusedVariables false
structure TkAt (L : List Ct) (ta : Option Addr) (tc : Nat) (w : World) : Prop where
 toks : Row w 7 ta (L.map ctC)
 len : L.length ≤ 1000000
 cap : L.length ≤ tc
 tsz : ∀ t ∈ L, t.text.size ≤ 1000000000
 tab : SpTab w
 tty : ∀ b o, ta = some ⟨b, o, none⟩ → ∃ c fz, w.heap[b]? = some (.cells c 95 fz)
theorem TkAt.below {L : List Ct} {ta : Option Addr} {tc : Nat} {w w' : World} (h : TkAt L ta tc w) (hb : Below w.heap.size w w') : TkAt L ta tc w' :=
 ⟨h.toks.below hb, h.len, h.cap, h.tsz, h.tab.below hb, fun b o e => by
  obtain ⟨c, fz, hc⟩ := h.tty b o e
  exact ⟨c, fz, (hb.block _ (lt_of_block hc)).trans hc⟩⟩
abbrev paV (L : List Ct) (ta : Option Addr) (tc : Nat) (i : Int) (p : Option Addr) (nest : Nat) : Value := .agg #[.slice ta L.length tc, .int .i64 i, .pointer p, .int .i64 nest]
theorem open_any {L : List Ct} {ta : Option Addr} {tc nest : Nat} {i : Int} {p : Option Addr} {e : Ev} {w : World} (h : TkAt L ta tc w) (he : EvAt w p e) (h1 : -1 ≤ i) (h2 : i ≤ L.length) :
 Calls Tryz.prog 57 #[paV L ta tc i p nest] w fun r w' => ∃ rb, r = .returned (.pointer (some ⟨rb, 0, none⟩)) ∧ w.heap.size ≤ rb ∧ PS L ta tc rb ⟨i, e, false⟩ w' ∧ Below w.heap.size w w' := by
 have hb : ∀ o1 o2, Below w.heap.size w ((w.alloc o1).alloc o2) := fun o1 o2 => ((Below.refl _ w).alloc (Nat.le_refl _) o1).alloc (by simp) o2
 have hP : ∀ o1, Hid (PS L ta tc (w.heap.size + 1) ⟨i, e, false⟩ ((w.alloc o1).alloc (.cells (rdC ta L.length tc p ⟨i, e, false⟩) 138 (0,0)))) := fun o1 => Hd (by
  have h' := h.below (hb o1 (.cells (rdC ta L.length tc p ⟨i, e, false⟩) 138 (0,0)))
  refine ⟨h'.toks, fun b o eb => ?_, h.len, h.cap, h.tsz, ⟨p, heap_alloc2_new w o1 _, he.under (hb _ _)⟩, h1, h2, h'.tab, h'.tty⟩
  obtain ⟨c, fz, hc⟩ := h.tty b o eb
  have := lt_of_block hc
  omega)
 clear h he
 go_enter Tryz.func57, Tryz.ntmps57
 go_wp2
 go_ret
 exact ⟨_, rfl, Nat.le_succ _, (hP _).out, hb _ _⟩
end Go.Proofs.YtllbbacnakoomaaGreatDoor
namespace Go.Proofs.YtllbbacnakoomaaGreatDoor
open Go.RowKit
set_option linter.unusedVariables false
theorem results_row_row_tmp {P : Program} {fn : Func} {p q u : Tmp} {ty ty' : TypeId} (h : fn.results = #[.cell p ty, .cell q ty', .tmp u]) (tmps : Array Value) (w : World) (g : Nat) (t : TypeId) (cs : Array Value) (fr : Nat × Nat) (d : TypeDesc)
 (hp : tmps.getD p undef = .pointer (some ⟨g, 0, none⟩)) (hg : w.heap[g]? = some (.cells cs t fr))
 (hu : P.underlying ty = some d) (hd : (match d with | .struct _ | .array _ _ => true | _ => false) = true) (hi : (P.info? ty).map (·.size) = some cs.size)
 (g' : Nat) (t' : TypeId) (cs' : Array Value) (fr' : Nat × Nat) (d' : TypeDesc)
 (hp' : tmps.getD q undef = .pointer (some ⟨g', 0, none⟩)) (hg' : w.heap[g']? = some (.cells cs' t' fr'))
 (hu' : P.underlying ty' = some d') (hd' : (match d' with | .struct _ | .array _ _ => true | _ => false) = true) (hi' : (P.info? ty').map (·.size) = some cs'.size) :
 (results fn tmps).run P w = .ok (.tuple #[.agg cs, .agg cs', tmps.getD u undef]) w := by
 have h1 : tmps[p]?.getD undef = .pointer (some ⟨g, 0, none⟩) := by simpa using hp
 have h2 : tmps[q]?.getD undef = .pointer (some ⟨g', 0, none⟩) := by simpa using hp'
 simp [results, h, h1, h2, asAddr, run_loadVar_row w g t ty cs fr d hg hu hd hi, run_loadVar_row w g' t' ty' cs' fr' d' hg' hu' hd' hi']
abbrev paO (L : List Ct) (ta : Option Addr) (tc : Nat) (i : Int) (p : Option Addr) (nest : Nat) : Obj := .cells #[.slice ta L.length tc, .int .i64 i, .pointer p, .int .i64 nest] 46 (0,0)
abbrev pzO : Obj := .cells #[.slice none 0 0, .int .i64 0, .pointer none, .int .i64 0] 46 (0,0)
theorem set_o {w : World} {g j k : Nat} {u : Value} {x : Option Obj} (h : w.heap[k]? = x) (hne : k ≠ g) : (w.setCell ⟨g, j, none⟩ u).heap[k]? = x := (Below.heap_setCell _ _ _ _ hne).trans h
theorem pa_set4 {w : World} {g : Nat} {a0 a1 a2 a3 v0 v1 v2 v3 : Value} {e : TypeId} {fz : Nat × Nat} (h : w.heap[g]? = some (.cells #[a0, a1, a2, a3] e fz)) : ((((w.setCell ⟨g, 0, none⟩ v0).setCell ⟨g, 1, none⟩ v1).setCell ⟨g, 2, none⟩ v2).setCell ⟨g, 3, none⟩ v3).heap[g]? = some (.cells #[v0, v1, v2, v3] e fz) :=
 rd_set (c := #[v0, v1, v2, a3]) (rd_set (c := #[v0, v1, a2, a3]) (rd_set (c := #[v0, a1, a2, a3]) (rd_set h)))
theorem pa_cells {w : World} {g : Nat} {a0 a1 a2 a3 : Value} {e : TypeId} (h : w.heap[g]? = some (.cells #[a0, a1, a2, a3] e (0,0))) : w.cell? ⟨g, 0, none⟩ = some a0 ∧ w.cell? ⟨g, 1, none⟩ = some a1 ∧ w.cell? ⟨g, 2, none⟩ = some a2 ∧ w.cell? ⟨g, 3, none⟩ = some a3 ∧ ∀ j, w.frozen? ⟨g, j, none⟩ = false := by
 refine ⟨?_, ?_, ?_, ?_, fun j => Lib.frozen_of_heap h j⟩ <;> rw [Lib.cell_of_heap h] <;> rfl
theorem four_new (w : World) (a b c d : Obj) : Below w.heap.size w ((((w.alloc a).alloc b).alloc c).alloc d) ∧ ((((w.alloc a).alloc b).alloc c).alloc d).heap[w.heap.size]? = some a ∧ ((((w.alloc a).alloc b).alloc c).alloc d).heap[w.heap.size + 1]? = some b ∧ ((((w.alloc a).alloc b).alloc c).alloc d).heap[w.heap.size + 1 + 1]? = some c ∧ ((((w.alloc a).alloc b).alloc c).alloc d).heap[w.heap.size + 1 + 1 + 1]? = some d := by
 have s1 : (w.alloc a).heap.size = w.heap.size + 1 := by simp
 have s2 : ((w.alloc a).alloc b).heap.size = w.heap.size + 1 + 1 := by simp
 have s3 : (((w.alloc a).alloc b).alloc c).heap.size = w.heap.size + 1 + 1 + 1 := by simp
 refine ⟨((((Below.refl _ w).alloc (Nat.le_refl _) _).alloc (by omega) _).alloc (by omega) _).alloc (by omega) _, ?_, ?_, ?_, ?_⟩
 ·rw [heap_alloc_old _ _ (by omega), heap_alloc_old _ _ (by omega), heap_alloc_old _ _ (by omega), heap_alloc_new]
 ·rw [heap_alloc_old _ _ (by omega), heap_alloc_old _ _ (by omega), ← s1, heap_alloc_new]
 ·rw [heap_alloc_old _ _ (by omega), ← s2, heap_alloc_new]
 ·rw [← s3, heap_alloc_new]
def clV (L : List Ct) (ta : Option Addr) (tc : Nat) (s : Ps) (n : T) (ao : Option Addr) (cap nest : Nat) (p0 q : Option Addr) : Value := .tuple #[if s.bad = true then ndV zT none 0 else ndV n ao cap, paV L ta tc s.at_ (if s.bad = true then p0 else q) nest, .bool (!s.bad)]
def ClPost (L : List Ct) (ta : Option Addr) (tc : Nat) (s : Ps) (n : T) (ao : Option Addr) (cap nest : Nat) (p0 : Option Addr) (w : World) (e : Ending) (w' : World) : Prop :=
 ∃ q, e = .returned (clV L ta tc s n ao cap nest p0 q) ∧ EvAt w' q s.env ∧ Below w.heap.size w w'
theorem drew_o {w : World} {k : Nat} {x : Option Obj} (h : w.heap[k]? = x) : w.drew.heap[k]? = x := h
theorem close_any {L : List Ct} {ta : Option Addr} {tc rb : Nat} {s : Ps} {w : World} {i : Int} {p0 : Option Addr} {nest : Nat} {n : T} {ao : Option Addr} {cap : Nat} (h : PS L ta tc rb s w) :
 Calls Tryz.prog 60 #[.pointer (some ⟨rb, 0, none⟩), paV L ta tc i p0 nest, ndV n ao cap] w (ClPost L ta tc s n ao cap nest p0 w) := by
 obtain ⟨W, hW⟩ : ∃ W, W = (((w.alloc (paO L ta tc i p0 nest)).alloc (bxO n ao cap)).alloc nzO).alloc pzO := ⟨_, rfl⟩
 obtain ⟨hbW, hp, hn, hz, hy⟩ := four_new w (paO L ta tc i p0 nest) (bxO n ao cap) nzO pzO
 rw [← hW] at hbW hp hn hz hy
 have hlt := h.lt
 obtain ⟨q, hq, _, _, e2, e3, _⟩ := h.cells
 have hcb : ∀ j, W.cell? ⟨rb, j, none⟩ = w.cell? ⟨rb, j, none⟩ := fun j => World.cell?_of_block (a := ⟨rb, j, none⟩) (hbW.block rb hlt)
 obtain ⟨qq, he, c0, c1, _, _, cf⟩ := (h.below hbW).cells
 have c2 := (hcb 2).trans e2
 have c3 := (hcb 3).trans e3
 clear e2 e3 hcb
 have hbs := hbW.size
 have hl := lt_of_block hy
 replace he := Hd he
 replace hbW := Hd hbW
 obtain ⟨p0', p1', p2', p3', pf⟩ := pa_cells hp
 have hne : w.heap.size ≠ rb := by omega
 have hcl : ∀ e z, Below w.heap.size w z → e = .returned (.tuple #[if s.bad = true then ndV zT none 0 else ndV n ao cap, paV L ta tc s.at_ (if s.bad = true then p0 else q) nest, .bool (!s.bad)]) → ClPost L ta tc s n ao cap nest p0 w e z := fun e z hb he => ⟨q, he, hq.under hb, hb⟩
 replace hcl := Hd hcl
 unfold ndV
 obtain ⟨b, hb⟩ : ∃ b, b = s.bad := ⟨_, rfl⟩
 rw [← hb] at c3
 replace hb := Hd hb
 clear h
 go_enter Tryz.func60, Tryz.ntmps60
 go_upto_region 1 with fail
 rw [← hW]
 replace hW := Hd hW
 go_upto_region 2 with fail
 obtain ⟨V, hV⟩ : ∃ V, V = W.setCell ⟨w.heap.size, 1, none⟩ (.int .i64 s.at_) := ⟨_, rfl⟩
 have hpV : V.heap[w.heap.size]? = some (paO L ta tc s.at_ p0 nest) := by rw [hV]; exact heap_setCell_same _ _ _ _ _ _ hp
 have hnV : V.heap[w.heap.size + 1]? = some (bxO n ao cap) := by rw [hV]; exact set_o hn (by omega)
 have hzV : V.heap[w.heap.size + 1 + 1]? = some nzO := by rw [hV]; exact set_o hz (by omega)
 have hyV : V.heap[w.heap.size + 1 + 1 + 1]? = some pzO := by rw [hV]; exact set_o hy (by omega)
 have hrV : ∀ k, k ≠ w.heap.size → V.heap[k]? = W.heap[k]? := fun k hk => by rw [hV]; exact set_o rfl hk
 have hbV : Below w.heap.size w V := by rw [hV]; exact hbW.out.setCell (p := ⟨w.heap.size, 1, none⟩) (Nat.le_refl _) _
 have hrd : ∀ j, V.cell? ⟨rb, j, none⟩ = W.cell? ⟨rb, j, none⟩ := fun j => World.cell?_of_block (a := ⟨rb, j, none⟩) (hrV rb (by omega))
 have d2 := (hrd 2).trans c2
 have d3 := (hrd 3).trans c3
 have d2f : V.frozen? ⟨w.heap.size, 2, none⟩ = false := Lib.frozen_of_heap hpV 2
 have hg1 : w.heap.size ≤ w.heap.size + 1 + 1 := by omega
 have hg2 : w.heap.size ≤ w.heap.size + 1 + 1 + 1 := by omega
 have hn12 : w.heap.size + 1 + 1 ≠ w.heap.size + 1 + 1 + 1 := by omega
 have hn21 : w.heap.size + 1 + 1 + 1 ≠ w.heap.size + 1 + 1 := by omega
 rw [← hV]
 replace hV := Hd hV
 clear he hq
 clear p0' p1' p2' p3' pf hp hn hz hy hrV hrd c0 c1 c2 c3
 cases b with
 | true =>
   replace hbV := Hd hbV
   obtain ⟨p0', p1', p2', p3', pf⟩ := pa_cells hpV
   obtain ⟨y0, y1, y2, y3, yf⟩ := pa_cells hyV
   obtain ⟨z0, z1, z2, z3, z4, zf⟩ := nd_cells hzV
   go_upto_region 3 with fail
   go_region
   go_wp2
   refine bodyPost_ret (results_row_row_tmp rfl _ _ (w.heap.size + 1 + 1) 50 _ (0,0) _ rfl (drew_o (set_o (set_o (set_o (set_o (nd_set5 hzV) hn12) hn12) hn12) hn12)) Tryz.underlying50 rfl (by kernel_rfl) (w.heap.size + 1 + 1 + 1) 46 _ (0,0) _ rfl (drew_o (pa_set4 (set_o (set_o (set_o (set_o (set_o hyV hn21) hn21) hn21) hn21) hn21))) Tryz.underlying46 rfl (by kernel_rfl)) rfl ?_
   refine hcl.out _ _ ((((((((((hbV.out.setCell (p := ⟨w.heap.size + 1 + 1,0, none⟩) hg1 _).setCell (p := ⟨w.heap.size + 1 + 1,1, none⟩) hg1 _).setCell (p := ⟨w.heap.size + 1 + 1,2, none⟩) hg1 _).setCell (p := ⟨w.heap.size + 1 + 1,3, none⟩) hg1 _).setCell (p := ⟨w.heap.size + 1 + 1,4, none⟩) hg1 _).setCell (p := ⟨w.heap.size + 1 + 1 + 1,0, none⟩) hg2 _).setCell (p := ⟨w.heap.size + 1 + 1 + 1,1, none⟩) hg2 _).setCell (p := ⟨w.heap.size + 1 + 1 + 1,2, none⟩) hg2 _).setCell (p := ⟨w.heap.size + 1 + 1 + 1,3, none⟩) hg2 _).drew) ?_
   rw [← hb.out]
   rfl
 | false =>
   obtain ⟨p0', p1', p2', p3', pf⟩ := pa_cells hpV
   go_upto_region 4 with fail
   go_upto_region 5 with fail
   obtain ⟨U, hU⟩ : ∃ U, U = V.setCell ⟨w.heap.size, 2, none⟩ (.pointer q) := ⟨_, rfl⟩
   have hpU : U.heap[w.heap.size]? = some (paO L ta tc s.at_ q nest) := by rw [hU]; exact heap_setCell_same _ _ _ _ _ _ hpV
   have hnU : U.heap[w.heap.size + 1]? = some (bxO n ao cap) := by rw [hU]; exact set_o hnV (by omega)
   have hzU : U.heap[w.heap.size + 1 + 1]? = some nzO := by rw [hU]; exact set_o hzV (by omega)
   have hyU : U.heap[w.heap.size + 1 + 1 + 1]? = some pzO := by rw [hU]; exact set_o hyV (by omega)
   have hbU : Below w.heap.size w U := by rw [hU]; exact hbV.setCell (p := ⟨w.heap.size, 2, none⟩) (Nat.le_refl _) _
   rw [← hU]
   replace hU := Hd hU
   clear hpV hnV hzV hyV hbV d2 d3 d2f p0' p1' p2' p3' pf
   have hbV := Hd hbU
   have hzV := hzU
   have hyV := hyU
   clear hbU hzU hyU
   obtain ⟨p0', p1', p2', p3', pf⟩ := pa_cells hpU
   obtain ⟨n0, n1, n2, n3, n4, nf⟩ := nd_cells hnU
   obtain ⟨y0, y1, y2, y3, yf⟩ := pa_cells hyV
   obtain ⟨z0, z1, z2, z3, z4, zf⟩ := nd_cells hzV
   go_region
   go_wp2
   refine bodyPost_ret (results_row_row_tmp rfl _ _ (w.heap.size + 1 + 1) 50 _ (0,0) _ rfl (drew_o (set_o (set_o (set_o (set_o (nd_set5 hzV) hn12) hn12) hn12) hn12)) Tryz.underlying50 rfl (by kernel_rfl) (w.heap.size + 1 + 1 + 1) 46 _ (0,0) _ rfl (drew_o (pa_set4 (set_o (set_o (set_o (set_o (set_o hyV hn21) hn21) hn21) hn21) hn21))) Tryz.underlying46 rfl (by kernel_rfl)) rfl ?_
   refine hcl.out _ _ ((((((((((hbV.out.setCell (p := ⟨w.heap.size + 1 + 1,0, none⟩) hg1 _).setCell (p := ⟨w.heap.size + 1 + 1,1, none⟩) hg1 _).setCell (p := ⟨w.heap.size + 1 + 1,2, none⟩) hg1 _).setCell (p := ⟨w.heap.size + 1 + 1,3, none⟩) hg1 _).setCell (p := ⟨w.heap.size + 1 + 1,4, none⟩) hg1 _).setCell (p := ⟨w.heap.size + 1 + 1 + 1,0, none⟩) hg2 _).setCell (p := ⟨w.heap.size + 1 + 1 + 1,1, none⟩) hg2 _).setCell (p := ⟨w.heap.size + 1 + 1 + 1,2, none⟩) hg2 _).setCell (p := ⟨w.heap.size + 1 + 1 + 1,3, none⟩) hg2 _).drew) ?_
   rw [← hb.out]
   rfl
end Go.Proofs.YtllbbacnakoomaaGreatDoor
namespace Go.Proofs.YtllbbacnakoomaaGreatDoor
open Go.RowKit
set_option linter.unusedVariables false
def ClP (L : List Ct) (ta : Option Addr) (tc : Nat) (s : Ps) (n : T) (nest B : Nat) (p0 : Option Addr) (w : World) (e : Ending) (w' : World) : Prop :=
 ∃ m ao cap q, e = .returned (.tuple #[ndV m ao cap, paV L ta tc s.at_ q nest, .bool (!s.bad)]) ∧ m = (if s.bad = true then zT else n) ∧ NdAt w' B m ao cap ∧ (s.bad = false → EvAt w' q s.env) ∧ (s.bad = true → q = p0) ∧ Below w.heap.size w w'
theorem close2_any {L : List Ct} {ta : Option Addr} {tc rb B : Nat} {s : Ps} {w : World} {i : Int} {p0 : Option Addr} {nest : Nat} {n : T} {ao : Option Addr} {cap : Nat} (h : PS L ta tc rb s w) (hn : NdAt w B n ao cap) :
 Calls Tryz.prog 60 #[.pointer (some ⟨rb, 0, none⟩), paV L ta tc i p0 nest, ndV n ao cap] w (ClP L ta tc s n nest B p0 w) :=
 (close_any h).mono fun e w' ⟨q, he, hq, hb⟩ => by
  unfold clV at he
  cases hs : s.bad with
  | true =>
    rw [hs] at he
    exact ⟨zT, none, 0, p0, by rw [hs]; exact he, by rw [hs]; rfl, NdAt.zero _ _, fun h => (by rw [hs] at h; cases h), fun _ => rfl, hb⟩
  | false =>
    rw [hs] at he
    exact ⟨n, ao, cap, q, by rw [hs]; exact he, by rw [hs]; rfl, hn.below hb, fun _ => hq, fun h => (by rw [hs] at h; cases h), hb⟩
theorem three_new (w : World) (a b c : Obj) : Below w.heap.size w (((w.alloc a).alloc b).alloc c) ∧ (((w.alloc a).alloc b).alloc c).heap[w.heap.size]? = some a ∧ (((w.alloc a).alloc b).alloc c).heap[w.heap.size + 1]? = some b ∧ (((w.alloc a).alloc b).alloc c).heap[w.heap.size + 1 + 1]? = some c := by
 have s1 : (w.alloc a).heap.size = w.heap.size + 1 := by simp
 have s2 : ((w.alloc a).alloc b).heap.size = w.heap.size + 1 + 1 := by simp
 refine ⟨(((Below.refl _ w).alloc (Nat.le_refl _) _).alloc (by omega) _).alloc (by omega) _, ?_, ?_, ?_⟩
 ·rw [heap_alloc_old _ _ (by omega), heap_alloc_old _ _ (by omega), heap_alloc_new]
 ·rw [heap_alloc_old _ _ (by omega), ← s1, heap_alloc_new]
 ·rw [← s2, heap_alloc_new]
theorem below_rb {B rb : Nat} {a b c : World} (h : Below B a b) (hk : b.grownBy c (some rb)) (hr : B ≤ rb) (hs : B ≤ b.heap.size) : Below B a c :=
 h.trans ⟨hk.os, hk.tape, hk.output, hk.size, fun k hk' => hk.block k (by omega) (by intro e; have := Option.some.inj e; omega)⟩
theorem clp_sets {w z : World} {g1 g2 : Nat} {c1 c2 : Array Value} {f1 f2 : Nat × Nat} (h1 : w.heap[g1]? = some (.cells c1 50 f1)) (h2 : w.heap[g2]? = some (.cells c2 46 f2)) (hk : ∀ k, k ≠ g1 → k ≠ g2 → z.heap[k]? = w.heap[k]?) :
 (∀ {B : Nat} {m : T} {am : Option Addr} {cm : Nat}, g1 < B → g2 < B → NdAt w B m am cm → NdAt z B m am cm) ∧ ∀ q e, EvAt w q e → EvAt z q e := by
 refine ⟨fun {B m am cm} e1 e2 hn => hn.later fun k hB _ => hk k (by omega) (by omega), fun q e he => he.moved fun b y fy hy => (hk b ?_ ?_).trans hy⟩
 ·rintro rfl
  rw [h1] at hy
  injection hy with hy
  injection hy with _ hy _
  revert hy
  decide
 ·rintro rfl
  rw [h2] at hy
  injection hy with hy
  injection hy with _ hy _
  revert hy
  decide
end Go.Proofs.YtllbbacnakoomaaGreatDoor
namespace Go.Proofs.YtllbbacnakoomaaGreatDoor
open Go.RowKit
set_option linter.unusedVariables false
theorem call_any {L : List Ct} {ta : Option Addr} {tc rb : Nat} {R : Rec} (G : Good L ta tc rb R) {w : World} {s : Ps} {f : T} {ao : Option Addr} {cap nest : Nat} {n : T} {s' : Ps} {H : Nat → Prop} (h : PS L ta tc rb s w) (hH : ¬ H rb) (hf : Rep w H f (ndC f ao cap)) (hn : nest ≤ 1000) (hr : callF L R f nest s = some (n, s')) :
 Calls Tryz.prog 260 #[.pointer (some ⟨rb, 0, none⟩), ndV f ao cap, .int .i64 nest] w (NdRetF L ta tc rb H w n s') := by
 have C := Hd (((Cx.startN h hH (ns := [⟨f, ao, cap⟩]) (by intro x hx; simp at hx; subst hx; exact hf)).alloc (bxO f ao cap) (a := w.heap.size) rfl).alloc nzO (a := w.heap.size + 1) (by simp) |>.lit [⟨f, ao, cap⟩] (by simp) (by simp) rfl (a := w.heap.size + 2) (by simp) (n := 1) rfl)
 have hlt := h.lt
 unfold callF at hr
 unfold ndV
 have HH := Hd (rHas_any C.out.ps (⟨#[41]⟩ : ByteArray))
 cases hh : hasP L s (⟨#[41]⟩ : ByteArray) with
 | true =>
   rw [hh, if_pos rfl] at hr HH
   obtain ⟨rfl, rfl⟩ := Prod.mk.inj (Option.some.inj hr)
   go_enter Tryz.func260, Tryz.ntmps260
   go_wp2_with fail
   refine HH.out.mono ?_
   rintro e w1 ⟨rfl, h1, k1⟩
   replace C := Hd (C.out.call h1 k1)
   obtain ⟨q0, q1, q2, q3, q4, qf⟩ := nd_cells (C.out.var (i := 1) rfl)
   go_wp2_with fail
   refine (rMake_any C.out.ps (⟨#[99,97,108,108]⟩ : ByteArray) ⟨#[]⟩ f.from_ _ _ _).mono ?_
   rintro e w2 ⟨rfl, hb2⟩
   replace C := Hd (C.out.made hb2 (by simp) (⟨#[99,97,108,108]⟩ : ByteArray) ⟨#[]⟩ f.from_)
   have hcc := C.out.var (i := 0) rfl
   go_wp2_with (refine stN rfl rfl rfl rfl hcc rfl rfl (by simp [Value.oneCell']) ?_)
   refine retN rfl rfl rfl (setRow_heap _ _ _ _ _ _ hcc) rfl ?_
   exact ⟨_, _, rfl, (C.out.set (i := 0) rfl rfl _).outF (.head _)⟩
 | false =>
   rw [hh, if_neg (by simp)] at hr HH
   obtain ⟨⟨a, s1⟩, hr1, hr2⟩ := Option.bind_eq_some_iff.1 hr
   obtain ⟨⟨kl, s2⟩, hr3, hr4⟩ := Option.bind_eq_some_iff.1 hr2
   obtain ⟨rfl, rfl⟩ := Prod.mk.inj (Option.some.inj hr4)
   clear hr hr2 hr4
   simp only at hr3
   replace hr1 := Hd hr1
   replace hr3 := Hd hr3
   go_enter Tryz.func260, Tryz.ntmps260
   go_wp2_with fail
   refine HH.out.mono ?_
   rintro e w1 ⟨rfl, h1, k1⟩
   replace C := Hd (C.out.call h1 k1)
   go_wp2_with fail
   refine (G.assign C.out.ps hn hr1.out).mono ?_
   rintro e w2 ⟨ao2, cap2, rfl, hn2, h2, k2⟩
   replace C := Hd (C.out.ret hn2 h2 k2)
   unfold ndV
   go_wp2_with (refine wpList_snoc C.out (.head _) (by simp) rfl rfl rfl rfl rfl ?_; intro m3 ao3 cap3 w3 hm3 C3)
   replace C := Hd C3
   clear C3
   go_loopg [7] KK (fun q v7 wx => ∃ (k : List T) (z : Ps) (m : Nat) (ao3 : Option Addr) (cap3 : Nat), v7 = .slice ao3 m cap3 ∧ Hid (k.length = m) ∧ Hid (m + q ≤ 6000) ∧ Hid (Cx L ta tc rb (fun k => H k ∧ k < w.heap.size) none w z [] [(w.heap.size + 1, nzO), (w.heap.size, bxO f ao cap)] k (.slice ao3 m cap3) wx) ∧ Hid (argsLoop L R nest q k z = some (kl, s2)))
   case atStart => exact ⟨_, _, _, _, _, rfl, hm3, Hd (by have := hm3.out; simp at this; unfold KK; omega), Hd (C.out.weak (by simp) (List.Sublist.refl _)), hr3⟩
   case round =>
    have Cx := C
    clear Cx C hr3
    obtain ⟨k, z, m, ao3, cap3, rfl, hm, hq, C, hL⟩ := hrel
    obtain ⟨w4, hw4⟩ : ∃ w4, w4 = wr := ⟨_, rfl⟩
    subst hw4
    cases gk with
    | zero => exact absurd hL.out (by simp [argsLoop])
    | succ gk =>
      have hL2 := hL.out
      unfold argsLoop at hL2
      have HH := Hd (rHas_any C.out.ps (⟨#[44]⟩ : ByteArray))
      cases hh : hasP L z (⟨#[44]⟩ : ByteArray) with
      | false =>
        rw [hh, if_neg (by simp)] at hL2 HH
        obtain ⟨rfl, rfl⟩ := Prod.mk.inj (Option.some.inj hL2)
        clear hL2
        go_wp2_with fail
        refine HH.out.mono ?_
        rintro e w5 ⟨rfl, h5, k5⟩
        replace C := Hd (C.out.call h5 k5)
        go_wp2_with fail
        refine (rNeed_any C.out.ps (⟨#[41]⟩ : ByteArray)).mono ?_
        rintro e w6 ⟨rfl, h6, k6⟩
        replace C := Hd (C.out.call h6 k6)
        obtain ⟨q0, q1, q2, q3, q4, qf⟩ := nd_cells (C.out.var (i := 1) rfl)
        go_wp2_with fail
        refine (rMake_any C.out.ps (⟨#[99,97,108,108]⟩ : ByteArray) ⟨#[]⟩ f.from_ _ _ _).mono ?_
        rintro e w7 ⟨rfl, hb7⟩
        replace C := Hd (C.out.made hb7 (by have := hm.out; have := hq.out; omega) (⟨#[99,97,108,108]⟩ : ByteArray) ⟨#[]⟩ f.from_)
        obtain rfl := hm.out
        have hcc := C.out.var (i := 0) rfl
        go_wp2_with (refine stN rfl rfl rfl rfl hcc rfl rfl (by simp [Value.oneCell']) ?_)
        refine retN rfl rfl rfl (setRow_heap _ _ _ _ _ _ hcc) rfl ?_
        exact ⟨_, _, rfl, (C.out.set (i := 0) rfl rfl _).outF (.head _)⟩
      | true =>
        rw [hh, if_pos rfl] at hL2 HH
        obtain ⟨⟨b, z2⟩, hb1, hb2⟩ := Option.bind_eq_some_iff.1 hL2
        simp only at hb2
        replace hb1 := Hd hb1
        replace hb2 := Hd hb2
        clear hL2
        go_wp2_with fail
        refine HH.out.mono ?_
        rintro e w5 ⟨rfl, h5, k5⟩
        replace C := Hd (C.out.call h5 k5)
        go_wp2_with fail
        refine (G.assign C.out.ps hn hb1.out).mono ?_
        rintro e w6 ⟨ao6, cap6, rfl, hn6, h6, k6⟩
        replace C := Hd (C.out.ret hn6 h6 k6)
        unfold ndV
        go_wp2_with (refine wpList_snoc C.out (.head _) (by have := hm.out; have := hq.out; omega) rfl rfl rfl rfl rfl ?_; intro m7 ao7 cap7 w7 hm7 C7)
        go_roundg gk
        case measure => omega
        case rel => exact ⟨_, _, _, _, _, rfl, hm7, Hd (by have h1 := hm7.out; have := hm.out; have := hq.out; simp at h1; omega), Hd (C7.weak (by simp) (List.Sublist.refl _)), hb2⟩
end Go.Proofs.YtllbbacnakoomaaGreatDoor
