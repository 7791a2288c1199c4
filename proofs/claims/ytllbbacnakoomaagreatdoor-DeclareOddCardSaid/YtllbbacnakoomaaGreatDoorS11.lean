/- Texts of this seat's proofs, laid into one file. -/
import Derived.Test.YtllbbacnakoomaaGreatDoorS2
import Derived.Test.YtllbbacnakoomaaGreatDoorS10
import Derived.Test.YtllbbacnakoomaaGreatDoorShelf
set_option maxRecDepth 100000
set_option maxHeartbeats 16000000
namespace Go.Proofs.YtllbbacnakoomaaGreatDoor
open Go.RowKit
set_option linter.unusedVariables false
theorem kp_of_below {w w' : World} (h : Below w.heap.size w w') (r : Option Nat) : w.grownBy w' r := ⟨h.os, h.tape, h.output, h.size, fun k hk _ => h.block k hk⟩
theorem kp_refl (w : World) (r : Option Nat) : w.grownBy w r := kp_of_below (Below.refl _ _) r
theorem kp_set (w : World) (rb j : Nat) (u : Value) : w.grownBy (w.setCell ⟨rb, j, none⟩ u) (some rb) :=
 ⟨rfl, rfl, rfl, by simp [World.size_setCell], fun k hk hne => Below.heap_setCell _ _ _ _ (fun e => hne (by rw [e]))⟩
theorem kp_alloc {w w' : World} {r : Option Nat} (h : w.grownBy w' r) (o : Obj) : w.grownBy (w'.alloc o) r :=
 grown_trans h (kp_of_below ((Below.refl _ w').alloc (Nat.le_refl _) o) r)
theorem kp_drew {w w' : World} {r : Option Nat} (h : w.grownBy w' r) : w.grownBy w'.drew r := ⟨h.os, h.tape, h.output, h.size, h.block⟩
theorem kp_block {w w' : World} {rb k : Nat} {o : Obj} (h : w.grownBy w' (some rb)) (hk : w.heap[k]? = some o) (hne : k ≠ rb) : w'.heap[k]? = some o :=
 (h.block k (lt_of_block hk) (by intro e; exact hne (Option.some.inj e))).trans hk
theorem kp_on {w w' : World} {rb B : Nat} (h : w.grownBy w' (some rb)) (hB : rb < B) : KeptOn (fun b => B ≤ b) w w' :=
 fun k hk hl => h.block k hl (by intro e; have := Option.some.inj e; omega)
def ctC (t : Ct) : List Value := [.int .i64 t.kind, .string t.text, .string t.file, .int .i64 t.f, .int .i64 t.t, .int .i64 t.fro, .int .i64 t.cnt]
def ctV (t : Ct) : Value := .agg #[.int .i64 t.kind, .string t.text, .string t.file, .int .i64 t.f, .int .i64 t.t, .int .i64 t.fro, .int .i64 t.cnt]
theorem ct_cells {w : World} {b o k : Nat} {L : List Ct} {t : Ct} (hat : RowAt w 7 b o (L.map ctC)) (hk : L[k]? = some t) :
 w.cell? ⟨b, o + k * 7, none⟩ = some (.int .i64 t.kind) ∧ w.cell? ⟨b, o + k * 7 + 1, none⟩ = some (.string t.text) ∧ w.cell? ⟨b, o + k * 7 + 2, none⟩ = some (.string t.file) ∧ w.cell? ⟨b, o + k * 7 + 3, none⟩ = some (.int .i64 t.f) ∧ w.cell? ⟨b, o + k * 7 + 4, none⟩ = some (.int .i64 t.t) ∧ w.cell? ⟨b, o + k * 7 + 5, none⟩ = some (.int .i64 t.fro) ∧ w.cell? ⟨b, o + k * 7 + 6, none⟩ = some (.int .i64 t.cnt) := by
 have := fun j u hj => hat k (ctC t) (by rw [List.getElem?_map, hk]; rfl) j u hj
 exact ⟨this 0 _ rfl, this 1 _ rfl, this 2 _ rfl, this 3 _ rfl, this 4 _ rfl, this 5 _ rfl, this 6 _ rfl⟩
structure EvC (w : World) (b : Nat) (vo va : Option Addr) (name : ByteArray) (is : Bool) (d : Nat) : Prop where
 blk : ∃ x fz, w.heap[b]? = some (.cells x 113 fz)
 c0 : w.cell? ⟨b, 0, none⟩ = some (.pointer vo)
 c1 : w.cell? ⟨b, 1, none⟩ = some (.pointer va)
 c2 : w.cell? ⟨b, 2, none⟩ = some (.string name)
 c3 : w.cell? ⟨b, 3, none⟩ = some (.bool is)
 c4 : w.cell? ⟨b, 4, none⟩ = some (.int .i64 (IntKind.i64.wrap d))
inductive EvAt (w : World) : Option Addr → Ev → Prop
 | new {b : Nat} (h : EvC w b none none ⟨#[]⟩ false 1) : EvAt w (some ⟨b, 0, none⟩) .new
 | push {b : Nat} {pa : Option Addr} {e : Ev} (h : EvC w b pa pa ⟨#[]⟩ false (e.depth + 1)) (r : EvAt w pa e) : EvAt w (some ⟨b, 0, none⟩) (.push e)
 | decl {b : Nat} {vo pa : Option Addr} {e : Ev} {n : ByteArray} {i : Bool} (h : EvC w b vo pa n i e.depth) (r : EvAt w pa e) : EvAt w (some ⟨b, 0, none⟩) (.decl e n i)
theorem EvC.moved {w w' : World} {b : Nat} {vo va : Option Addr} {name : ByteArray} {is : Bool} {d : Nat} (h : EvC w b vo va name is d) (hk : ∀ (b : Nat) x fz, w.heap[b]? = some (.cells x 113 fz) → w'.heap[b]? = some (.cells x 113 fz)) : EvC w' b vo va name is d := by
 obtain ⟨⟨x, fz, hb⟩, h0, h1, h2, h3, h4⟩ := h
 have hc : ∀ j, w'.cell? ⟨b, j, none⟩ = w.cell? ⟨b, j, none⟩ := fun j => World.cell?_of_block (a := ⟨b, j, none⟩) ((hk _ _ _ hb).trans hb.symm)
 exact ⟨⟨x, fz, hk _ _ _ hb⟩, (hc 0).trans h0, (hc 1).trans h1, (hc 2).trans h2, (hc 3).trans h3, (hc 4).trans h4⟩
theorem EvAt.moved {w w' : World} (hk : ∀ (b : Nat) x fz, w.heap[b]? = some (.cells x 113 fz) → w'.heap[b]? = some (.cells x 113 fz)) : ∀ {p : Option Addr} {e : Ev}, EvAt w p e → EvAt w' p e := by
 intro p e h
 induction h with
 | new h => exact .new (h.moved hk)
 | push h r ih => exact .push (h.moved hk) ih
 | decl h r ih => exact .decl (h.moved hk) ih
theorem EvAt.under {w w' : World} {p : Option Addr} {e : Ev} (h : EvAt w p e) (hb : Below w.heap.size w w') : EvAt w' p e :=
 h.moved fun b x fz hx => (hb.block b (lt_of_block hx)).trans hx
theorem EvAt.cells {w : World} {p : Option Addr} {e : Ev} (h : EvAt w p e) : ∃ b vo va n i d, p = some ⟨b, 0, none⟩ ∧ EvC w b vo va n i d := by
 cases h with
 | new h => exact ⟨_, _, _, _, _, _, rfl, h⟩
 | push h r => exact ⟨_, _, _, _, _, _, rfl, h⟩
 | decl h r => exact ⟨_, _, _, _, _, _, rfl, h⟩
def rdC (ta : Option Addr) (n tc : Nat) (p : Option Addr) (s : Ps) : Array Value := #[.slice ta n tc, .int .i64 s.at_, .pointer p, .bool s.bad]
def SpTab (w : World) : Prop := Lib.TabIs Tryz.prog w "strings.asciiSpace" .u8 Lib.asciiSpaceTab
theorem spG : ∃ g, Tryz.prog.globalNamed "strings.asciiSpace" = some g := Option.isSome_iff_exists.1 (by kernel_rfl)
theorem SpTab.block {w w' : World} (h : SpTab w) (hk : ∀ (b : Nat) (cs : Array Value) (e : TypeId) fz, w.heap[b]? = some (.cells cs e fz) → cs.size = 256 → w'.heap[b]? = w.heap[b]?) : SpTab w' := by
 obtain ⟨g, hg⟩ := spG
 unfold SpTab Lib.TabIs World.var? at h ⊢
 simp only [hg, Option.bind_some] at h ⊢
 cases hb : w.heap[g]? with
 | none => rw [hb] at h; cases h
 | some o =>
   cases o with
   | cells cs e fz =>
     rw [hb] at h
     simp only [Option.some.injEq] at h
     rw [hk g cs e fz hb (by rw [h, List.size_toArray, List.length_map]; kernel_rfl), hb]
     simpa using h
   | _ => rw [hb] at h; cases h
theorem SpTab.below {w w' : World} (h : SpTab w) (hb : Below w.heap.size w w') : SpTab w' := h.block fun b cs e fz hx _ => hb.block b (lt_of_block hx)
structure PS (L : List Ct) (ta : Option Addr) (tc rb : Nat) (s : Ps) (w : World) : Prop where
 toks : Row w 7 ta (L.map ctC)
 tne : ∀ b o, ta = some ⟨b, o, none⟩ → b ≠ rb
 len : L.length ≤ 1000000
 cap : L.length ≤ tc
 tsz : ∀ t ∈ L, t.text.size ≤ 1000000000
 rd : ∃ p, w.heap[rb]? = some (.cells (rdC ta L.length tc p s) 138 (0,0)) ∧ EvAt w p s.env
 lo : -1 ≤ s.at_
 hi : s.at_ ≤ L.length
 tab : SpTab w
 tty : ∀ b o, ta = some ⟨b, o, none⟩ → ∃ c fz, w.heap[b]? = some (.cells c 95 fz)
theorem PS.lt {L : List Ct} {ta : Option Addr} {tc rb : Nat} {s : Ps} {w : World} (h : PS L ta tc rb s w) : rb < w.heap.size := by
 obtain ⟨p, hp, _⟩ := h.rd
 exact lt_of_block hp
theorem PS.below {L : List Ct} {ta : Option Addr} {tc rb : Nat} {s : Ps} {w w' : World} (h : PS L ta tc rb s w) (hb : Below w.heap.size w w') : PS L ta tc rb s w' := by
 obtain ⟨p, hp, he⟩ := h.rd
 exact ⟨h.toks.below hb, h.tne, h.len, h.cap, h.tsz, ⟨p, (hb.block _ (lt_of_block hp)).trans hp, he.under hb⟩, h.lo, h.hi, h.tab.below hb, fun b o e => by
  obtain ⟨c, fz, hc⟩ := h.tty b o e
  exact ⟨c, fz, (hb.block _ (lt_of_block hc)).trans hc⟩⟩
theorem kp_env {w w' : World} {rb : Nat} {x : Array Value} {fz : Nat × Nat} (hg : w.grownBy w' (some rb)) (hrb : w.heap[rb]? = some (.cells x 138 fz)) (b : Nat) (y : Array Value) (fy : Nat × Nat) (hy : w.heap[b]? = some (.cells y 113 fy)) : w'.heap[b]? = some (.cells y 113 fy) := by
 refine kp_block hg hy ?_
 rintro rfl
 rw [hrb] at hy
 injection hy with hy
 injection hy with _ hy _
 revert hy
 decide
theorem row_kp {w w' : World} {rb sz : Nat} {ta : Option Addr} {css : List (List Value)} (h : Row w sz ta css) (hg : w.grownBy w' (some rb)) (hne : ∀ b o, ta = some ⟨b, o, none⟩ → b ≠ rb) : Row w' sz ta css := by
 intro hn
 obtain ⟨b, o, rfl, hat⟩ := h hn
 refine ⟨b, o, rfl, fun i cs hi j u hj => ?_⟩
 exact hg.cell (hat i cs hi j u hj) (by intro e; exact hne b o rfl (Option.some.inj e))
theorem PS.turn {L : List Ct} {ta : Option Addr} {tc rb : Nat} {s s' : Ps} {w w' : World} {p : Option Addr} (h : PS L ta tc rb s w) (hg : w.grownBy w' (some rb)) (hrd : w'.heap[rb]? = some (.cells (rdC ta L.length tc p s') 138 (0,0))) (he : EvAt w' p s'.env) (hlo : -1 ≤ s'.at_) (hhi : s'.at_ ≤ L.length) : PS L ta tc rb s' w' :=
 ⟨row_kp h.toks hg h.tne, h.tne, h.len, h.cap, h.tsz, ⟨p, hrd, he⟩, hlo, hhi, h.tab.block fun b cs e fz hx hs => hg.block b (lt_of_block hx) (by
  intro e'
  obtain ⟨q, hq, _⟩ := h.rd
  have := Option.some.inj e'
  subst this
  rw [hq] at hx
  injection hx with hx
  injection hx with hx _ _
  rw [← hx] at hs
  cases hs), fun b o e => by
  obtain ⟨c, fz, hc⟩ := h.tty b o e
  exact ⟨c, fz, kp_block hg hc (h.tne b o e)⟩⟩
theorem rd_set {w : World} {rb j : Nat} {u : Value} {c : Array Value} {e : TypeId} {fz : Nat × Nat} (h : w.heap[rb]? = some (.cells c e fz)) : (w.setCell ⟨rb, j, none⟩ u).heap[rb]? = some (.cells (c.setIfInBounds j u) e fz) := by
 simp [World.setCell, Array.getElem?_modify, h]
theorem PS.up {L : List Ct} {ta : Option Addr} {tc rb : Nat} {s : Ps} {w : World} (h : PS L ta tc rb s w) {n : Int} (h1 : -1 ≤ s.at_ + n) (h2 : s.at_ + n ≤ L.length) : PS L ta tc rb (s.up n) (w.setCell ⟨rb, 1, none⟩ (.int .i64 (s.at_ + n))) := by
 obtain ⟨p, hp, he⟩ := h.rd
 exact h.turn (p := p) (kp_set _ _ _ _) (rd_set hp) (he.moved (kp_env (kp_set _ _ _ _) hp)) h1 h2
theorem PS.fail {L : List Ct} {ta : Option Addr} {tc rb : Nat} {s : Ps} {w : World} (h : PS L ta tc rb s w) : PS L ta tc rb s.fail (w.setCell ⟨rb, 3, none⟩ (.bool true)) := by
 obtain ⟨p, hp, he⟩ := h.rd
 exact h.turn (p := p) (kp_set _ _ _ _) (rd_set hp) (he.moved (kp_env (kp_set _ _ _ _) hp)) h.lo h.hi
theorem PS.bad {L : List Ct} {ta : Option Addr} {tc rb : Nat} {s : Ps} {w : World} (h : PS L ta tc rb s w) (b : Bool) : PS L ta tc rb { s with bad := b } (w.setCell ⟨rb, 3, none⟩ (.bool b)) := by
 obtain ⟨p, hp, he⟩ := h.rd
 exact h.turn (p := p) (kp_set _ _ _ _) (rd_set hp) (he.moved (kp_env (kp_set _ _ _ _) hp)) h.lo h.hi
theorem PS.into {L : List Ct} {ta : Option Addr} {tc rb : Nat} {s : Ps} {w : World} (h : PS L ta tc rb s w) {p' : Option Addr} {e : Ev} (he' : EvAt w p' e) : PS L ta tc rb (s.into e) (w.setCell ⟨rb, 2, none⟩ (.pointer p')) := by
 obtain ⟨p, hp, he⟩ := h.rd
 exact h.turn (p := p') (kp_set _ _ _ _) (rd_set hp) (he'.moved (kp_env (kp_set _ _ _ _) hp)) h.lo h.hi
theorem PS.env_kp {L : List Ct} {ta : Option Addr} {tc rb : Nat} {s : Ps} {w w' : World} (h : PS L ta tc rb s w) (hg : w.grownBy w' (some rb)) {p : Option Addr} {e : Ev} (he : EvAt w p e) : EvAt w' p e := by
 obtain ⟨q, hq, _⟩ := h.rd
 exact he.moved (kp_env hg hq)
theorem PS.cells {L : List Ct} {ta : Option Addr} {tc rb : Nat} {s : Ps} {w : World} (h : PS L ta tc rb s w) : ∃ p, EvAt w p s.env ∧ w.cell? ⟨rb, 0, none⟩ = some (.slice ta L.length tc) ∧ w.cell? ⟨rb, 1, none⟩ = some (.int .i64 s.at_) ∧ w.cell? ⟨rb, 2, none⟩ = some (.pointer p) ∧ w.cell? ⟨rb, 3, none⟩ = some (.bool s.bad) ∧ (∀ j, w.frozen? ⟨rb, j, none⟩ = false) := by
 obtain ⟨p, hp, he⟩ := h.rd
 refine ⟨p, he, ?_, ?_, ?_, ?_, fun j => Lib.frozen_of_heap hp j⟩ <;> rw [Lib.cell_of_heap hp] <;> rfl
theorem PS.other {L : List Ct} {ta : Option Addr} {tc rb : Nat} {s : Ps} {w w' : World} (h : PS L ta tc rb s w) {g : Nat} {c : Array Value} {e : TypeId} {fz : Nat × Nat} (hg : w.heap[g]? = some (.cells c e fz)) (he : e ≠ 138 ∧ e ≠ 113 ∧ e ≠ 95) (hs : c.size ≠ 256) (hk : ∀ k, k ≠ g → w'.heap[k]? = w.heap[k]?) : PS L ta tc rb s w' := by
 have hne : ∀ {b : Nat} {y : Array Value} {e' : TypeId} {fy : Nat × Nat}, w.heap[b]? = some (.cells y e' fy) → e ≠ e' → b ≠ g := by
  rintro b y e' fy hb hee rfl
  rw [hg] at hb
  injection hb with hb
  injection hb with _ hb _
  exact hee hb
 obtain ⟨p, hp, hev⟩ := h.rd
 have htk : ∀ b o, ta = some ⟨b, o, none⟩ → w'.heap[b]? = w.heap[b]? := fun b o e => by
  obtain ⟨y, fy, hy⟩ := h.tty b o e
  exact hk b (hne hy he.2.2)
 refine ⟨?_, h.tne, h.len, h.cap, h.tsz, ⟨p, (hk _ (hne hp he.1)).trans hp, hev.moved fun b x fz hx => (hk b (hne hx he.2.1)).trans hx⟩, h.lo, h.hi, h.tab.block fun b y e' fy hy hs' => hk b (by
  rintro rfl
  rw [hg] at hy
  injection hy with hy
  injection hy with hy _ _
  rw [← hy] at hs'
  exact hs hs'), fun b o e => ?_⟩
 ·intro hn
  obtain ⟨b, o, rfl, hat⟩ := h.toks hn
  exact ⟨b, o, rfl, fun i cs hi j u hj => (World.cell?_of_block (a := ⟨b, o + i * 7 + j, none⟩) (htk b o rfl)).trans (hat i cs hi j u hj)⟩
 ·obtain ⟨y, fy, hy⟩ := h.tty b o e
  exact ⟨y, fy, (htk b o e).trans hy⟩
theorem row_other {w : World} {g k : Nat} (cs : Array Value) (h : k ≠ g) : (w.setRow g cs).heap[k]? = w.heap[k]? := by
 simp only [World.setRow, Array.getElem?_modify]
 rw [if_neg (fun e => h e.symm)]
theorem PS.row {L : List Ct} {ta : Option Addr} {tc rb : Nat} {s : Ps} {w : World} (h : PS L ta tc rb s w) {g : Nat} {c : Array Value} {fz : Nat × Nat} (hg : w.heap[g]? = some (.cells c 50 fz)) (hs : c.size = 5) (cs : Array Value) : PS L ta tc rb s (w.setRow g cs) :=
 h.other hg (by decide) (by omega) (fun k hk => row_other cs hk)
theorem kp_row {w w' : World} {r : Option Nat} (h : w.grownBy w' r) {g : Nat} (hg : w.heap.size ≤ g) (cs : Array Value) : w.grownBy (w'.setRow g cs) r :=
 ⟨h.os, h.tape, h.output, by simp only [World.setRow, Array.size_modify]; exact h.size, fun k hk hne => (row_other cs (by omega)).trans (h.block k hk hne)⟩
theorem tok_in {L : List Ct} {i : Int} (h : (tokP L i).kind ≠ 8) : 0 ≤ i ∧ i + 1 ≤ L.length ∧ L[i.toNat]? = some (tokP L i) := by
 unfold tokP at h ⊢
 by_cases h0 : 0 ≤ i
 ·rw [if_pos h0] at h ⊢
  cases hg : L[i.toNat]? with
  | none => rw [hg] at h; exact absurd rfl h
  | some t =>
    have := (List.getElem?_eq_some_iff.1 hg).1
    exact ⟨h0, by omega, rfl⟩
 ·rw [if_neg h0] at h
  exact absurd rfl h
theorem PS.txt {L : List Ct} {ta : Option Addr} {tc rb : Nat} {s : Ps} {w : World} (h : PS L ta tc rb s w) (i : Int) : (tokP L i).text.size ≤ 1000000000 := by
 unfold tokP
 split
 ·cases hg : L[i.toNat]? with
  | none => exact Nat.zero_le _
  | some t => exact h.tsz t (List.mem_of_getElem? hg)
 ·exact Nat.zero_le _
theorem PS.itxt {L : List Ct} {ta : Option Addr} {tc rb : Nat} {s : Ps} {w : World} (h : PS L ta tc rb s w) (z : Ps) (k : ByteArray) : (identP L z k).1.text.size ≤ 1000000000 := by
 unfold identP
 split
 ·exact Nat.zero_le _
 ·exact h.txt _
def ndV (n : T) (ao : Option Addr) (cap : Nat) : Value := .agg #[.string n.kind, .string n.text, .int .i64 n.from_, .int .i64 n.to_, .slice ao n.kids.length cap]
def ndC (n : T) (ao : Option Addr) (cap : Nat) : List Value := [.string n.kind, .string n.text, .int .i64 n.from_, .int .i64 n.to_, .slice ao n.kids.length cap]
def NdAt (w : World) (B : Nat) (n : T) (ao : Option Addr) (cap : Nat) : Prop := Rep w (fun b => B ≤ b) n (ndC n ao cap)
theorem NdAt.below {w w' : World} {B : Nat} {n : T} {ao : Option Addr} {cap : Nat} (h : NdAt w B n ao cap) (hb : Below w.heap.size w w') : NdAt w' B n ao cap := h.later (KeptOn.of_below hb)
theorem NdAt.kp {w w' : World} {B rb : Nat} {n : T} {ao : Option Addr} {cap : Nat} (h : NdAt w B n ao cap) (hg : w.grownBy w' (some rb)) (hB : rb < B) : NdAt w' B n ao cap := h.later (kp_on hg hB)
theorem NdAt.other {w w' : World} {B g : Nat} {n : T} {ao : Option Addr} {cap : Nat} (h : NdAt w B n ao cap) (hk : ∀ k, k ≠ g → w'.heap[k]? = w.heap[k]?) (hg : g < B) : NdAt w' B n ao cap := h.later (fun k hB _ => hk k (by omega))
theorem NdAt.mono {w : World} {B B' : Nat} {n : T} {ao : Option Addr} {cap : Nat} (h : NdAt w B n ao cap) (hB : B' ≤ B) : NdAt w B' n ao cap := h.wide (fun k hk _ => Nat.le_trans hB hk)
theorem NdAt.zero (w : World) (B : Nat) : NdAt w B zT none 0 := Rep.leaf _ _ _ _
theorem NdAt.leaf (w : World) (B : Nat) (k t : ByteArray) (f o : Int) : NdAt w B (.mk k t f o []) none 0 := Rep.leaf _ _ _ _
def KdAt (w : World) (B : Nat) (ks : List T) (v : Value) : Prop := ∃ css, Own w B 50 5 v css ∧ Reps w (fun b => B ≤ b ∧ v.ownBlock ≠ some b) ks css
theorem KdAt.nil (w : World) (B : Nat) : KdAt w B [] (.slice none 0 0) := ⟨[], Own.nil _ _ _ _, .nil⟩
theorem KdAt.below {w w' : World} {B : Nat} {ks : List T} {v : Value} (h : KdAt w B ks v) (hb : Below w.heap.size w w') : KdAt w' B ks v := by
 obtain ⟨css, h1, h2⟩ := h
 exact ⟨css, h1.below hb, h2.later (KeptOn.of_below hb)⟩
theorem KdAt.kp {w w' : World} {B rb : Nat} {ks : List T} {v : Value} (h : KdAt w B ks v) (hg : w.grownBy w' (some rb)) (hB : rb < B) : KdAt w' B ks v := by
 obtain ⟨css, h1, h2⟩ := h
 refine ⟨css, h1.kept hg ?_, h2.later fun k hk hl => hg.block k hl (by intro e; have := Option.some.inj e; have := hk.1; omega)⟩
 cases hv : v.ownBlock with
 | none => exact .inl rfl
 | some k =>
   right
   intro e
   have := Option.some.inj e
   have := h1.ge k hv
   omega
theorem KdAt.slice {w : World} {B n : Nat} {ks : List T} {v : Value} (h : KdAt w B ks v) (hn : ks.length = n) : ∃ ao cap, v = .slice ao n cap := by
 obtain ⟨css, h1, h2⟩ := h
 obtain ⟨ao, cap, rfl, _⟩ := h1.rown (n := n) (by rw [h2.len]; exact hn)
 exact ⟨ao, cap, rfl⟩
theorem Reps.wide {w : World} {F G : Nat → Prop} (hb : ∀ k, F k → k < w.heap.size → G k) {ts : List T} {css : List (List Value)} (h : Reps w F ts css) : Reps w G ts css :=
 Reps.of h.len fun i t cs h1 h2 => by
  obtain ⟨cs', h3, h4⟩ := h.at h1
  rw [h2] at h3
  obtain rfl := Option.some.inj h3
  exact h4.wide hb
theorem Reps.size {w : World} {F : Nat → Prop} {ts : List T} {css : List (List Value)} (h : Reps w F ts css) : ∀ c ∈ css, c.length = 5 := by
 intro c hc
 obtain ⟨i, hi⟩ := List.getElem?_of_mem hc
 obtain ⟨t, ht⟩ : ∃ t, ts[i]? = some t := ⟨_, List.getElem?_eq_getElem (by rw [← h.len]; exact (List.getElem?_eq_some_iff.1 hi).1)⟩
 obtain ⟨cs, h3, h4⟩ := h.at ht
 rw [hi] at h3
 obtain rfl := Option.some.inj h3
 exact h4.len
theorem KdAt.lit {w : World} {B : Nat} {ks : List T} {css : List (List Value)} (h : Reps w (fun b => B ≤ b) ks css) (hB : B ≤ w.heap.size) (hl : ks.length ≤ 1000) : KdAt (w.alloc (.cells css.flatten.toArray 50)) B ks (.slice (some ⟨w.heap.size, 0, none⟩) ks.length ks.length) := by
 have hf : css.flatten.length = ks.length * 5 := by rw [flatten_len h.size, h.len]
 refine ⟨css, ⟨⟨by rw [flatten_len h.size], .inr ⟨w.heap.size, ks.length, css.flatten.toArray, by rw [h.len], hB, heap_alloc_new w _, by rw [h.len]; exact Nat.le_refl _, by unfold maxLen; omega, by rw [List.size_toArray, hf], ?_⟩⟩, h.size⟩, ?_⟩
 ·rw [h.len, ← hf, List.take_length]
 ·refine (h.wide (G := fun b => B ≤ b ∧ b < w.heap.size) (fun k h1 h2 => ⟨h1, h2⟩)).later (KeptOn.of_below ((Below.refl _ w).alloc (Nat.le_refl _) _)) |>.wide ?_
  intro k hk _
  refine ⟨hk.1, ?_⟩
  show some w.heap.size ≠ some k
  intro e
  have := Option.some.inj e
  have := hk.2
  omega
theorem KdAt.snoc {w w' : World} {B : Nat} {ks : List T} {t : T} {v : Value} {css : List (List Value)} {cs : List Value} {g' n cap : Nat} (h1 : Own w B 50 5 v css) (h2 : Reps w (fun b => B ≤ b ∧ v.ownBlock ≠ some b) ks css) (ht : Rep w (fun b => B ≤ b ∧ v.ownBlock ≠ some b) t cs)
 (ho : Own w' B 50 5 (.slice (some ⟨g', 0, none⟩) n cap) (css ++ [cs])) (hg : w.grownBy w' v.ownBlock) (hl : v.ownBlock = some g' ∨ w.heap.size ≤ g') : KdAt w' B (ks ++ [t]) (.slice (some ⟨g', 0, none⟩) n cap) := by
 refine ⟨css ++ [cs], ho, ?_⟩
 have h3 := (h2.snoc ht).wide (G := fun b => B ≤ b ∧ v.ownBlock ≠ some b ∧ b < w.heap.size) (fun k h1 h2 => ⟨h1.1, h1.2, h2⟩)
 refine (h3.later fun k hk hl => hg.block k hl (fun e => hk.2.1 e.symm)).wide ?_
 intro k hk _
 refine ⟨hk.1, ?_⟩
 show some g' ≠ some k
 intro e
 rcases hl with hl | hl
 ·exact hk.2.1 (by rw [hl]; exact e)
 ·have := Option.some.inj e
  have := hk.2.2
  omega
theorem KdAt.node {w : World} {B n cap : Nat} {ks : List T} {ao : Option Addr} (h : KdAt w B ks (.slice ao n cap)) (hl : ks.length ≤ 1000000000) (k t : ByteArray) (f o : Int) : NdAt w B (.mk k t f o ks) ao cap := by
 obtain ⟨css, h1, h2⟩ := h
 have hn := h2.len
 obtain ⟨ao', cap', hv, hc, hm, hr, _⟩ := h1.rown (n := n) (by
  obtain ⟨_, _, e, _⟩ := h1.row
  injection e with _ e _
  exact e.symm)
 injection hv with e1 _ e3
 subst e1 e3
 have hln : ks.length = n := by
  obtain ⟨_, _, e, _⟩ := h1.row
  injection e with _ e _
  omega
 refine .mk (h2.wide fun k hk _ => hk.1) ?_ ⟨by omega, hl⟩
 intro hne
 obtain ⟨b, o, rfl, hat⟩ := hr hne
 exact ⟨b, o, rfl, h1.ge b rfl, hat⟩
end Go.Proofs.YtllbbacnakoomaaGreatDoor
namespace Go.Proofs.YtllbbacnakoomaaGreatDoor
open Go.RowKit
set_option linter.unusedVariables false
theorem beq_bytes (a b : ByteArray) : (a.toList == b.toList) = decide (a = b) := by
 by_cases h : a = b
 ·subst h; simp
 ·rw [decide_eq_false h]
  exact beq_false_of_ne (fun e => h (bl_inj e))
theorem punct_any (t : Ct) (x : ByteArray) (w : World) :
 Calls Tryz.prog 165 #[ctV t, .string x] w fun e w' => e = .returned (.bool (isT t x)) ∧ Below w.heap.size w w' := by
 unfold ctV
 have hb := fun o => (Below.refl w.heap.size w).alloc (Nat.le_refl _) o
 by_cases h : t.kind = 7
 ·have hx : isT t x = (t.text.toList == x.toList) := by unfold isT; rw [beq_bytes, decide_eq_true h, Bool.true_and]
  rw [hx]
  clear hx
  go_enter Tryz.func165, Tryz.ntmps165
  go_wp2
  go_ret
  exact ⟨rfl, hb _⟩
 ·have hx : isT t x = false := by unfold isT; rw [decide_eq_false h, Bool.false_and]
  rw [hx]
  clear hx
  have h' : (t.kind == 7) = false := by simpa using h
  go_enter Tryz.func165, Tryz.ntmps165
  go_wp2
  go_ret
  exact ⟨rfl, hb _⟩
theorem rest_any {L : List Ct} {ta : Option Addr} {tc rb : Nat} {s : Ps} {w : World} (h : PS L ta tc rb s w) (n : Int) (hn : n = 0 ∨ n = 1) :
 Calls Tryz.prog 157 #[.pointer (some ⟨rb, 0, none⟩), .int .i64 n] w fun e w' => e = .returned (ctV (tokP L (s.at_ + n))) ∧ Below w.heap.size w w' := by
 obtain ⟨p, he, c0, c1, c2, c3, cf⟩ := h.cells
 have hlo := h.lo
 have hhi := h.hi
 have hlen := h.len
 have hto := h.toks
 have hlt := h.lt
 obtain ⟨i, hi⟩ : ∃ i, i = s.at_ := ⟨_, rfl⟩
 rw [← hi] at c1 hlo hhi ⊢
 clear hi
 obtain ⟨m, hm⟩ : ∃ m, m = L.length := ⟨_, rfl⟩
 rw [← hm] at c0 hhi hlen
 obtain ⟨j, hj⟩ : ∃ j, j = i + n := ⟨_, rfl⟩
 have g1 : IntKind.i64.wrap (i + n) = j := by rw [hj]; exact IntWalk.i64_in _ (by rcases hn with rfl | rfl <;> omega)
 rw [← hj]
 clear hj
 have hb := fun o => (Below.refl w.heap.size w).alloc (Nat.le_refl _) o
 clear he c2 c3 cf h
 by_cases h0 : 0 ≤ j
 ·by_cases h1 : j < (m : Int)
  ·obtain ⟨k, rfl⟩ : ∃ k : Nat, j = k := ⟨j.toNat, by omega⟩
   obtain ⟨t, ht⟩ : ∃ t, L[k]? = some t := ⟨_, List.getElem?_eq_getElem (by omega)⟩
   have htk : tokP L (k : Int) = t := by unfold tokP; rw [if_pos (by omega), Int.toNat_natCast, ht]; rfl
   rw [htk]
   clear htk
   obtain ⟨b, o, rfl, hat⟩ := hto (by intro e; simp at e; rw [e] at ht; simp at ht)
   obtain ⟨x0, x1, x2, x3, x4, x5, x6⟩ := ct_cells hat ht
   have hbl : b < w.heap.size := cell_lt x0
   clear hat ht hto hm
   unfold ctV
   go_enter Tryz.func157, Tryz.ntmps157
   go_wp2
   refine bodyPost_ret (results_cell_row rfl _ _ w.heap.size 95 _ (0,0) _ rfl (heap_alloc_new _ _) Tryz.underlying95 rfl (by kernel_rfl)) rfl ?_
   exact ⟨rfl, hb _⟩
  ·have htk : tokP L j = endT := by unfold tokP; rw [if_pos h0, List.getElem?_eq_none (by omega)]; rfl
   rw [htk]
   clear htk hto hm
   unfold ctV endT
   go_enter Tryz.func157, Tryz.ntmps157
   go_wp2
   refine bodyPost_ret (results_cell_row rfl _ _ w.heap.size 95 _ (0,0) _ rfl (heap_alloc_new _ _) Tryz.underlying95 rfl (by kernel_rfl)) rfl ?_
   exact ⟨rfl, hb _⟩
 ·have htk : tokP L j = endT := by unfold tokP; rw [if_neg h0]
  rw [htk]
  clear htk hto hm
  unfold ctV endT
  go_enter Tryz.func157, Tryz.ntmps157
  go_wp2
  refine bodyPost_ret (results_cell_row rfl _ _ w.heap.size 95 _ (0,0) _ rfl (heap_alloc_new _ _) Tryz.underlying95 rfl (by kernel_rfl)) rfl ?_
  exact ⟨rfl, hb _⟩
theorem info_tok : (Tryz.prog.info? 95).map (·.size) = some 7 := by kernel_rfl
theorem info_nd : (Tryz.prog.info? 50).map (·.size) = some 5 := by kernel_rfl
theorem alloc_kept {w w1 : World} {o : Obj} (h : Below (w.alloc o).heap.size (w.alloc o) w1) : w1.heap[w.heap.size]? = some o :=
 (h.block _ (by simp)).trans (heap_alloc_new _ _)
theorem alloc_below {w w1 : World} {o : Obj} (h : Below (w.alloc o).heap.size (w.alloc o) w1) : Below w.heap.size w w1 :=
 ((Below.refl _ w).alloc (Nat.le_refl _) o).trans (h.mono (by simp))
theorem tok_any {L : List Ct} {ta : Option Addr} {tc rb : Nat} {s : Ps} {w : World} (h : PS L ta tc rb s w) :
 Calls Tryz.prog 100 #[.pointer (some ⟨rb, 0, none⟩)] w fun e w' => e = .returned (ctV (tokP L s.at_)) ∧ Below w.heap.size w w' := by
 have hb := fun o => (Below.refl w.heap.size w).alloc (Nat.le_refl _) o
 go_enter Tryz.func100, Tryz.ntmps100
 go_wp2_with fail
 refine (rest_any (h.below (hb _)) 0 (.inl rfl)).mono ?_
 rintro e w1 ⟨rfl, hb1⟩
 have hc := alloc_kept hb1
 have hbw := alloc_below hb1
 rw [Int.add_zero]
 unfold ctV
 go_wp2_with (refine wpList_store_row rfl 95 _ _ rfl w.heap.size _ rfl rfl 95 _ hc info_tok rfl (by simp [Value.oneCell']) ?_)
 refine bodyPost_ret (results_cell_row rfl _ _ w.heap.size 95 _ (0,0) _ rfl (setRow_heap _ _ _ _ _ _ hc) Tryz.underlying95 rfl (by kernel_rfl)) rfl ?_
 exact ⟨rfl, Below.row hbw (Nat.le_refl _) _⟩
theorem rIs_any {L : List Ct} {ta : Option Addr} {tc rb : Nat} {s : Ps} {w : World} (h : PS L ta tc rb s w) (x : ByteArray) :
 Calls Tryz.prog 119 #[.pointer (some ⟨rb, 0, none⟩), .string x] w fun e w' => e = .returned (.bool (isP L s x)) ∧ Below w.heap.size w w' := by
 have HT := tok_any h
 go_enter Tryz.func119, Tryz.ntmps119
 go_wp2_with fail
 refine HT.mono ?_
 rintro e w1 ⟨rfl, hb1⟩
 have HP := fun t => punct_any t x w1
 unfold ctV at HP ⊢
 go_wp2_with fail
 refine (HP _).mono ?_
 rintro e w2 ⟨rfl, hb2⟩
 go_wp2
 go_ret
 exact ⟨rfl, hb1.trans (hb2.mono hb1.size)⟩
theorem rBehind_any {L : List Ct} {ta : Option Addr} {tc rb : Nat} {s : Ps} {w : World} (h : PS L ta tc rb s w) (x : ByteArray) :
 Calls Tryz.prog 126 #[.pointer (some ⟨rb, 0, none⟩), .string x] w fun e w' => e = .returned (.bool (behP L s x)) ∧ Below w.heap.size w w' := by
 have HT := rest_any h 1 (.inr rfl)
 go_enter Tryz.func126, Tryz.ntmps126
 go_wp2_with fail
 refine HT.mono ?_
 rintro e w1 ⟨rfl, hb1⟩
 have HP := fun t => punct_any t x w1
 unfold ctV at HP ⊢
 go_wp2_with fail
 refine (HP _).mono ?_
 rintro e w2 ⟨rfl, hb2⟩
 go_wp2
 go_ret
 exact ⟨rfl, hb1.trans (hb2.mono hb1.size)⟩
theorem rFail_any {L : List Ct} {ta : Option Addr} {tc rb : Nat} {s : Ps} {w : World} (h : PS L ta tc rb s w) :
 Calls Tryz.prog 108 #[.pointer (some ⟨rb, 0, none⟩)] w fun e w' => e = .returned (.tuple #[]) ∧ PS L ta tc rb s.fail w' ∧ w.grownBy w' (some rb) := by
 obtain ⟨p, he, c0, c1, c2, c3, cf⟩ := h.cells
 have hf := h.fail
 clear he
 go_enter Tryz.func108, Tryz.ntmps108
 go_wp2
 go_end0
 exact ⟨rfl, hf, kp_set _ _ _ _⟩
theorem rHas_any {L : List Ct} {ta : Option Addr} {tc rb : Nat} {s : Ps} {w : World} (h : PS L ta tc rb s w) (x : ByteArray) :
 Calls Tryz.prog 127 #[.pointer (some ⟨rb, 0, none⟩), .string x] w fun e w' => e = .returned (.bool (hasP L s x)) ∧ PS L ta tc rb (if hasP L s x then s.up 1 else s) w' ∧ w.grownBy w' (some rb) := by
 obtain ⟨p, he, c0, c1, c2, c3, cf⟩ := h.cells
 have hlo := h.lo
 have hhi := h.hi
 have hlen := h.len
 have g1 : IntKind.i64.wrap (s.at_ + 1) = s.at_ + 1 := IntWalk.i64_in _ (by omega)
 have HI := Hd (rIs_any h x)
 clear he
 cases hbad : s.bad with
 | true =>
   have hh : hasP L s x = false := by unfold hasP; rw [hbad]; rfl
   rw [hh, if_neg (by simp)]
   rw [hbad] at c3
   go_enter Tryz.func127, Tryz.ntmps127
   go_wp2
   go_ret
   exact ⟨rfl, h, kp_refl _ _⟩
 | false =>
   rw [hbad] at c3
   cases hi : isP L s x with
   | false =>
     have hh : hasP L s x = false := by unfold hasP; rw [hbad, hi]; rfl
     rw [hh, if_neg (by simp)]
     rw [hi] at HI
     go_enter Tryz.func127, Tryz.ntmps127
     go_wp2_with fail
     refine HI.out.mono ?_
     rintro e w1 ⟨rfl, hb1⟩
     go_wp2
     go_ret
     exact ⟨rfl, h.below hb1, kp_of_below hb1 _⟩
   | true =>
     have hh : hasP L s x = true := by unfold hasP; rw [hbad, hi]; rfl
     rw [hh, if_pos rfl]
     rw [hi] at HI
     go_enter Tryz.func127, Tryz.ntmps127
     go_wp2_with fail
     refine HI.out.mono ?_
     rintro e w1 ⟨rfl, hb1⟩
     have h1 := h.below hb1
     obtain ⟨p1, he1, d0, d1, d2, d3, df⟩ := h1.cells
     have hu := Hd (h1.up (n := 1) (by omega) (by
      have := tok_in (L := L) (i := s.at_) (by unfold isP isT at hi; simp only [Bool.and_eq_true, decide_eq_true_eq] at hi; omega)
      exact this.2.1))
     clear he1 c0 c1 c2 c3 cf
     go_wp2
     go_ret
     exact ⟨rfl, hu.out, grown_trans (kp_of_below hb1 _) (kp_set _ _ _ _)⟩
end Go.Proofs.YtllbbacnakoomaaGreatDoor
