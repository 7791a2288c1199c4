/- Texts of this seat's proofs, laid into one file. -/
import Derived.Test.YtllbbacnakoomaaGreatDoorS30
import Derived.StillTailTactics
import Derived.Deep.RegionWith
import Derived.Test.YtllbbacnakoomaaGreatDoorS15
set_option maxRecDepth 100000
set_option maxHeartbeats 16000000
namespace Go.Proofs.YtllbbacnakoomaaGreatDoor
open Go.RowKit
set_option linter.unusedVariables false
abbrev drV (rb : Nat) : Value := .agg #[.pointer (some ⟨rb, 0, none⟩)]
abbrev drO (rb : Nat) : Obj := .cells #[.pointer (some ⟨rb, 0, none⟩)] 124 (0,0)
theorem dr_cell {w : World} {g rb : Nat} (h : w.heap[g]? = some (drO rb)) : w.cell? ⟨g, 0, none⟩ = some (.pointer (some ⟨rb, 0, none⟩)) ∧ ∀ j, w.frozen? ⟨g, j, none⟩ = false := by
 refine ⟨?_, fun j => Lib.frozen_of_heap h j⟩
 rw [Lib.cell_of_heap h]
 rfl
structure Good2 (L : List Ct) (ta : Option Addr) (tc rb : Nat) (R : Rec) : Prop where
 good : Good L ta tc rb R
 declaration : ∀ {w : World} {s : Ps} {nest : Nat} {n : T} {s' : Ps}, PS L ta tc rb s w → nest ≤ 1000 → R.declaration nest s = some (n, s') → Calls Tryz.prog 70 #[drV rb, .int .i64 nest] w (NdRet L ta tc rb w n s')
 stmt : ∀ {w : World} {s : Ps} {nest : Nat} {n : T} {s' : Ps}, PS L ta tc rb s w → nest ≤ 1000 → R.stmt nest s = some (n, s') → Calls Tryz.prog 72 #[drV rb, .int .i64 nest] w (NdRet L ta tc rb w n s')
 block : ∀ {w : World} {s : Ps} {nest : Nat} {n : T} {s' : Ps}, PS L ta tc rb s w → nest ≤ 1000 → R.block nest s = some (n, s') → Calls Tryz.prog 68 #[drV rb, .int .i64 nest] w (NdRet L ta tc rb w n s')
def tdB (k : T) : Bool := decide (k.kind = (⟨#[115,116,111,114,97,103,101]⟩ : ByteArray)) && decide (k.text = (⟨#[116,121,112,101,100,101,102]⟩ : ByteArray))
theorem td_any (x : T) (ao : Option Addr) (cap : Nat) (w : World) :
 Calls Tryz.prog 125 #[ndV x ao cap] w fun e w' => e = .returned (.bool (tdB x)) ∧ Below w.heap.size w w' := by
 have hb := fun o => (Below.refl w.heap.size w).alloc (Nat.le_refl _) o
 unfold ndV tdB
 by_cases hq : x.kind = (⟨#[115,116,111,114,97,103,101]⟩ : ByteArray)
 ·by_cases ht : x.text = (⟨#[116,121,112,101,100,101,102]⟩ : ByteArray)
  ·rw [decide_eq_true hq, decide_eq_true ht, hq, ht]
   go_enter Tryz.func125, Tryz.ntmps125
   go_wp2
   go_ret
   exact ⟨rfl, hb _⟩
  ·rw [decide_eq_true hq, decide_eq_false ht, hq]
   have hf := eqb_no ([116,121,112,101,100,101,102] : List UInt8) ht
   go_enter Tryz.func125, Tryz.ntmps125
   go_wp2
   go_ret
   exact ⟨rfl, hb _⟩
 ·rw [decide_eq_false hq]
  have hf := eqb_no ([115,116,111,114,97,103,101] : List UInt8) hq
  go_enter Tryz.func125, Tryz.ntmps125
  go_wp2
  go_ret
  exact ⟨rfl, hb _⟩
theorem td_index (xs : List T) (F : Nat → Prop) (w : World) (ao : Option Addr) (ca : Nat) (css : List (List Value)) (ha : Reps w F xs css) (hra : RowF w F 5 ao css) (n : Nat) (h1 : xs.length = n) (hn : n ≤ 1000000000) :
 Calls Tryz.prog 64 #[.slice ao n ca, .func (.func 125) #[] #[]] w fun e w' => e = .returned (.int .i64 (idxV (xs.findIdx? tdB))) ∧ Below w.heap.size w w' := by
 have H1 := Hd h1
 clear h1
 obtain ⟨o, ho⟩ : ∃ o, o = xs.findIdx? tdB := ⟨_, rfl⟩
 rw [← ho]
 have hst : Hid (o = ((xs.drop 0).findIdx? tdB).map (· + 0)) := Hd (by rw [ho]; simp)
 have hrf := Below.refl w.heap.size w
 replace ha := Hd ha
 replace hra := Hd hra
 clear ho
 go_enter Tryz.func64, Tryz.ntmps64
 go_wp2_with fail
 go_loopg [8] n (fun q v8 wx => ∃ i : Nat, q = n - i ∧ i ≤ n ∧ v8 = .int .i64 i ∧ Hid (Below w.heap.size w wx) ∧ Hid (o = ((xs.drop i).findIdx? tdB).map (· + i)))
 case atStart => exact ⟨0, rfl, Nat.zero_le _, rfl, Hd hrf, hst⟩
 case round =>
  obtain ⟨i, rfl, hi, rfl, hbw, hf⟩ := hrel
  by_cases hi8 : i < n
  ·have f1 : (i : Int) < (n : Int) := by omega
   have g1 : IntKind.i64.wrap ((i : Int) + 1) = (i : Int) + 1 := IntWalk.i64_in _ (by omega)
   obtain ⟨x, hx⟩ : ∃ x, xs[i]? = some x := ⟨xs[i]'(by rw [H1.out]; exact hi8), by simp⟩
   obtain ⟨xc, hxc, hxr⟩ := ha.out.at hx
   obtain ⟨kb, ko, rfl, _, hat⟩ := hra.out.later (KeptOn.of_below hbw.out) (by intro h0; have := ha.out.len; rw [h0, H1.out] at this; simp at this; omega)
   obtain ⟨xa, xp, rfl⟩ := rep_agg hxr
   have c0 := hat.cell hxc (j := 0) rfl
   have c1 := hat.cell hxc (j := 1) rfl
   have c2 := hat.cell hxc (j := 2) rfl
   have c3 := hat.cell hxc (j := 3) rfl
   have c4 := hat.cell hxc (j := 4) rfl
   simp only [Nat.add_zero] at c0
   have HL := Hd (td_any x xa xp wr)
   have hf2 := hf.out
   rw [drop_get hx, List.findIdx?_cons] at hf2
   obtain ⟨cb, hcb⟩ : ∃ c, c = tdB x := ⟨_, rfl⟩
   rw [← hcb] at HL hf2
   unfold ndV at HL
   replace hf2 := Hd hf2
   clear hxr hxc hat hx hcb
   go_wp2_with fail
   refine HL.out.mono ?_
   rintro e w2 ⟨rfl, hb2⟩
   have hb3 := hbw.out.trans (hb2.mono hbw.out.size)
   cases cb with
   | true =>
     go_wp2_with fail
     go_ret
     refine ⟨?_, hb3⟩
     have : o = some i := by rw [hf2.out]; simp
     rw [this]
     rfl
   | false =>
     go_wp2_with fail
     go_roundg (n - (i + 1))
     case measure => omega
     case rel =>
      refine ⟨i + 1, rfl, hi8, by go_num, Hd hb3, Hd ?_⟩
      rw [hf2.out]
      simp only [Bool.false_eq_true, if_false, Option.map_map]
      congr 1
      funext n
      simp only [Function.comp]
      omega
  ·obtain rfl : i = n := by omega
   go_wp2_with fail
   go_ret
   refine ⟨?_, hbw.out⟩
   have : o = none := by rw [hf.out, List.drop_eq_nil_of_le (by rw [H1.out]; exact Nat.le_refl _)]; rfl
   rw [this]
   rfl
theorem td_has (xs : List T) : decide ((0 : Int) ≤ idxV (xs.findIdx? tdB)) = xs.any tdB := by
 rw [← List.findIdx?_isSome]
 cases xs.findIdx? tdB with
 | none => rfl
 | some i =>
   have : (0 : Int) ≤ (i : Int) := Int.natCast_nonneg i
   simp only [idxV, Option.isSome_some]
   exact decide_eq_true this
theorem td_contains (xs : List T) (F : Nat → Prop) (w : World) (ao : Option Addr) (ca : Nat) (css : List (List Value)) (ha : Reps w F xs css) (hra : RowF w F 5 ao css) (n : Nat) (h1 : xs.length = n) (hn : n ≤ 1000000000) :
 Calls Tryz.prog 124 #[.slice ao n ca, .func (.func 125) #[] #[]] w fun e w' => e = .returned (.bool (xs.any tdB)) ∧ Below w.heap.size w w' := by
 have HI := Hd (td_index xs F w ao ca css ha hra n h1 hn)
 have hH := td_has xs
 obtain ⟨r, hr⟩ : ∃ r, r = idxV (xs.findIdx? tdB) := ⟨_, rfl⟩
 rw [← hr] at HI hH
 rw [← hH]
 clear hr hH ha hra
 go_enter Tryz.func124, Tryz.ntmps124
 go_wp2_with fail
 refine HI.out.mono ?_
 rintro e w1 ⟨rfl, hb1⟩
 by_cases h0 : 0 ≤ r
 ·have hd : decide (0 ≤ r) = true := decide_eq_true h0
  go_wp2
  go_ret
  exact ⟨by rw [hd]; rfl, hb1⟩
 ·have hd : decide (0 ≤ r) = false := decide_eq_false h0
  go_wp2
  go_ret
  exact ⟨by rw [hd]; rfl, hb1⟩
theorem isTypedef_any {w : World} {F : Nat → Prop} {x : T} {ao : Option Addr} {cap : Nat} (h : Rep w F x (ndC x ao cap)) :
 Calls Tryz.prog 71 #[ndV x ao cap] w fun e w' => e = .returned (.bool (isTypedefT x)) ∧ Below w.heap.size w w' := by
 have hb := (Below.refl w.heap.size w).alloc (Nat.le_refl _) (bxO x ao cap)
 cases x with
 | mk k t f o ks =>
   obtain ⟨css, hks, hrow, hcl⟩ : ∃ css, Reps w F ks css ∧ RowF w F 5 ao css ∧ (ks.length ≤ cap ∧ ks.length ≤ 1000000000) := by
    cases h with
    | mk a b c => exact ⟨_, a, b, c⟩
   have HC := Hd (td_contains ks F (w.alloc (bxO (.mk k t f o ks) ao cap)) ao cap css (hks.later (KeptOn.of_below hb)) (hrow.later (KeptOn.of_below hb)) ks.length rfl hcl.2)
   have hT : isTypedefT (.mk k t f o ks) = ks.any tdB := rfl
   rw [hT]
   replace hb := Hd hb
   clear hT hks hrow hcl h
   unfold ndV
   simp only [T.kind, T.text, T.from_, T.to_, T.kids]
   go_enter Tryz.func71, Tryz.ntmps71
   go_wp2_with fail
   refine HC.out.mono ?_
   rintro e w1 ⟨rfl, hb1⟩
   go_wp2
   go_ret
   exact ⟨rfl, hb.out.trans (hb1.mono hb.out.size)⟩
theorem inPar_any {L : List Ct} {ta : Option Addr} {tc rb : Nat} {R : Rec} (G : Good L ta tc rb R) {w : World} {s : Ps} {nest : Nat} {n : T} {s' : Ps} (h : PS L ta tc rb s w) (hn : nest ≤ 1000) (hr : inParF L R nest s = some (n, s')) :
 Calls Tryz.prog 167 #[drV rb, .int .i64 nest] w (NdRet L ta tc rb w n s') := by
 have C := Hd (((Cx.start h).alloc (drO rb) (a := w.heap.size) rfl).alloc nzO (a := w.heap.size + 1) (by simp))
 have hlt := h.lt
 unfold inParF at hr
 obtain ⟨⟨b, z⟩, hb1, hb2⟩ := Option.bind_eq_some_iff.1 hr
 simp only at hb2
 replace hb1 := Hd hb1
 replace hb2 := Hd hb2
 clear hr
 obtain ⟨rfl, rfl⟩ := Prod.mk.inj (Option.some.inj hb2.out)
 clear hb2
 go_enter Tryz.func167, Tryz.ntmps167
 go_wp2_with fail
 refine (rNeed_any C.out.ps (⟨#[40]⟩ : ByteArray)).mono ?_
 rintro e w1 ⟨rfl, h1, k1⟩
 replace C := Hd (C.out.call h1 k1)
 obtain ⟨z0, zf⟩ := dr_cell (C.out.var (i := 1) rfl)
 go_wp2_with fail
 refine (G.expr C.out.ps hn hb1.out).mono ?_
 rintro e w2 ⟨ao2, cap2, rfl, hn2, h2, k2⟩
 replace C := Hd (C.out.ret hn2 h2 k2)
 unfold ndV
 replace C := Hd (C.out.alloc (bxO b ao2 cap2) (a := w2.heap.size) rfl)
 clear z0 zf
 obtain ⟨z0, zf⟩ := dr_cell (C.out.var (i := 2) rfl)
 go_wp2_with fail
 refine (rNeed_any C.out.ps (⟨#[41]⟩ : ByteArray)).mono ?_
 rintro e w3 ⟨rfl, h3, k3⟩
 replace C := Hd (C.out.call h3 k3)
 clear z0 zf
 obtain ⟨b0, b1, b2, b3, b4, bf⟩ := nd_cells (C.out.var (i := 0) rfl)
 have hcc := C.out.var (i := 1) rfl
 go_wp2_with (refine stN rfl rfl rfl rfl hcc rfl rfl (by simp [Value.oneCell']) ?_)
 refine retN rfl rfl rfl (setRow_heap _ _ _ _ _ _ hcc) rfl ?_
 exact ⟨_, _, rfl, (C.out.set (i := 1) rfl rfl _).out (.head _)⟩
end Go.Proofs.YtllbbacnakoomaaGreatDoor
namespace Go.Proofs.YtllbbacnakoomaaGreatDoor
open Go.RowKit
set_option linter.unusedVariables false
theorem Reps.app {w : World} {F : Nat → Prop} {us : List T} {dss : List (List Value)} (r : Reps w F us dss) : ∀ {ts : List T} {css : List (List Value)}, Reps w F ts css → Reps w F (ts ++ us) (css ++ dss)
 | [], _, h => by cases h; exact r
 | t :: ts, _, h => by cases h with | cons h1 h2 => exact .cons h1 (Reps.app r h2)
theorem nd_flat (xs : List Nd) : (xs.map Nd.cs).flatten.length = xs.length * 5 := by
 induction xs with
 | nil => rfl
 | cons x r ih => rw [List.map_cons, List.flatten_cons, List.length_append, ih, List.length_cons]; show 5 + _ = _; omega
theorem nd_one (xs : List Nd) : ∀ u ∈ (xs.map Nd.cs).flatten, u.oneCell' = true := by
 intro u hu
 obtain ⟨c, hc, hu⟩ := List.mem_flatten.1 hu
 obtain ⟨x, _, rfl⟩ := List.mem_map.1 hc
 unfold Nd.cs ndC at hu; simp at hu; rcases hu with rfl | rfl | rfl | rfl | rfl <;> rfl
section
variable {L : List Ct} {ta : Option Addr} {tc rb : Nat} {F : Nat → Prop} {O0 : Option Nat} {w0 : World} {s s' : Ps} {ns : List Nd} {vs : List (Nat × Obj)} {ks : List T} {v : Value} {w w' : World}
theorem Cx.snocs (C : Cx L ta tc rb F O0 w0 s ns vs ks v w) {xs : List Nd} (hx : ∀ x ∈ xs, x ∈ ns) {css : List (List Value)} (h1 : Own w 0 50 5 v css) (h2 : Reps w (Ft F w0.heap.size vs v.ownBlock) ks css) {n g' cap : Nat} (ho : Own w' 0 50 5 (.slice (some ⟨g', 0, none⟩) n cap) (css ++ xs.map Nd.cs)) (hg : w.grownBy w' v.ownBlock) (hl : v.ownBlock = some g' ∨ w.heap.size ≤ g') :
 n = ks.length + xs.length ∧ Cx L ta tc rb F O0 w0 s ns vs (ks ++ xs.map (·.n)) (.slice (some ⟨g', 0, none⟩) n cap) w' := by
 have hn : n = ks.length + xs.length := by
  obtain ⟨_, _, e, _⟩ := ho.row
  injection e with _ e _
  rw [e, List.length_append, h2.len, List.length_map]
 have hblk : ∀ k, k < w.heap.size → v.ownBlock ≠ some k → w'.heap[k]? = w.heap[k]? := fun k hk hne => hg.block k hk (fun e => hne e.symm)
 have hps : PS L ta tc rb s w' := by
  cases hv : v.ownBlock with
  | none =>
    rw [hv] at hg
    exact C.ps.below ⟨hg.os, hg.tape, hg.output, hg.size, fun k hk => hg.block k hk (by simp)⟩
  | some b =>
    rw [hv] at hg
    rcases h1.1.2 with ⟨rfl, _⟩ | ⟨g, cap', cur, rfl, _, hgb, _, _, hs, _⟩
    ·simp [Value.ownBlock] at hv
    ·simp only [Value.ownBlock, Option.some.injEq] at hv
     subst hv
     exact C.ps.grown hgb (by omega) hg
 have hft : ∀ k, (Ft F w0.heap.size vs v.ownBlock k ∧ k < w.heap.size) → Ft F w0.heap.size vs (some g') k := by
  rintro k ⟨⟨a, b, c⟩, d⟩
  refine ⟨a, b, fun e => ?_⟩
  have e' := Option.some.inj e
  rcases hl with hl | hl
  ·exact c (by rw [hl, e'])
  ·omega
 have hK : KeptOn (fun k => Ft F w0.heap.size vs v.ownBlock k ∧ k < w.heap.size) w w' := fun k hk hl => hblk k hl hk.1.2.2
 have hN : ∀ y ∈ ns, Rep w' (Ft F w0.heap.size vs (some g')) y.n y.cs := fun y hy => (((C.nok y hy).wide (G := fun k => Ft F w0.heap.size vs v.ownBlock k ∧ k < w.heap.size) fun k h1 h2 => ⟨h1, h2⟩).later hK).wide fun k h _ => hft k h
 refine ⟨hn, hps, ⟨hg.os.trans C.kp.os, hg.tape.trans C.kp.tape, hg.output.trans C.kp.output, Nat.le_trans C.kp.size hg.size, fun k a b c => (hblk k (Nat.lt_of_lt_of_le a C.kp.size) (fun e => by
  rcases (C.olo k e).2 with h | h
  ·omega
  ·exact c h)).trans (C.kp.block k a b c), fun b y fz hy => (hblk b (lt_of_block (C.kp.env b y fz hy)) (fun e => by
  obtain ⟨c, fz', hc⟩ := h1.size_lt b e
  rw [C.kp.env b y fz hy] at hc
  injection hc with hc
  injection hc with _ hc _
  revert hc
  decide)).trans (C.kp.env b y fz hy)⟩, C.fr, C.rb0, C.tlo, fun y hy => ?_, C.vnd, ⟨css ++ xs.map Nd.cs, ho, ?_⟩, fun k hk => ?_, fun y hy e => ?_, hN⟩
 ·obtain ⟨a, b⟩ := C.vok y hy
  exact ⟨(hblk _ (lt_of_block a) (C.ovs y hy)).trans a, b⟩
 ·exact ((((Reps.app (Reps.pick fun x h => C.nok x (hx x h)) h2).wide (G := fun k => Ft F w0.heap.size vs v.ownBlock k ∧ k < w.heap.size) fun k h1 h2 => ⟨h1, h2⟩).later hK).wide fun k h _ => hft k h)
 ·have e := Option.some.inj hk
  simp only at e
  subst e
  rcases hl with hl | hl
  ·exact C.olo _ hl
  ·have h1 := C.ps.lt
   exact ⟨by omega, .inl (by have := C.kp.size; omega)⟩
 ·have e' := Option.some.inj e
  simp only at e'
  rcases hl with hl | hl
  ·exact C.ovs y hy (by rw [hl, e'])
  ·have := lt_of_block (C.vok y hy).1
   omega
theorem step_snocs (C : Cx L ta tc rb F O0 w0 s ns vs ks v w) {xs : List Nd} (hx : ∀ x ∈ xs, x ∈ ns) (hp : 0 < xs.length) (hl : ks.length + xs.length ≤ 1000000000) {ops : Array Oper} {o : Oper} {a : Act} {K : Act → World → Prop} {Q : Exit → Act → World → Prop} {Z : Prop}
 (hgd : o.guard = none) {sl xo : Operand} (ho : o.op = .call { callee := .builtin .append, args := #[sl, xo], argTypes := #[48,48] }) (hs : a.eval sl = v) {c g m : Nat} (hm : m = xs.length) (hxo : a.eval xo = .slice (some ⟨g, 0, none⟩) m c) (hg : w.heap[g]? = some (.cells (xs.map Nd.cs).flatten.toArray 50 (0,0)))
 (h : ∀ m ao cap w', Hid ((ks ++ xs.map (·.n)).length = m) → Cx L ta tc rb F O0 w0 s ns vs (ks ++ xs.map (·.n)) (.slice ao m cap) w' → K (a.put o.dst (.slice ao m cap)) w') :
 if Region.wanted o (yielded ops a.tmps) = true then Oper.wp Tryz.prog o a w K Q else Z := by
 subst hm
 obtain ⟨css, h1, h2⟩ := C.own
 have E := E50
 obtain ⟨i, hi, hz0, hz1, hz2⟩ := info_parts E.info
 have hcl : css.length = ks.length := h2.len
 have hb : (css.length + xs.length) * 72 ≤ 140737488355328 := by
  calc (css.length + xs.length) * 72 ≤ 1000000000 * 1000 := Nat.mul_le_mul (by omega) (by decide)
   _ ≤ 140737488355328 := by decide
 refine step_append_lies w hgd sl xo 48 ho 0 50 i _ 5 72 E.under hi hz0 hz1 hz2 E.zs E.pos v css.length css.flatten hs h1.1 ⟨g, 0, none⟩ xs.length c (xs.map Nd.cs).flatten hxo (nd_flat xs) ?_ (nd_one xs) (by omega) (by unfold maxLen; omega) hb (Nat.zero_le _) _ rfl ?_
 ·intro j u hj
  rw [Addr.add_lit, Lib.cell_of_heap hg]
  simpa using hj
 ·intro g' cap w' k1 k2 k3 _
  have k4 : Own w' 0 50 5 (.slice (some ⟨g', 0, none⟩) (css.length + xs.length) cap) (css ++ xs.map Nd.cs) := by
   refine ⟨by simpa using k1, ?_⟩
   intro c hc
   rcases List.mem_append.1 hc with hc | hc
   ·exact h1.2 c hc
   ·obtain ⟨x, _, rfl⟩ := List.mem_map.1 hc; rfl
  obtain ⟨k5, k6⟩ := C.snocs hx h1 h2 k4 k2 (k3.imp id (fun e => by rw [e]; exact Nat.le_refl _))
  exact h _ _ cap w' (Hd (by rw [k5, List.length_append, List.length_map])) k6
end
end Go.Proofs.YtllbbacnakoomaaGreatDoor
namespace Go.Proofs.YtllbbacnakoomaaGreatDoor
open Go.RowKit
set_option linter.unusedVariables false
theorem word_if {L : List Ct} {ta : Option Addr} {tc rb : Nat} {R : Rec} (G2 : Good2 L ta tc rb R) {w : World} {s : Ps} {nest : Nat} {ks : List T} {s' : Ps} (h : PS L ta tc rb s w) (hn : nest ≤ 1000) (hin : s.at_ + 1 ≤ L.length) (hr : wordIn L R nest (⟨#[105,102]⟩ : ByteArray) (s.up 1) = some (ks, s')) :
 Calls Tryz.prog 128 #[drV rb, .int .i64 nest, .string (⟨#[105,102]⟩ : ByteArray)] w (NdRetB L ta tc rb w (mkP (⟨#[105,102]⟩ : ByteArray) eB s.at_ s' ks, true) s') := by
 unfold wordIn at hr
 rw [if_neg (by decide), if_neg (by decide), if_pos rfl] at hr
 obtain ⟨⟨c, z1⟩, hc1, hc2⟩ := Option.bind_eq_some_iff.1 hr
 simp only at hc2
 replace hc1 := Hd hc1
 replace hc2 := Hd hc2
 clear hr
 have hr := hc2.out
 clear hc2
 obtain ⟨⟨t, z2⟩, ht1, ht2⟩ := Option.bind_eq_some_iff.1 hr
 simp only at ht2
 replace ht1 := Hd ht1
 replace ht2 := Hd ht2
 clear hr
 have hr := ht2.out
 clear ht2
 have G := G2.good
 have C := Hd (((Cx.start h).alloc (drO rb) (a := w.heap.size) rfl).alloc nzO (a := w.heap.size + 1) (by simp))
 have hlt := h.lt
 have hlo := h.lo
 have hlen := h.len
 have g2 : IntKind.i64.wrap (s.at_ + 1) = s.at_ + 1 := IntWalk.i64_in _ (by omega)
 obtain ⟨z0, zf⟩ := dr_cell (C.out.var (i := 1) rfl)
 try clear c0 c1 c2 c3 cf
 obtain ⟨p4, he4, c0, c1, c2, c3, cf⟩ := C.out.ps.cells
 clear he4
 replace C := Hd (C.out.lit [] (o := .cells #[] 50 (0,0)) (by simp) (by simp) rfl (a := w.heap.size + 1 + 1) (by simp) (n := 0) rfl)
 obtain ⟨y0, yf⟩ := dr_cell (C.out.var (i := 1) rfl)
 obtain ⟨p5, he5, d0, d1, d2, d3, df⟩ := C.out.ps.cells
 clear he5
 replace C := Hd (C.out.up (n := 1) (by omega) hin)
 obtain ⟨x0, xf⟩ := dr_cell (C.out.var (i := 1) rfl)
 clear hlo hlen hlt
 go_enter Tryz.func128, Tryz.ntmps128
 go_upto_region 4 with fail
 clear z0 zf y0 yf x0 xf c0 c1 c2 c3 cf d0 d1 d2 d3 df
 obtain ⟨z0, zf⟩ := dr_cell (C.out.var (i := 1) rfl)
 have HA := Hd (inPar_any G C.out.drew.ps hn hc1.out)
 have HB := Hd (fun (x : World) (hx : PS L ta tc rb z1 x) => G2.stmt hx hn ht1.out)
 have z1d := (dr_cell (C.out.drew.var (i := 1) rfl)).1
 go_upto_region 15 with fail
 go_region_law (first
  | (refine step_snocs (((C.out.drew.ret hn1 h1 k1).ret hn2 h2 k2).below ((Below.refl _ w2).alloc (Nat.le_refl _) (.cells #[.string c.kind, .string c.text, .int .i64 c.from_, .int .i64 c.to_, .slice ao1 c.kids.length cap1, .string t.kind, .string t.text, .int .i64 t.from_, .int .i64 t.to_, .slice ao2 t.kids.length cap2] 50 (0,0)))) (xs := [⟨c, ao1, cap1⟩, ⟨t, ao2, cap2⟩]) (by simp) (by simp) (by simp) rfl rfl rfl rfl rfl (heap_alloc_new _ _) ?_; intro m7 ao7 cap7 w7 hm7 C7)
  | (go_simp; go_at_call 167; refine HA.out.mono ?_; rintro e w1 ⟨ao1, cap1, rfl, hn1, h1, k1⟩; have z2d := (dr_cell ((C.out.drew.ret hn1 h1 k1).var (i := 1) rfl)).1; unfold ndV)
  | (go_simp; go_at_call 72; refine (HB.out _ h1).mono ?_; rintro e w2 ⟨ao2, cap2, rfl, hn2, h2, k2⟩; unfold ndV))
 all_goals
  go_simp
  go_step
  have Cy := C
  clear Cy C HA HB z1d
  have C := Hd C7
  clear C7 z0 zf
  obtain ⟨z0, zf⟩ := dr_cell (C.out.var (i := 1) rfl)
  cases pw : hasW L z2 (⟨#[101,108,115,101]⟩ : ByteArray) with
  | true =>
    rw [pw, if_pos rfl] at hr
    obtain ⟨⟨u, z3⟩, hu1, hu2⟩ := Option.bind_eq_some_iff.1 hr
    simp only at hu2
    replace hu1 := Hd hu1
    replace hu2 := Hd hu2
    clear hr
    obtain ⟨rfl, rfl⟩ := Prod.mk.inj (Option.some.inj hu2.out)
    clear hu2
    have HH := Hd (rHasWord_any C.out.ps (⟨#[101,108,115,101]⟩ : ByteArray))
    rw [pw, if_pos rfl] at HH
    go_wp2_with fail
    refine (HH.out).mono ?_
    rintro e w13 ⟨rfl, h13, k13⟩
    replace C := Hd (C.out.call h13 k13)
    clear HH
    clear z0 zf
    obtain ⟨z0, zf⟩ := dr_cell (C.out.var (i := 1) rfl)
    go_wp2_with fail
    refine (G2.stmt C.out.ps hn hu1.out).mono ?_
    rintro e w14 ⟨ao14, cap14, rfl, hn14, h14, k14⟩
    replace C := Hd (C.out.ret hn14 h14 k14)
    unfold ndV
    go_wp2_with (refine wpList_snoc C.out (.head _) (by simp) rfl rfl rfl rfl rfl ?_; intro m15 ao15 cap15 w15 hm15 C15; clear z0 zf; obtain ⟨z0, zf⟩ := dr_cell (C15.var (i := 1) rfl))
    replace C := Hd C15
    clear C15
    clear z0 zf
    obtain ⟨z0, zf⟩ := dr_cell (C.out.var (i := 1) rfl)
    go_wp2_with fail
    refine (rMake_any C.out.ps (⟨#[105,102]⟩ : ByteArray) ⟨#[]⟩ s.at_ _ _ _).mono ?_
    rintro e w40 ⟨rfl, hb40⟩
    replace C := Hd (C.out.made hb40 (by simp) (⟨#[105,102]⟩ : ByteArray) ⟨#[]⟩ s.at_)
    obtain rfl := hm15.out
    have hcc := C.out.var (i := 0) rfl
    go_wp2_with (refine stN rfl rfl rfl rfl hcc rfl rfl (by simp [Value.oneCell']) ?_)
    refine retT rfl rfl rfl (setRow_heap _ _ _ _ _ _ hcc) rfl ?_
    exact ⟨_, _, rfl, (C.out.set (i := 0) rfl rfl _).out (.head _)⟩
  | false =>
    rw [pw, if_neg (by simp)] at hr
    obtain ⟨rfl, rfl⟩ := Prod.mk.inj (Option.some.inj hr)
    have HH := Hd (rHasWord_any C.out.ps (⟨#[101,108,115,101]⟩ : ByteArray))
    rw [pw, if_neg (by simp)] at HH
    go_wp2_with fail
    refine (HH.out).mono ?_
    rintro e w13 ⟨rfl, h13, k13⟩
    replace C := Hd (C.out.call h13 k13)
    clear HH
    clear z0 zf
    obtain ⟨z0, zf⟩ := dr_cell (C.out.var (i := 1) rfl)
    go_wp2_with fail
    refine (rMake_any C.out.ps (⟨#[105,102]⟩ : ByteArray) ⟨#[]⟩ s.at_ _ _ _).mono ?_
    rintro e w40 ⟨rfl, hb40⟩
    replace C := Hd (C.out.made hb40 (by simp) (⟨#[105,102]⟩ : ByteArray) ⟨#[]⟩ s.at_)
    obtain rfl := hm7.out
    have hcc := C.out.var (i := 0) rfl
    go_wp2_with (refine stN rfl rfl rfl rfl hcc rfl rfl (by simp [Value.oneCell']) ?_)
    refine retT rfl rfl rfl (setRow_heap _ _ _ _ _ _ hcc) rfl ?_
    exact ⟨_, _, rfl, (C.out.set (i := 0) rfl rfl _).out (.head _)⟩
theorem word_switch {L : List Ct} {ta : Option Addr} {tc rb : Nat} {R : Rec} (G2 : Good2 L ta tc rb R) {w : World} {s : Ps} {nest : Nat} {ks : List T} {s' : Ps} (h : PS L ta tc rb s w) (hn : nest ≤ 1000) (hin : s.at_ + 1 ≤ L.length) (hr : wordIn L R nest (⟨#[115,119,105,116,99,104]⟩ : ByteArray) (s.up 1) = some (ks, s')) :
 Calls Tryz.prog 128 #[drV rb, .int .i64 nest, .string (⟨#[115,119,105,116,99,104]⟩ : ByteArray)] w (NdRetB L ta tc rb w (mkP (⟨#[115,119,105,116,99,104]⟩ : ByteArray) eB s.at_ s' ks, true) s') := by
 unfold wordIn at hr
 rw [if_neg (by decide), if_neg (by decide), if_neg (by decide), if_pos (by decide)] at hr
 obtain ⟨⟨c, z1⟩, hc1, hc2⟩ := Option.bind_eq_some_iff.1 hr
 simp only at hc2
 replace hc1 := Hd hc1
 replace hc2 := Hd hc2
 clear hr
 have hr := hc2.out
 clear hc2
 obtain ⟨⟨t, z2⟩, ht1, ht2⟩ := Option.bind_eq_some_iff.1 hr
 simp only at ht2
 replace ht1 := Hd ht1
 replace ht2 := Hd ht2
 clear hr
 obtain ⟨rfl, rfl⟩ := Prod.mk.inj (Option.some.inj ht2.out)
 clear ht2
 have G := G2.good
 have C := Hd (((Cx.start h).alloc (drO rb) (a := w.heap.size) rfl).alloc nzO (a := w.heap.size + 1) (by simp))
 have hlt := h.lt
 have hlo := h.lo
 have hlen := h.len
 have g2 : IntKind.i64.wrap (s.at_ + 1) = s.at_ + 1 := IntWalk.i64_in _ (by omega)
 obtain ⟨z0, zf⟩ := dr_cell (C.out.var (i := 1) rfl)
 try clear c0 c1 c2 c3 cf
 obtain ⟨p4, he4, c0, c1, c2, c3, cf⟩ := C.out.ps.cells
 clear he4
 replace C := Hd (C.out.lit [] (o := .cells #[] 50 (0,0)) (by simp) (by simp) rfl (a := w.heap.size + 1 + 1) (by simp) (n := 0) rfl)
 obtain ⟨y0, yf⟩ := dr_cell (C.out.var (i := 1) rfl)
 obtain ⟨p5, he5, d0, d1, d2, d3, df⟩ := C.out.ps.cells
 clear he5
 replace C := Hd (C.out.up (n := 1) (by omega) hin)
 obtain ⟨x0, xf⟩ := dr_cell (C.out.var (i := 1) rfl)
 clear hlo hlen hlt
 go_enter Tryz.func128, Tryz.ntmps128
 go_upto_region 4 with fail
 clear z0 zf y0 yf x0 xf c0 c1 c2 c3 cf d0 d1 d2 d3 df
 obtain ⟨z0, zf⟩ := dr_cell (C.out.var (i := 1) rfl)
 have HA := Hd (inPar_any G C.out.drew.ps hn hc1.out)
 have HB := Hd (fun (x : World) (hx : PS L ta tc rb z1 x) => G2.stmt hx hn ht1.out)
 have z1d := (dr_cell (C.out.drew.var (i := 1) rfl)).1
 go_upto_region 20 with fail
 go_region_law (first
  | (refine step_snocs (((C.out.drew.ret hn1 h1 k1).ret hn2 h2 k2).below ((Below.refl _ w2).alloc (Nat.le_refl _) (.cells #[.string c.kind, .string c.text, .int .i64 c.from_, .int .i64 c.to_, .slice ao1 c.kids.length cap1, .string t.kind, .string t.text, .int .i64 t.from_, .int .i64 t.to_, .slice ao2 t.kids.length cap2] 50 (0,0)))) (xs := [⟨c, ao1, cap1⟩, ⟨t, ao2, cap2⟩]) (by simp) (by simp) (by simp) rfl rfl rfl rfl rfl (heap_alloc_new _ _) ?_; intro m7 ao7 cap7 w7 hm7 C7)
  | (go_simp; go_at_call 167; refine HA.out.mono ?_; rintro e w1 ⟨ao1, cap1, rfl, hn1, h1, k1⟩; have z2d := (dr_cell ((C.out.drew.ret hn1 h1 k1).var (i := 1) rfl)).1; unfold ndV)
  | (go_simp; go_at_call 72; refine (HB.out _ h1).mono ?_; rintro e w2 ⟨ao2, cap2, rfl, hn2, h2, k2⟩; unfold ndV))
 all_goals
  go_simp
  go_step
  have Cy := C
  clear Cy C HA HB z1d
  have C := Hd C7
  clear C7 z0 zf
  obtain ⟨z0, zf⟩ := dr_cell (C.out.var (i := 1) rfl)
  clear z0 zf
  obtain ⟨z0, zf⟩ := dr_cell (C.out.var (i := 1) rfl)
  go_wp2_with fail
  refine (rMake_any C.out.ps (⟨#[115,119,105,116,99,104]⟩ : ByteArray) ⟨#[]⟩ s.at_ _ _ _).mono ?_
  rintro e w40 ⟨rfl, hb40⟩
  replace C := Hd (C.out.made hb40 (by simp) (⟨#[115,119,105,116,99,104]⟩ : ByteArray) ⟨#[]⟩ s.at_)
  obtain rfl := hm7.out
  have hcc := C.out.var (i := 0) rfl
  go_wp2_with (refine stN rfl rfl rfl rfl hcc rfl rfl (by simp [Value.oneCell']) ?_)
  refine retT rfl rfl rfl (setRow_heap _ _ _ _ _ _ hcc) rfl ?_
  exact ⟨_, _, rfl, (C.out.set (i := 0) rfl rfl _).out (.head _)⟩
theorem word_while {L : List Ct} {ta : Option Addr} {tc rb : Nat} {R : Rec} (G2 : Good2 L ta tc rb R) {w : World} {s : Ps} {nest : Nat} {ks : List T} {s' : Ps} (h : PS L ta tc rb s w) (hn : nest ≤ 1000) (hin : s.at_ + 1 ≤ L.length) (hr : wordIn L R nest (⟨#[119,104,105,108,101]⟩ : ByteArray) (s.up 1) = some (ks, s')) :
 Calls Tryz.prog 128 #[drV rb, .int .i64 nest, .string (⟨#[119,104,105,108,101]⟩ : ByteArray)] w (NdRetB L ta tc rb w (mkP (⟨#[119,104,105,108,101]⟩ : ByteArray) eB s.at_ s' ks, true) s') := by
 unfold wordIn at hr
 rw [if_neg (by decide), if_neg (by decide), if_neg (by decide), if_pos (by decide)] at hr
 obtain ⟨⟨c, z1⟩, hc1, hc2⟩ := Option.bind_eq_some_iff.1 hr
 simp only at hc2
 replace hc1 := Hd hc1
 replace hc2 := Hd hc2
 clear hr
 have hr := hc2.out
 clear hc2
 obtain ⟨⟨t, z2⟩, ht1, ht2⟩ := Option.bind_eq_some_iff.1 hr
 simp only at ht2
 replace ht1 := Hd ht1
 replace ht2 := Hd ht2
 clear hr
 obtain ⟨rfl, rfl⟩ := Prod.mk.inj (Option.some.inj ht2.out)
 clear ht2
 have G := G2.good
 have C := Hd (((Cx.start h).alloc (drO rb) (a := w.heap.size) rfl).alloc nzO (a := w.heap.size + 1) (by simp))
 have hlt := h.lt
 have hlo := h.lo
 have hlen := h.len
 have g2 : IntKind.i64.wrap (s.at_ + 1) = s.at_ + 1 := IntWalk.i64_in _ (by omega)
 obtain ⟨z0, zf⟩ := dr_cell (C.out.var (i := 1) rfl)
 try clear c0 c1 c2 c3 cf
 obtain ⟨p4, he4, c0, c1, c2, c3, cf⟩ := C.out.ps.cells
 clear he4
 replace C := Hd (C.out.lit [] (o := .cells #[] 50 (0,0)) (by simp) (by simp) rfl (a := w.heap.size + 1 + 1) (by simp) (n := 0) rfl)
 obtain ⟨y0, yf⟩ := dr_cell (C.out.var (i := 1) rfl)
 obtain ⟨p5, he5, d0, d1, d2, d3, df⟩ := C.out.ps.cells
 clear he5
 replace C := Hd (C.out.up (n := 1) (by omega) hin)
 obtain ⟨x0, xf⟩ := dr_cell (C.out.var (i := 1) rfl)
 clear hlo hlen hlt
 go_enter Tryz.func128, Tryz.ntmps128
 go_upto_region 4 with fail
 clear z0 zf y0 yf x0 xf c0 c1 c2 c3 cf d0 d1 d2 d3 df
 obtain ⟨z0, zf⟩ := dr_cell (C.out.var (i := 1) rfl)
 have HA := Hd (inPar_any G C.out.drew.ps hn hc1.out)
 have HB := Hd (fun (x : World) (hx : PS L ta tc rb z1 x) => G2.stmt hx hn ht1.out)
 have z1d := (dr_cell (C.out.drew.var (i := 1) rfl)).1
 go_upto_region 20 with fail
 go_region_law (first
  | (refine step_snocs (((C.out.drew.ret hn1 h1 k1).ret hn2 h2 k2).below ((Below.refl _ w2).alloc (Nat.le_refl _) (.cells #[.string c.kind, .string c.text, .int .i64 c.from_, .int .i64 c.to_, .slice ao1 c.kids.length cap1, .string t.kind, .string t.text, .int .i64 t.from_, .int .i64 t.to_, .slice ao2 t.kids.length cap2] 50 (0,0)))) (xs := [⟨c, ao1, cap1⟩, ⟨t, ao2, cap2⟩]) (by simp) (by simp) (by simp) rfl rfl rfl rfl rfl (heap_alloc_new _ _) ?_; intro m7 ao7 cap7 w7 hm7 C7)
  | (go_simp; go_at_call 167; refine HA.out.mono ?_; rintro e w1 ⟨ao1, cap1, rfl, hn1, h1, k1⟩; have z2d := (dr_cell ((C.out.drew.ret hn1 h1 k1).var (i := 1) rfl)).1; unfold ndV)
  | (go_simp; go_at_call 72; refine (HB.out _ h1).mono ?_; rintro e w2 ⟨ao2, cap2, rfl, hn2, h2, k2⟩; unfold ndV))
 all_goals
  go_simp
  go_step
  have Cy := C
  clear Cy C HA HB z1d
  have C := Hd C7
  clear C7 z0 zf
  obtain ⟨z0, zf⟩ := dr_cell (C.out.var (i := 1) rfl)
  clear z0 zf
  obtain ⟨z0, zf⟩ := dr_cell (C.out.var (i := 1) rfl)
  go_wp2_with fail
  refine (rMake_any C.out.ps (⟨#[119,104,105,108,101]⟩ : ByteArray) ⟨#[]⟩ s.at_ _ _ _).mono ?_
  rintro e w40 ⟨rfl, hb40⟩
  replace C := Hd (C.out.made hb40 (by simp) (⟨#[119,104,105,108,101]⟩ : ByteArray) ⟨#[]⟩ s.at_)
  obtain rfl := hm7.out
  have hcc := C.out.var (i := 0) rfl
  go_wp2_with (refine stN rfl rfl rfl rfl hcc rfl rfl (by simp [Value.oneCell']) ?_)
  refine retT rfl rfl rfl (setRow_heap _ _ _ _ _ _ hcc) rfl ?_
  exact ⟨_, _, rfl, (C.out.set (i := 0) rfl rfl _).out (.head _)⟩
end Go.Proofs.YtllbbacnakoomaaGreatDoor
