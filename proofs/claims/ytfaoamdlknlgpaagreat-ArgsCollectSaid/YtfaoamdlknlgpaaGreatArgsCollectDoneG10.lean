/- Texts of this seat's proofs, laid into one file. -/
import Derived.Test.YtfaoamdlknlgpaaGreatArgsCollectDoneG8
import Derived.Test.YtfaoamdlknlgpaaGreatArgsCollectDoneG9
import Derived.Deep.LoopGhost
import Derived.Deep.AppendLies
import Derived.Deep.RegionLaw
/- lex's small functions: letter, digit, white, peek. -/
namespace Go.Proofs.YtfaoamdlknlgpaaGreat
open Go.RowKit
set_option linter.unusedVariables false

theorem whiteB_int2 (c : UInt8) : whiteB c = decide ((c.toNat : Int) = 32 ∨ (9 : Int) ≤ c.toNat ∧ (c.toNat : Int) ≤ 13 ∧ ¬ (c.toNat : Int) = 10) := by
  rw [whiteB_int]
  congr 1
  apply propext
  omega

set_option maxRecDepth 100000 in
theorem pletter_any (c : UInt8) (w : World) : Calls Tryz.prog 105 #[.int .u8 c.toNat] w fun e w' => e = .returned (.bool (letterB c)) ∧ w' = w := by
  rw [letterB_int]
  go_enter Tryz.func105, Tryz.ntmps105
  go_wp2
  all_goals
    go_ret
    refine ⟨?_, rfl⟩
    refine congrArg (fun b => Ending.returned (Value.bool b)) ?_
    rw [Bool.eq_iff_iff] <;> first
      | (simp; done)
      | (simp; omega)
set_option maxRecDepth 100000 in
theorem pdigit_any (c : UInt8) (w : World) : Calls Tryz.prog 107 #[.int .u8 c.toNat] w fun e w' => e = .returned (.bool (digitB c)) ∧ w' = w := by
  rw [digitB_int]
  go_enter Tryz.func107, Tryz.ntmps107
  go_wp2
  all_goals
    go_ret
    refine ⟨?_, rfl⟩
    refine congrArg (fun b => Ending.returned (Value.bool b)) ?_
    rw [Bool.eq_iff_iff] <;> first
      | (simp; done)
      | (simp; omega)
set_option maxRecDepth 100000 in
theorem pwhite_any (c : UInt8) (w : World) : Calls Tryz.prog 87 #[.int .u8 c.toNat] w fun e w' => e = .returned (.bool (whiteB c)) ∧ w' = w := by
  rw [whiteB_int2]
  go_enter Tryz.func87, Tryz.ntmps87
  go_wp2
  all_goals
    go_ret
    refine ⟨?_, rfl⟩
    refine congrArg (fun b => Ending.returned (Value.bool b)) ?_
    rw [Bool.eq_iff_iff] <;> first
      | (simp; done)
      | (simp; omega)

/-- the characters that are gone through, and the place: what is read -/
structure WkAt (w : World) (b : Nat) (R : List Rn) (lo : Option Addr) (cap at_ : Nat) : Prop where
  l : w.cell? ⟨b, 1, none⟩ = some (.slice lo R.length cap)
  here : w.cell? ⟨b, 2, none⟩ = some (.int .i64 at_)
  row : Row w 3 lo (R.map Rn.v)
  lcap : R.length ≤ cap
  len : R.length ≤ 2000000
  atl : at_ ≤ 4000000

set_option maxRecDepth 100000 in
theorem peek_any (b : Nat) (R : List Rn) (lo : Option Addr) (cap at_ k : Nat) (hk : k ≤ 4000000) (w : World) (h : WkAt w b R lo cap at_) :
    Calls Tryz.prog 106 #[.pointer (some ⟨b, 0, none⟩), .int .i64 k] w fun e w' => e = .returned (.int .u8 (chAt (cs R) (at_ + k)).toNat) ∧ ∃ q, w' = w.drewN q := by
  obtain ⟨c1, c2, hrow, hlc, hlen, hat⟩ := h
  have q1 : IntKind.i64.wrap ((at_ : Int) + k) = (at_ : Int) + k := IntWalk.i64_in _ (by omega)
  by_cases hi : at_ + k < R.length
  · obtain ⟨r, hr⟩ : ∃ r, R[at_ + k]? = some r := ⟨R[at_ + k], by simp [hi]⟩
    rw [cs_at hr]
    obtain ⟨g, o, rfl, ha⟩ := hrow (by intro h; simp at h; subst h; simp at hr)
    have c0 := ha.cell (i := at_ + k) (cs := r.v) (by simp [hr]) (j := 0) (u := .int .u8 r.c.toNat) rfl
    simp only [Nat.add_zero] at c0
    obtain ⟨n, hn⟩ : ∃ n, n = R.length := ⟨_, rfl⟩
    rw [← hn] at c1 hi hlc
    have e1 : (at_ : Int) + k < n := by omega
    have e4 : ¬ (n : Int) ≤ (at_ : Int) + k := by omega
    have e2 : (0 : Int) ≤ (at_ : Int) + k := by omega
    have e3 : ((at_ : Int) + k).toNat = at_ + k := by omega
    clear hr ha hrow hn
    go_enter Tryz.func106, Tryz.ntmps106
    go_wp2_with fail
    go_region
    go_wp2_with fail
    go_region
    all_goals
      go_wp2
      go_ret
      exact ⟨rfl, 2, rfl⟩
  · rw [chAt_ge (by rw [cs_len]; omega)]
    obtain ⟨n, hn⟩ : ∃ n, n = R.length := ⟨_, rfl⟩
    rw [← hn] at c1 hi
    have e1 : ¬ (at_ : Int) + k < n := by omega
    have e2 : (n : Int) ≤ (at_ : Int) + k := by omega
    clear hrow hn
    go_enter Tryz.func106, Tryz.ntmps106
    go_wp2_with fail
    go_region
    all_goals
      go_wp2
      go_ret
      exact ⟨rfl, 1, rfl⟩
end Go.Proofs.YtfaoamdlknlgpaaGreat

/- lex's has and span. -/
namespace Go.Proofs.YtfaoamdlknlgpaaGreat
open Go.RowKit
set_option linter.unusedVariables false

theorem drewN_below (w : World) (q : Nat) : Below w.heap.size w (w.drewN q) := below_drewN (Below.refl _ w) q

theorem WkAt.below {w w' : World} {b : Nat} {R : List Rn} {lo : Option Addr} {cap at_ : Nat} (h : WkAt w b R lo cap at_) (hb : Below w.heap.size w w') : WkAt w' b R lo cap at_ :=
  ⟨kept_cell hb h.l, kept_cell hb h.here, h.row.below hb, h.lcap, h.len, h.atl⟩

theorem drewN_add (w : World) (p q : Nat) : (w.drewN p).drewN q = w.drewN (p + q) := by
  induction q with
  | zero => rfl
  | succ q ih => exact congrArg World.drew ih

/-- is a text the next characters? (the texts asked for have no 0 in them, but the empty one) -/
def hasL (A : List UInt8) (i : Nat) (p : List UInt8) : Bool := decide (i + p.length ≤ A.length) && (List.range p.length).all fun j => chAt A (i + j) == p.getD j 0

set_option maxRecDepth 100000 in
theorem has_any (b : Nat) (R : List Rn) (lo : Option Addr) (cap at_ : Nat) (s : ByteArray) (hs : s.size ≤ 10) (w : World) (h : WkAt w b R lo cap at_) :
    Calls Tryz.prog 103 #[.pointer (some ⟨b, 0, none⟩), .string s] w fun e w' => e = .returned (.bool (hasL (cs R) at_ s.data.toList)) ∧ ∃ q, w' = w.drewN q := by
  have HW := fun q => h.below (drewN_below w q)
  obtain ⟨c1, c2, hrow, hlc, hlen, hat⟩ := h
  obtain ⟨n, hn⟩ : ∃ n, n = R.length := ⟨_, rfl⟩
  have HN : Hid (R.length = n) := Lib.hid hn.symm
  have HR : Hid (hasL (cs R) at_ s.data.toList = (decide (at_ + s.size ≤ n) && (List.range s.size).all fun j => chAt (cs R) (at_ + j) == s.data.toList.getD j 0)) := Lib.hid (by
    unfold hasL
    rw [cs_len, ← hn, ← Lib.size_eq])
  obtain ⟨res, hres⟩ : ∃ res, res = hasL (cs R) at_ s.data.toList := ⟨_, rfl⟩
  rw [← hres] at HR ⊢
  clear hres
  rw [← hn] at c1 hlc hlen
  have q1 : IntKind.i64.wrap ((at_ : Int) + s.size) = (at_ : Int) + s.size := IntWalk.i64_in _ (by omega)
  clear hn
  go_enter Tryz.func103, Tryz.ntmps103
  by_cases hl : at_ + s.size ≤ n
  · have e1 : ¬ (n : Int) < (at_ : Int) + s.size := by omega
    go_wp2_with fail
    go_quiet (fail)
    go_wp2_with fail
    go_loopg [21] s.size (fun u v w9 => ∃ k : Nat, u = s.size - k ∧ k ≤ s.size ∧ v = .int .i64 k ∧ (∃ q, w9 = w.drewN q) ∧ Hid (∀ j, j < k → chAt (cs R) (at_ + j) = s.data.toList.getD j 0))
    case atStart => exact ⟨0, rfl, Nat.zero_le _, rfl, ⟨_, rfl⟩, Lib.hid (fun j hj => absurd hj (Nat.not_lt_zero _))⟩
    case round =>
      obtain ⟨k, rfl, hk, rfl, ⟨q, hq⟩, hall⟩ := hrel
      have hW := HW q
      rw [← hq] at hW
      replace hq := Lib.hid hq
      obtain ⟨d1, d2, hrow2, _, _, _⟩ := hW
      rw [HN.out] at d1
      by_cases hlt : k < s.size
      · have hji : (k : Int) < (s.size : Int) := by omega
        obtain ⟨r, hr⟩ : ∃ r, R[at_ + k]? = some r := ⟨R[at_ + k]'(by rw [HN.out]; omega), by simp⟩
        have hrc := cs_at hr
        obtain ⟨g, o, rfl, ha⟩ := hrow2 (by intro h; simp at h; subst h; simp at hr)
        have c0 := ha.cell (i := at_ + k) (cs := r.v) (by simp [hr]) (j := 0) (u := .int .u8 r.c.toNat) rfl
        simp only [Nat.add_zero] at c0
        have q2 : IntKind.i64.wrap ((at_ : Int) + k) = (at_ : Int) + k := IntWalk.i64_in _ (by omega)
        have e2 : (at_ : Int) + k < n := by omega
        have e3 : (0 : Int) ≤ (at_ : Int) + k := by omega
        have e4 : ((at_ : Int) + k).toNat = at_ + k := by omega
        have HG : Hid (s.data.toList.getD k 0 = s[k]'hlt) := Lib.hid (by
          rw [List.getD_eq_getElem?_getD, List.getElem?_eq_getElem (by rw [← Lib.size_eq]; exact hlt)]
          rfl)
        replace hr := Lib.hid hr
        replace hrc := Lib.hid hrc
        clear ha hrow2
        by_cases hm : (r.c.toNat : Int) = ((s[k]'hlt).toNat : Int)
        · have hm' : ((r.c.toNat : Int) == ((s[k]'hlt).toNat : Int)) = true := by simpa using hm
          have hnew : chAt (cs R) (at_ + k) = s.data.toList.getD k 0 := by rw [HG.out, hrc.out]; exact (u8eq _ _).2 hm
          replace hnew := Lib.hid hnew
          replace hm := Lib.hid hm
          clear HG
          go_wp2_with fail
          go_quiet (fail)
          go_wp2_with fail
          go_roundg (s.size - (k + 1))
          case measure => omega
          case rel =>
            refine ⟨k + 1, rfl, by omega, by go_num, ⟨q + nq, by rw [hq.out, drewN_add]⟩, Lib.hid ?_⟩
            intro m hmj
            by_cases hmm : m = k
            · subst hmm; exact hnew.out
            · exact hall.out m (by omega)
        · have hm' : ((r.c.toNat : Int) == ((s[k]'hlt).toNat : Int)) = false := by simpa using hm
          have hnew : chAt (cs R) (at_ + k) ≠ s.data.toList.getD k 0 := by rw [HG.out, hrc.out]; intro e; exact hm ((u8eq _ _).1 e)
          have hres : Hid (res = false) := Lib.hid (by
            rw [HR.out, Bool.and_eq_false_iff]
            right
            rw [List.all_eq_false]
            exact ⟨k, List.mem_range.2 hlt, by simpa using hnew⟩)
          replace hnew := Lib.hid hnew
          replace hm := Lib.hid hm
          clear HG
          go_wp2_with fail
          go_quiet (fail)
          go_wp2
          go_ret
          exact ⟨by rw [hres.out]; rfl, q + nq, by rw [hq.out, drewN_add]⟩
      · have hres : Hid (res = true) := Lib.hid (by
          rw [HR.out, Bool.and_eq_true]
          refine ⟨decide_eq_true hl, List.all_eq_true.2 fun j hj => ?_⟩
          have := hall.out j (by have := List.mem_range.1 hj; omega)
          simpa using this)
        have hjf : ¬ (k : Int) < (s.size : Int) := by omega
        go_wp2
        go_ret
        exact ⟨by rw [hres.out]; rfl, q, hq.out⟩
  · have e1 : (n : Int) < (at_ : Int) + s.size := by omega
    have hres : Hid (res = false) := Lib.hid (by
      rw [HR.out, Bool.and_eq_false_iff]
      exact .inl (decide_eq_false hl))
    go_wp2_with fail
    go_quiet (fail)
    go_wp2
    go_ret
    exact ⟨by rw [hres.out]; rfl, _, rfl⟩
end Go.Proofs.YtfaoamdlknlgpaaGreat

/- oxbowref4's Lines: how lines lie in memory. -/
namespace Go.Proofs.YtfaoamdlknlgpaaGreat
open Go.RowKit
set_option linter.unusedVariables false

def tkC (file : ByteArray) (t : Tk) : List Value := [.int .i64 t.kind, .string ⟨t.text.toArray⟩, .bool t.space, .string file, .int .i64 t.f, .int .i64 t.t, .bool false, .slice none 0 0]
def dgC (file : ByteArray) (d : Dg) : List Value := [.int .i64 d.code, .string file, .int .i64 d.f, .int .i64 d.t]

theorem E34 : EI Tryz.prog 22 34 (.agg #[.int .i64 0, .string ⟨#[]⟩, .bool false, .string ⟨#[]⟩, .int .i64 0, .int .i64 0, .bool false, .slice none 0 0]) 8 96 := ⟨Tryz.underlying22, by kernel_rfl, rfl, by decide⟩
theorem E68 : EI Tryz.prog 60 68 (.agg #[.int .i64 0, .string ⟨#[]⟩, .int .i64 0, .int .i64 0]) 4 40 := ⟨Tryz.underlying60, by kernel_rfl, rfl, by decide⟩
theorem E101 : EI Tryz.prog 97 101 (.agg #[.slice none 0 0, .int .i64 0, .int .i64 0, .bool false]) 4 48 := ⟨Tryz.underlying97, by kernel_rfl, rfl, by decide⟩

/-- a line's cells; its tokens lie in a row of tokens below S -/
def LnAt (w : World) (S : Nat) (file : ByteArray) (ln : Ln) (c : List Value) : Prop :=
  ∃ ao cap, c = [.slice ao ln.toks.length cap, .int .i64 ln.f, .int .i64 ln.t, .bool ln.op] ∧ ln.toks.length ≤ cap ∧ (ln.toks ≠ [] → ∃ b o x fz, ao = some ⟨b, o, none⟩ ∧ b < S ∧ w.heap[b]? = some (.cells x 34 fz) ∧ RowAt w 8 b o (ln.toks.map (tkC file)))

inductive LnsAt (w : World) (S : Nat) (file : ByteArray) : List Ln → List (List Value) → Prop
  | nil : LnsAt w S file [] []
  | cons {l : Ln} {c : List Value} {ls : List Ln} {css : List (List Value)} (h : LnAt w S file l c) (r : LnsAt w S file ls css) : LnsAt w S file (l :: ls) (c :: css)

def KeptTok (S : Nat) (w w' : World) : Prop := ∀ b, b < S → ∀ x fz, w.heap[b]? = some (.cells x 34 fz) → w'.heap[b]? = some (.cells x 34 fz)

theorem KeptTok.trans {S : Nat} {a b c : World} (h : KeptTok S a b) (k : KeptTok S b c) : KeptTok S a c := fun i hi x fz hx => k i hi x fz (h i hi x fz hx)
theorem KeptTok.below {S : Nat} {w w' : World} (h : Below S w w') : KeptTok S w w' := fun i hi x fz hx => (h.block i hi).trans hx
theorem KeptTok.others {S : Nat} {e : TypeId} {c : Option Nat} {w w' : World} (h : Lib.OthersKept e c w w') (he : e ≠ 34) (hc : ∀ b, c = some b → ∀ x fz, w.heap[b]? ≠ some (.cells x 34 fz)) : KeptTok S w w' := by
  intro i hi x fz hx
  refine h i _ hx ?_ ?_
  · intro e1
    exact hc i e1.symm x fz hx
  · intro y fz' e1
    injection e1 with _ e2 _
    exact he e2.symm
theorem KeptTok.setCell {S b : Nat} {w : World} {y : Array Value} {e : TypeId} {fz : Nat × Nat} (h : w.heap[b]? = some (.cells y e fz)) (he : e ≠ 34) (j : Nat) (u : Value) : KeptTok S w (w.setCell ⟨b, j, none⟩ u) := by
  intro i hi x fz' hx
  rw [Below.heap_setCell]
  · exact hx
  · rintro rfl
    rw [h] at hx
    simp at hx
    exact he hx.2.1
theorem KeptTok.setRow {S b : Nat} {w : World} {y : Array Value} {e : TypeId} {fz : Nat × Nat} (h : w.heap[b]? = some (.cells y e fz)) (he : e ≠ 34) (cs : Array Value) : KeptTok S w (w.setRow b cs) := by
  intro i hi x fz' hx
  rw [setRow_other]
  · exact hx
  · rintro rfl
    rw [h] at hx
    simp at hx
    exact he hx.2.1

theorem LnAt.kept {w w' : World} {S : Nat} {file : ByteArray} {ln : Ln} {c : List Value} (h : LnAt w S file ln c) (k : KeptTok S w w') : LnAt w' S file ln c := by
  obtain ⟨ao, cap, rfl, h1, h2⟩ := h
  refine ⟨ao, cap, rfl, h1, fun hne => ?_⟩
  obtain ⟨b, o, x, fz, rfl, hb, hx, hr⟩ := h2 hne
  have hx' := k b hb x fz hx
  refine ⟨b, o, x, fz, rfl, hb, hx', fun i cs hi j u hj => ?_⟩
  exact (World.cell?_of_block (a := ⟨b, o + i * 8 + j, none⟩) (hx'.trans hx.symm)).trans (hr i cs hi j u hj)

theorem LnAt.mono {w : World} {S S' : Nat} {file : ByteArray} {ln : Ln} {c : List Value} (h : LnAt w S file ln c) (k : S ≤ S') : LnAt w S' file ln c := by
  obtain ⟨ao, cap, rfl, h1, h2⟩ := h
  refine ⟨ao, cap, rfl, h1, fun hne => ?_⟩
  obtain ⟨b, o, x, fz, e, hb, hx, hr⟩ := h2 hne
  exact ⟨b, o, x, fz, e, Nat.lt_of_lt_of_le hb k, hx, hr⟩

theorem LnsAt.kept {w w' : World} {S : Nat} {file : ByteArray} {ls : List Ln} {css : List (List Value)} (h : LnsAt w S file ls css) (k : KeptTok S w w') : LnsAt w' S file ls css := by
  induction h with
  | nil => exact .nil
  | cons h _ ih => exact .cons (h.kept k) ih

theorem LnsAt.mono {w : World} {S S' : Nat} {file : ByteArray} {ls : List Ln} {css : List (List Value)} (h : LnsAt w S file ls css) (k : S ≤ S') : LnsAt w S' file ls css := by
  induction h with
  | nil => exact .nil
  | cons h _ ih => exact .cons (h.mono k) ih

theorem LnsAt.snoc {w : World} {S : Nat} {file : ByteArray} {ls : List Ln} {css : List (List Value)} (h : LnsAt w S file ls css) {l : Ln} {c : List Value} (hl : LnAt w S file l c) : LnsAt w S file (ls ++ [l]) (css ++ [c]) := by
  induction h with
  | nil => exact .cons hl .nil
  | cons h _ ih => exact .cons h ih

theorem LnsAt.len {w : World} {S : Nat} {file : ByteArray} {ls : List Ln} {css : List (List Value)} (h : LnsAt w S file ls css) : css.length = ls.length := by
  induction h with
  | nil => rfl
  | cons _ _ ih => simp [ih]

/-- the line that is being read, as a finished one -/
theorem LnAt.of_own {w : World} {B : Nat} {file : ByteArray} {v : Value} {toks : List Tk} (h : Own w B 34 8 v (toks.map (tkC file))) (f t : Nat) (op : Bool) : LnAt w w.heap.size file ⟨toks, f, t, op⟩ [v, .int .i64 f, .int .i64 t, .bool op] := by
  obtain ⟨ao, cap, rfl, h1, _, hrow, _⟩ := h.rown (n := toks.length) (by simp)
  refine ⟨ao, cap, rfl, h1, fun hne => ?_⟩
  obtain ⟨b, o, rfl, hat⟩ := hrow (by simpa using hne)
  obtain ⟨x, fz, hx⟩ : ∃ x fz, w.heap[b]? = some (.cells x 34 fz) := by
    rcases h.1.2 with ⟨hv, _⟩ | ⟨g, cap', cur, hv, _, hg, _⟩
    · simp at hv
    · simp only [Value.slice.injEq, Option.some.injEq] at hv
      obtain ⟨hv1, _⟩ := hv
      simp only [Addr.mk.injEq] at hv1
      rw [hv1.1]
      exact ⟨_, _, hg⟩
  exact ⟨b, o, x, fz, rfl, (Array.getElem?_eq_some_iff.1 hx).1, hx, hat⟩

/-- what lies in memory while lines are read: the line that is being read in block H -/
structure LsAt (w0 w : World) (H : Nat) (file : ByteArray) (s : LS) (vo vd vn : Value) : Prop where
  lines : ∃ S lcs, H + 1 ≤ S ∧ S ≤ w.heap.size ∧ Own w S 34 8 vn (s.toks.map (tkC file)) ∧ Own w (H + 1) 101 4 vo lcs ∧ LnsAt w S file s.out lcs
  diags : Own w (H + 1) 68 4 vd (s.diags.map (dgC file))
  here : w.heap[H]? = some (.cells #[vn, .int .i64 s.from_, .int .i64 0, .bool false] 101 (0, 0))
  below : Below H w0 w
end Go.Proofs.YtfaoamdlknlgpaaGreat

/- lex's span. -/
namespace Go.Proofs.YtfaoamdlknlgpaaGreat
open Go.RowKit
set_option linter.unusedVariables false

theorem rF_at {R : List Rn} {i : Nat} {r : Rn} (h : R[i]? = some r) : rF R i = r.f := by simp [rF, h]
theorem rT_at {R : List Rn} {i : Nat} {r : Rn} (h : R[i]? = some r) : rT R i = r.t := by simp [rT, h]

set_option maxRecDepth 100000 in
theorem span_any (b : Nat) (R : List Rn) (lo : Option Addr) (cap at_ : Nat) (file : ByteArray) (i k : Nat) (hi : i < R.length) (hk : k < R.length) (w : World) (h : WkAt w b R lo cap at_) (hf : w.cell? ⟨b, 0, none⟩ = some (.string file)) :
    Calls Tryz.prog 90 #[.pointer (some ⟨b, 0, none⟩), .int .i64 i, .int .i64 ((k : Int) + 1)] w fun e w' => e = .returned (.agg #[.string file, .int .i64 (rF R i), .int .i64 (rT R k)]) ∧ Below w.heap.size w w' := by
  obtain ⟨ri, hri⟩ : ∃ r, R[i]? = some r := ⟨R[i], by simp [hi]⟩
  obtain ⟨rk, hrk⟩ : ∃ r, R[k]? = some r := ⟨R[k], by simp [hk]⟩
  rw [rF_at hri, rT_at hrk]
  obtain ⟨c1, c2, hrow, hlc, hlen, hat⟩ := h
  obtain ⟨g, o, rfl, ha⟩ := hrow (by intro h; simp at h; subst h; simp at hri)
  have c3 := ha.cell (i := i) (cs := ri.v) (by simp [hri]) (j := 1) (u := .int .i64 ri.f) rfl
  have c4 := ha.cell (i := k) (cs := rk.v) (by simp [hrk]) (j := 2) (u := .int .i64 rk.t) rfl
  obtain ⟨n, hn⟩ : ∃ n, n = R.length := ⟨_, rfl⟩
  rw [← hn] at c1 hi hk hlc
  have e1 : (i : Int) < n := by omega
  have e2 : (k : Int) < n := by omega
  have e3 : IntKind.i64.wrap ((k : Int) + 1 - 1) = k := by rw [show (k : Int) + 1 - 1 = k by omega]; exact IntWalk.i64_in _ (by omega)
  have e5 : IntKind.i64.wrap (k : Int) = k := IntWalk.i64_in _ (by omega)
  have ho : ∀ o, Below w.heap.size w (w.alloc o) := fun o => (Below.refl _ w).alloc (Nat.le_refl _) o
  have d1 := fun o => kept_cell (ho o) c1
  have d3 := fun o => kept_cell (ho o) c3
  have d4 := fun o => kept_cell (ho o) c4
  have df := fun o => kept_cell (ho o) hf
  clear hri hrk ha hrow hn c2
  go_enter Tryz.func90, Tryz.ntmps90
  go_wp2_with fail
  go_region
  all_goals
    go_wp2
    have hn := heap_alloc_new w (.cells #[.string file, .int .i64 ri.f, .int .i64 rk.t] 31)
    have m0 := Lib.cell_of_heap hn 0
    have m1 := Lib.cell_of_heap hn 1
    have m2 := Lib.cell_of_heap hn 2
    refine bodyPost_ret (v := .agg #[.string file, .int .i64 ri.f, .int .i64 rk.t]) (by simp [results, Tryz.results90, go_sem, m0, m1, m2]) rfl ⟨rfl, (ho _).drew⟩

/-! ## what lies in memory while a text is gone through -/

/-- all cells but those of diagnostics and of the walk itself are kept -/
def KeptX (w w' : World) : Prop := w.heap.size ≤ w'.heap.size ∧ ∀ (k : Nat) (x : Array Value) (e : TypeId) (fz : Nat × Nat), w.heap[k]? = some (Obj.cells x e fz) → e ≠ 68 → e ≠ 122 → w'.heap[k]? = some (Obj.cells x e fz)

theorem KeptX.refl (w : World) : KeptX w w := ⟨Nat.le_refl _, fun _ _ _ _ h _ _ => h⟩
theorem KeptX.trans {a b c : World} (h : KeptX a b) (k : KeptX b c) : KeptX a c := ⟨Nat.le_trans h.1 k.1, fun i x e fz hx h1 h2 => k.2 i x e fz (h.2 i x e fz hx h1 h2) h1 h2⟩
theorem KeptX.below {w w' : World} (h : Below w.heap.size w w') : KeptX w w' := ⟨h.size, fun k x e fz hx _ _ => (h.block k (lt_of_block hx)).trans hx⟩
theorem KeptX.set {w : World} {b : Nat} {y : Array Value} {fz : Nat × Nat} (h : w.heap[b]? = some (.cells y 122 fz)) (j : Nat) (u : Value) : KeptX w (w.setCell ⟨b, j, none⟩ u) := by
  refine ⟨by simp, fun k x e fz' hx h1 h2 => ?_⟩
  by_cases hk : k = b
  · subst hk
    rw [h] at hx
    simp only [Option.some.injEq, Obj.cells.injEq] at hx
    exact absurd hx.2.1.symm h2
  · exact (Below.heap_setCell w ⟨b, j, none⟩ u k hk).trans hx
theorem KeptX.app {w w' : World} {B sz : Nat} {v : Value} {css : List (List Value)} (h : Own w B 68 sz v css) (hg : w.grownBy w' v.ownBlock) : KeptX w w' := by
  refine ⟨hg.size, fun k x e fz hx h1 h2 => ?_⟩
  rw [hg.block k (lt_of_block hx)]
  · exact hx
  · intro e1
    obtain ⟨c, fz', hc⟩ := h.size_lt k e1.symm
    rw [hx] at hc
    simp only [Option.some.injEq, Obj.cells.injEq] at hc
    exact h1 hc.2.1

theorem Own.keptX {w w' : World} {B e sz : Nat} {v : Value} {css : List (List Value)} (h : Own w B e sz v css) (k : KeptX w w') (h1 : e ≠ 68) (h2 : e ≠ 122) : Own w' B e sz v css := by
  refine ⟨⟨h.1.1, ?_⟩, h.2⟩
  rcases h.1.2 with h0 | ⟨g, cap, cur, hv, hg1, hg, r⟩
  · exact .inl h0
  · exact .inr ⟨g, cap, cur, hv, hg1, k.2 g _ _ _ hg h1 h2, r⟩

/-- the characters' blocks are kept -/
def KeptRn (w w' : World) : Prop := ∀ (k : Nat) (x : Array Value) (fz : Nat × Nat), w.heap[k]? = some (Obj.cells x 123 fz) → w'.heap[k]? = some (Obj.cells x 123 fz)

structure Bel (b : Nat) (W0 w : World) : Prop where
  lo : Below b W0 w
  rn : KeptRn W0 w

theorem Bel.refl (b : Nat) (w : World) : Bel b w w := ⟨Below.refl _ _, fun _ _ _ h => h⟩

theorem Bel.after {b : Nat} {W0 w w' : World} (h : Bel b W0 w) (hb : Below w.heap.size w w') (hl : b ≤ w.heap.size) : Bel b W0 w' :=
  ⟨h.lo.trans (hb.mono hl), fun k x fz hx => (hb.block k (lt_of_block (h.rn k x fz hx))).trans (h.rn k x fz hx)⟩

theorem Bel.swap {b T : Nat} {W0 w w' : World} {y : Array Value} {e : TypeId} {fz : Nat × Nat} (h : Bel b W0 w) (hT : w.heap[T]? = some (.cells y e fz)) (he : e ≠ 123) (ho : ∀ k, k ≠ T → w'.heap[k]? = w.heap[k]?) (hB : Below T w w') (hbT : b ≤ T) : Bel b W0 w' := by
  refine ⟨h.lo.trans (hB.mono hbT), fun k x fz' hx => ?_⟩
  have hk := h.rn k x fz' hx
  refine (ho k ?_).trans hk
  rintro rfl
  rw [hT] at hk
  simp only [Option.some.injEq, Obj.cells.injEq] at hk
  exact he hk.2.1

theorem Bel.set {b T : Nat} {W0 w : World} {y : Array Value} {e : TypeId} {fz : Nat × Nat} (h : Bel b W0 w) (hT : w.heap[T]? = some (.cells y e fz)) (he : e ≠ 123) (hbT : b ≤ T) (j : Nat) (u : Value) : Bel b W0 (w.setCell ⟨T, j, none⟩ u) :=
  h.swap hT he (fun k hk => Below.heap_setCell _ _ _ _ hk) ((Below.refl _ _).setCell (p := ⟨T, j, none⟩) (Nat.le_refl _) _) hbT

theorem Bel.app {b : Nat} {W0 w w' : World} {B e sz : Nat} {v : Value} {css : List (List Value)} (h : Bel b W0 w) (ho : Own w B e sz v css) (he : e ≠ 123) (hg : w.grownBy w' v.ownBlock) (hbB : b ≤ B) (hl : b ≤ w.heap.size) : Bel b W0 w' := by
  refine ⟨bapp h.lo (ho.mono hbB) hg hl, fun k x fz hx => ?_⟩
  have hk := h.rn k x fz hx
  refine (hg.block k (lt_of_block hk) ?_).trans hk
  intro e1
  obtain ⟨c, fz', hc⟩ := ho.size_lt k e1.symm
  rw [hk] at hc
  simp only [Option.some.injEq, Obj.cells.injEq] at hc
  exact he hc.2.1.symm

/-- the walk: its block, what it has told so far -/
structure LwAt (W0 w : World) (b : Nat) (file : ByteArray) (n : Nat) (lo : Option Addr) (cap at_ : Nat) (vd : Value) (ds : List Dg) (sp : Bool) (q : Int) : Prop where
  cells : w.heap[b]? = some (.cells #[.string file, .slice lo n cap, .int .i64 at_, vd, .bool sp, .int .i64 q] 122 (0, 0))
  below : Bel b W0 w
  diags : Own w (b + 1) 68 4 vd (ds.map (dgC file))

theorem cells6 {w : World} {b : Nat} {a0 a1 a2 a3 a4 a5 : Value} {e : TypeId} {fz : Nat × Nat} (h : w.heap[b]? = some (.cells #[a0, a1, a2, a3, a4, a5] e fz)) :
    w.cell? ⟨b, 0, none⟩ = some a0 ∧ w.cell? ⟨b, 1, none⟩ = some a1 ∧ w.cell? ⟨b, 2, none⟩ = some a2 ∧ w.cell? ⟨b, 3, none⟩ = some a3 ∧ w.cell? ⟨b, 4, none⟩ = some a4 ∧ w.cell? ⟨b, 5, none⟩ = some a5 :=
  ⟨by simpa using Lib.cell_of_heap h 0, by simpa using Lib.cell_of_heap h 1, by simpa using Lib.cell_of_heap h 2, by simpa using Lib.cell_of_heap h 3, by simpa using Lib.cell_of_heap h 4, by simpa using Lib.cell_of_heap h 5⟩

theorem lw_set2 {w : World} {b : Nat} {a0 a1 a2 a3 a4 a5 : Value} {e : TypeId} {fz : Nat × Nat} (h : w.heap[b]? = some (.cells #[a0, a1, a2, a3, a4, a5] e fz)) (u : Value) :
    (w.setCell ⟨b, 2, none⟩ u).heap[b]? = some (.cells #[a0, a1, u, a3, a4, a5] e fz) := by
  rw [setCell_eq_setRow _ _ _ _ _ _ _ h, setRow_heap _ _ _ _ _ _ h]
  rfl
theorem lw_set3 {w : World} {b : Nat} {a0 a1 a2 a3 a4 a5 : Value} {e : TypeId} {fz : Nat × Nat} (h : w.heap[b]? = some (.cells #[a0, a1, a2, a3, a4, a5] e fz)) (u : Value) :
    (w.setCell ⟨b, 3, none⟩ u).heap[b]? = some (.cells #[a0, a1, a2, u, a4, a5] e fz) := by
  rw [setCell_eq_setRow _ _ _ _ _ _ _ h, setRow_heap _ _ _ _ _ _ h]
  rfl
theorem lw_set4 {w : World} {b : Nat} {a0 a1 a2 a3 a4 a5 : Value} {e : TypeId} {fz : Nat × Nat} (h : w.heap[b]? = some (.cells #[a0, a1, a2, a3, a4, a5] e fz)) (u : Value) :
    (w.setCell ⟨b, 4, none⟩ u).heap[b]? = some (.cells #[a0, a1, a2, a3, u, a5] e fz) := by
  rw [setCell_eq_setRow _ _ _ _ _ _ _ h, setRow_heap _ _ _ _ _ _ h]
  rfl
theorem lw_set5 {w : World} {b : Nat} {a0 a1 a2 a3 a4 a5 : Value} {e : TypeId} {fz : Nat × Nat} (h : w.heap[b]? = some (.cells #[a0, a1, a2, a3, a4, a5] e fz)) (u : Value) :
    (w.setCell ⟨b, 5, none⟩ u).heap[b]? = some (.cells #[a0, a1, a2, a3, a4, u] e fz) := by
  rw [setCell_eq_setRow _ _ _ _ _ _ _ h, setRow_heap _ _ _ _ _ _ h]
  rfl

theorem LwAt.after {W0 w w' : World} {b : Nat} {file : ByteArray} {n : Nat} {lo : Option Addr} {cap at_ : Nat} {vd : Value} {ds : List Dg} {sp : Bool} {q : Int} (h : LwAt W0 w b file n lo cap at_ vd ds sp q) (hb : Below w.heap.size w w') : LwAt W0 w' b file n lo cap at_ vd ds sp q :=
  ⟨(hb.block _ (lt_of_block h.cells)).trans h.cells, h.below.after hb (Nat.le_of_lt (lt_of_block h.cells)), h.diags.below hb⟩

theorem LwAt.at {W0 w : World} {b : Nat} {file : ByteArray} {n : Nat} {lo : Option Addr} {cap at_ : Nat} {vd : Value} {ds : List Dg} {sp : Bool} {q : Int} (h : LwAt W0 w b file n lo cap at_ vd ds sp q) (at2 : Nat) :
    LwAt W0 (w.setCell ⟨b, 2, none⟩ (.int .i64 at2)) b file n lo cap at2 vd ds sp q :=
  ⟨lw_set2 h.cells _, h.below.set h.cells (by decide) (Nat.le_refl _) 2 _, h.diags.setBelow (Nat.lt_succ_self _) _⟩

/-- the parts that are only read -/
theorem LwAt.wk {W0 w : World} {b : Nat} {file : ByteArray} {R : List Rn} {lo : Option Addr} {cap at_ : Nat} {vd : Value} {ds : List Dg} {sp : Bool} {q : Int} (h : LwAt W0 w b file R.length lo cap at_ vd ds sp q) (HR : ∀ w', Bel b W0 w' → Row w' 3 lo (R.map Rn.v)) (hc : R.length ≤ cap) (hl : R.length ≤ 2000000) (ha : at_ ≤ 4000000) : WkAt w b R lo cap at_ :=
  ⟨(cells6 h.cells).2.1, (cells6 h.cells).2.2.1, HR w h.below, hc, hl, ha⟩
end Go.Proofs.YtfaoamdlknlgpaaGreat
