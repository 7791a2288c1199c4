/- lex's has and span. -/
import Derived.Test.YthbicbfdldpemaaLw1
import Derived.Deep.LoopGhost
namespace Go.Proofs.Ythbicbfdldpemaa
open Go.RowKit
set_option linter.unusedVariables false

theorem drewN_below (w : World) (q : Nat) : Below w.heap.size w (w.drewN q) := below_drewN (Below.refl _ w) q

theorem WkAt.below {w w' : World} {b : Nat} {R : List Rn} {lo : Option Addr} {cap at_ : Nat} (h : WkAt w b R lo cap at_) (hb : Below w.heap.size w w') : WkAt w' b R lo cap at_ :=
  ⟨kept_cell hb h.l, kept_cell hb h.here, h.row.below hb, h.lcap, h.len, h.atl⟩

theorem drewN_add (w : World) (p q : Nat) : (w.drewN p).drewN q = w.drewN (p + q) := by
  induction q with
  | zero => rfl
  | succ q ih => exact congrArg World.drew ih

/-- is a text the next characters? (the texts asked for have no 0 in them, but the empty one) -/
def hasL (A : List UInt8) (i : Nat) (p : List UInt8) : Bool := decide (i + p.length ≤ A.length) && (List.range p.length).all fun j => chAt A (i + j) == p.getD j 0

set_option maxRecDepth 100000 in
theorem has_any (b : Nat) (R : List Rn) (lo : Option Addr) (cap at_ : Nat) (s : ByteArray) (hs : s.size ≤ 10) (w : World) (h : WkAt w b R lo cap at_) :
    Calls Try.prog 97 #[.pointer (some ⟨b, 0, none⟩), .string s] w fun e w' => e = .returned (.bool (hasL (cs R) at_ s.data.toList)) ∧ ∃ q, w' = w.drewN q := by
  have HW := fun q => h.below (drewN_below w q)
  obtain ⟨c1, c2, hrow, hlc, hlen, hat⟩ := h
  obtain ⟨n, hn⟩ : ∃ n, n = R.length := ⟨_, rfl⟩
  have HN : Hid (R.length = n) := Lib.hid hn.symm
  have HR : Hid (hasL (cs R) at_ s.data.toList = (decide (at_ + s.size ≤ n) && (List.range s.size).all fun j => chAt (cs R) (at_ + j) == s.data.toList.getD j 0)) := Lib.hid (by
    unfold hasL
    rw [cs_len, ← hn, ← Lib.size_eq])
  obtain ⟨res, hres⟩ : ∃ res, res = hasL (cs R) at_ s.data.toList := ⟨_, rfl⟩
  rw [← hres] at HR ⊢
  clear hres
  rw [← hn] at c1 hlc hlen
  have q1 : IntKind.i64.wrap ((at_ : Int) + s.size) = (at_ : Int) + s.size := IntWalk.i64_in _ (by omega)
  clear hn
  go_enter Try.func97, Try.ntmps97
  by_cases hl : at_ + s.size ≤ n
  · have e1 : ¬ (n : Int) < (at_ : Int) + s.size := by omega
    go_wp2_with fail
    go_quiet (fail)
    go_wp2_with fail
    go_loopg [21] s.size (fun u v w9 => ∃ k : Nat, u = s.size - k ∧ k ≤ s.size ∧ v = .int .i64 k ∧ (∃ q, w9 = w.drewN q) ∧ Hid (∀ j, j < k → chAt (cs R) (at_ + j) = s.data.toList.getD j 0))
    case atStart => exact ⟨0, rfl, Nat.zero_le _, rfl, ⟨_, rfl⟩, Lib.hid (fun j hj => absurd hj (Nat.not_lt_zero _))⟩
    case round =>
      obtain ⟨k, rfl, hk, rfl, ⟨q, hq⟩, hall⟩ := hrel
      have hW := HW q
      rw [← hq] at hW
      replace hq := Lib.hid hq
      obtain ⟨d1, d2, hrow2, _, _, _⟩ := hW
      rw [HN.out] at d1
      by_cases hlt : k < s.size
      · have hji : (k : Int) < (s.size : Int) := by omega
        obtain ⟨r, hr⟩ : ∃ r, R[at_ + k]? = some r := ⟨R[at_ + k]'(by rw [HN.out]; omega), by simp⟩
        have hrc := cs_at hr
        obtain ⟨g, o, rfl, ha⟩ := hrow2 (by intro h; simp at h; subst h; simp at hr)
        have c0 := ha.cell (i := at_ + k) (cs := r.v) (by simp [hr]) (j := 0) (u := .int .u8 r.c.toNat) rfl
        simp only [Nat.add_zero] at c0
        have q2 : IntKind.i64.wrap ((at_ : Int) + k) = (at_ : Int) + k := IntWalk.i64_in _ (by omega)
        have e2 : (at_ : Int) + k < n := by omega
        have e3 : (0 : Int) ≤ (at_ : Int) + k := by omega
        have e4 : ((at_ : Int) + k).toNat = at_ + k := by omega
        have HG : Hid (s.data.toList.getD k 0 = s[k]'hlt) := Lib.hid (by
          rw [List.getD_eq_getElem?_getD, List.getElem?_eq_getElem (by rw [← Lib.size_eq]; exact hlt)]
          rfl)
        replace hr := Lib.hid hr
        replace hrc := Lib.hid hrc
        clear ha hrow2
        by_cases hm : (r.c.toNat : Int) = ((s[k]'hlt).toNat : Int)
        · have hm' : ((r.c.toNat : Int) == ((s[k]'hlt).toNat : Int)) = true := by simpa using hm
          have hnew : chAt (cs R) (at_ + k) = s.data.toList.getD k 0 := by rw [HG.out, hrc.out]; exact (u8eq _ _).2 hm
          replace hnew := Lib.hid hnew
          replace hm := Lib.hid hm
          clear HG
          go_wp2_with fail
          go_quiet (fail)
          go_wp2_with fail
          go_roundg (s.size - (k + 1))
          case measure => omega
          case rel =>
            refine ⟨k + 1, rfl, by omega, by go_num, ⟨q + nq, by rw [hq.out, drewN_add]⟩, Lib.hid ?_⟩
            intro m hmj
            by_cases hmm : m = k
            · subst hmm; exact hnew.out
            · exact hall.out m (by omega)
        · have hm' : ((r.c.toNat : Int) == ((s[k]'hlt).toNat : Int)) = false := by simpa using hm
          have hnew : chAt (cs R) (at_ + k) ≠ s.data.toList.getD k 0 := by rw [HG.out, hrc.out]; intro e; exact hm ((u8eq _ _).1 e)
          have hres : Hid (res = false) := Lib.hid (by
            rw [HR.out, Bool.and_eq_false_iff]
            right
            rw [List.all_eq_false]
            exact ⟨k, List.mem_range.2 hlt, by simpa using hnew⟩)
          replace hnew := Lib.hid hnew
          replace hm := Lib.hid hm
          clear HG
          go_wp2_with fail
          go_quiet (fail)
          go_wp2
          go_ret
          exact ⟨by rw [hres.out]; rfl, q + nq, by rw [hq.out, drewN_add]⟩
      · have hres : Hid (res = true) := Lib.hid (by
          rw [HR.out, Bool.and_eq_true]
          refine ⟨decide_eq_true hl, List.all_eq_true.2 fun j hj => ?_⟩
          have := hall.out j (by have := List.mem_range.1 hj; omega)
          simpa using this)
        have hjf : ¬ (k : Int) < (s.size : Int) := by omega
        go_wp2
        go_ret
        exact ⟨by rw [hres.out]; rfl, q, hq.out⟩
  · have e1 : (n : Int) < (at_ : Int) + s.size := by omega
    have hres : Hid (res = false) := Lib.hid (by
      rw [HR.out, Bool.and_eq_false_iff]
      exact .inl (decide_eq_false hl))
    go_wp2_with fail
    go_quiet (fail)
    go_wp2
    go_ret
    exact ⟨by rw [hres.out]; rfl, _, rfl⟩
end Go.Proofs.Ythbicbfdldpemaa
