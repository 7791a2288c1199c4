
/- ExpressDeep in plain Lean: brackets, and signs. -/
import Derived.Test.YtllbbacnakoomaaGreatDoorLexCan
namespace Go.Proofs.YtllbbacnakoomaaGreatDoor
set_option linter.unusedVariables false

/-- so many brackets around a name -/
def brkS (n : Nat) : List UInt8 := List.replicate n 40 ++ (([120] : List UInt8) ++ List.replicate n 41)
def brkW (n : Nat) : List UInt8 := if 3 * (n + 1) > 200 then [] else ([40, 110, 97, 109, 101, 32, 120, 41] : List UInt8)
def closeP : Nat → List Pq.Pc
  | 0 => []
  | n + 1 => some (5, ([41] : List UInt8)) :: closeP n
def openP (k : Nat) : Nat → List Pq.Pc
  | 0 => some (1, ([120] : List UInt8)) :: closeP k
  | n + 1 => some (5, ([40] : List UInt8)) :: openP k n
theorem close_flat : ∀ n, Pq.flatP (closeP n) = List.replicate n 41
  | 0 => rfl
  | n + 1 => by simp only [closeP, Pq.flatP, close_flat n]; rfl
theorem open_flat (k : Nat) : ∀ n, Pq.flatP (openP k n) = List.replicate n 40 ++ (([120] : List UInt8) ++ List.replicate k 41)
  | 0 => by simp only [openP, Pq.flatP, close_flat]; rfl
  | n + 1 => by simp only [openP, Pq.flatP, open_flat k n]; rfl
theorem close_good : ∀ n, Pq.GoodP (closeP n)
  | 0 => trivial
  | n + 1 => ⟨⟨by decide, by decide, by decide, by decide, Pq.next_sign (.inr (.inl rfl)) _⟩, close_good n⟩
theorem open_good (k : Nat) : ∀ n, Pq.GoodP (openP k n)
  | 0 => ⟨⟨by decide, by decide, by decide, by decide, by
      rw [close_flat]
      refine Pq.next_name (c := 120) (t := []) rfl (by decide) (by simp) ?_
      cases k <;> rfl⟩, close_good k⟩
  | n + 1 => ⟨⟨by decide, by decide, by decide, by decide, Pq.next_sign (.inl rfl) _⟩, open_good k n⟩
def brkC (n : Nat) : List Ct := List.replicate n (Pq.ctOf (7, (⟨#[40]⟩ : ByteArray))) ++ (Pq.ctOf (1, (⟨#[120]⟩ : ByteArray)) :: (List.replicate n (Pq.ctOf (7, (⟨#[41]⟩ : ByteArray))) ++ [endT]))
theorem close_tok : ∀ n, Pq.tokQ (closeP n) = List.replicate n (5, ([41] : List UInt8))
  | 0 => rfl
  | n + 1 => by rw [List.replicate_succ, ← close_tok n]; rfl
theorem open_tok (k : Nat) : ∀ n, Pq.tokQ (openP k n) = List.replicate n (5, ([40] : List UInt8)) ++ ((1, ([120] : List UInt8)) :: List.replicate k (5, ([41] : List UInt8)))
  | 0 => by rw [← close_tok k]; rfl
  | n + 1 => by rw [List.replicate_succ, List.cons_append, ← open_tok k n]; rfl
theorem brk_can (n : Nat) : Pq.canP (openP n n) = brkC n := by
  unfold Pq.canP brkC
  rw [open_tok, List.map_append, List.map_replicate, List.map_cons, List.map_replicate]
  have h1 : Pq.ctOf (Pq.pairT (5, ([40] : List UInt8))) = Pq.ctOf (7, (⟨#[40]⟩ : ByteArray)) := by kernel_rfl
  have h2 : Pq.ctOf (Pq.pairT (1, ([120] : List UInt8))) = Pq.ctOf (1, (⟨#[120]⟩ : ByteArray)) := by kernel_rfl
  have h3 : Pq.ctOf (Pq.pairT (5, ([41] : List UInt8))) = Pq.ctOf (7, (⟨#[41]⟩ : ByteArray)) := by kernel_rfl
  rw [h1, h2, h3, List.append_assoc]
  rfl
theorem brk_pair (n : Nat) : ∀ p ∈ Pq.tokQ (openP n n), Pq.pairB p = true := fun p hp => by
  rw [open_tok] at hp
  rcases List.mem_append.1 hp with hp | hp
  · rw [(List.mem_replicate.1 hp).2]; kernel_rfl
  · rcases List.mem_cons.1 hp with rfl | hp
    · kernel_rfl
    · rw [(List.mem_replicate.1 hp).2]; kernel_rfl
theorem brk_mem (n : Nat) : ∀ c ∈ Pq.flatP (openP n n), c ≠ 92 ∧ c ≠ 63 ∧ c ≠ 10 := fun c hc => by
  rw [open_flat] at hc
  rcases List.mem_append.1 hc with hc | hc
  · rw [(List.mem_replicate.1 hc).2]; decide
  · rcases List.mem_append.1 hc with hc | hc
    · simp at hc; subst hc; decide
    · rw [(List.mem_replicate.1 hc).2]; decide
def brkB (a n : Nat) : Bool := (List.range n).all fun k => exprOf 1000 (brkC (a + k)) [] == some (brkW (a + k))
theorem brk_a : brkB 0 20 = true := by kernel_rfl
theorem brk_b : brkB 20 20 = true := by kernel_rfl
theorem brk_c : brkB 40 20 = true := by kernel_rfl
theorem brk_d : brkB 60 21 = true := by kernel_rfl
theorem brk_of {a n : Nat} (h : brkB a n = true) {k : Nat} (h1 : a ≤ k) (h2 : k < a + n) : exprOf 1000 (brkC k) [] = some (brkW k) := by
  have := List.all_eq_true.1 h (k - a) (List.mem_range.2 (by omega))
  rw [show a + (k - a) = k by omega] at this
  simpa using this
theorem brk_any {n : Nat} (h : n ≤ 80) : writE (brkS n) [] = some (brkW n) := by
  have hs := Pq.toks_can (open_good n n) (brk_mem n) (brk_pair n)
  rw [open_flat, brk_can] at hs
  refine expr_same hs.symm ?_
  by_cases h1 : n < 20
  · exact brk_of brk_a (by omega) (by omega)
  by_cases h2 : n < 40
  · exact brk_of brk_b (by omega) (by omega)
  by_cases h3 : n < 60
  · exact brk_of brk_c (by omega) (by omega)
  · exact brk_of brk_d (by omega) (by omega)

/-! ## signs -/

/-- so many signs, a blank behind each -/
def sgnT : Nat → List UInt8
  | 0 => []
  | n + 1 => 33 :: 32 :: sgnT n
def sgnP : Nat → List Pq.Pc
  | 0 => [some (1, ([120] : List UInt8))]
  | n + 1 => some (5, ([33] : List UInt8)) :: none :: sgnP n
theorem sgn_flat : ∀ n, Pq.flatP (sgnP n) = sgnT n ++ ([120] : List UInt8)
  | 0 => rfl
  | n + 1 => by simp only [sgnP, Pq.flatP, sgn_flat n, sgnT]; rfl
theorem sgn_good : ∀ n, Pq.GoodP (sgnP n)
  | 0 => ⟨⟨by decide, by decide, by decide, by decide, by kernel_rfl⟩, trivial⟩
  | n + 1 => ⟨⟨by decide, by decide, by decide, by decide, by
      show nextL (33 :: 32 :: (Pq.flatP (sgnP n) ++ [10])) 0 = (5, 1, false)
      generalize Pq.flatP (sgnP n) ++ [10] = r
      kernel_rfl⟩, sgn_good n⟩
theorem sgn_mem : ∀ n, ∀ c ∈ Pq.flatP (sgnP n), c ≠ 92 ∧ c ≠ 63 ∧ c ≠ 10
  | 0, c, h => by simp [sgnP, Pq.flatP] at h; subst h; decide
  | n + 1, c, h => by
    simp only [sgnP, Pq.flatP, List.cons_append, List.nil_append, List.mem_cons] at h
    rcases h with rfl | rfl | h
    · decide
    · decide
    · exact sgn_mem n c h
theorem sgn_tok : ∀ n, Pq.tokQ (sgnP n) = List.replicate n (5, ([33] : List UInt8)) ++ [(1, ([120] : List UInt8))]
  | 0 => rfl
  | n + 1 => by
    rw [List.replicate_succ, List.cons_append, ← sgn_tok n]
    rfl
def bangC : Ct := Pq.ctOf (7, (⟨#[33]⟩ : ByteArray))
def xC : Ct := Pq.ctOf (1, (⟨#[120]⟩ : ByteArray))
def sgnC (n : Nat) : List Ct := List.replicate n bangC ++ [xC, endT]
theorem sgn_can (n : Nat) : Pq.canP (sgnP n) = sgnC n := by
  unfold Pq.canP sgnC
  rw [sgn_tok, List.map_append, List.map_replicate]
  have h1 : Pq.ctOf (Pq.pairT (5, ([33] : List UInt8))) = bangC := by kernel_rfl
  have h2 : Pq.ctOf (Pq.pairT (1, ([120] : List UInt8))) = xC := by kernel_rfl
  rw [h1, List.map_cons, h2, List.append_assoc]
  rfl
theorem sgn_pair (n : Nat) : ∀ p ∈ Pq.tokQ (sgnP n), Pq.pairB p = true := fun p hp => by
  rw [sgn_tok] at hp
  rcases List.mem_append.1 hp with hp | hp
  · rw [(List.mem_replicate.1 hp).2]; kernel_rfl
  · rw [List.mem_singleton.1 hp]; kernel_rfl

section
variable {n : Nat}
theorem sgn_at {i : Nat} (h : i < n) : tokP (sgnC n) (i : Int) = bangC := by
  unfold tokP sgnC
  rw [if_pos (by omega), Int.toNat_natCast, List.getElem?_append_left (by simpa using h)]
  simp [h]
theorem sgn_x : tokP (sgnC n) (n : Int) = xC := by
  unfold tokP sgnC
  rw [if_pos (by omega), Int.toNat_natCast, List.getElem?_append_right (by simp)]
  simp
theorem sgn_end : tokP (sgnC n) ((n : Int) + 1) = endT := by
  unfold tokP sgnC
  rw [if_pos (by omega), show ((n : Int) + 1).toNat = n + 1 by omega, List.getElem?_append_right (by simp)]
  simp

def sgT (n : Nat) : Nat → Nat → T
  | 0, i => leafP (sgnC n) ⟨i, .new, false⟩ (⟨#[110, 97, 109, 101]⟩ : ByteArray)
  | k + 1, i => .mk (⟨#[117, 110, 97, 114, 121]⟩ : ByteArray) (⟨#[33]⟩ : ByteArray) i ((n : Int) + 1) [sgT n k (i + 1)]
theorem sg_len : ∀ k i, i + k = n → (T.out (sgT n k i)).length = 8 + 10 * k
  | 0, i, h => by
    have : i = n := by omega
    subst this
    unfold sgT leafP
    rw [sgn_x]
    rfl
  | k + 1, i, h => by
    unfold sgT
    simp only [T.out, T.outs, List.length_append, List.length_cons, sg_len k (i + 1) (by omega), List.length_nil]
    have h2 : (if ((⟨#[33]⟩ : ByteArray) : ByteArray).size = 0 then ([] : List UInt8) else [32, 33]).length = 2 := rfl
    rw [h2]
    omega

theorem isP_bang {i : Nat} (h : i < n) (e : Ev) (x : ByteArray) : isP (sgnC n) ⟨i, e, false⟩ x = decide ((⟨#[33]⟩ : ByteArray) = x) := by
  unfold isP isT
  rw [sgn_at h]
  rfl
theorem isP_x (e : Ev) (x : ByteArray) : isP (sgnC n) ⟨n, e, false⟩ x = false := by
  unfold isP isT
  rw [sgn_x]
  rfl
theorem isP_end (e : Ev) (x : ByteArray) : isP (sgnC n) ⟨(n : Int) + 1, e, false⟩ x = false := by
  unfold isP isT
  rw [sgn_end]
  rfl
theorem isW_bang {i : Nat} (h : i < n) (e : Ev) (x : ByteArray) : wordP (sgnC n) ⟨i, e, false⟩ x = false := by
  unfold wordP
  rw [sgn_at h]
  rfl
theorem isW_x (e : Ev) (x : ByteArray) : wordP (sgnC n) ⟨n, e, false⟩ x = false := by
  unfold wordP
  rw [sgn_x]
  rfl
theorem brk_bang {i : Nat} (h : i < n) (e : Ev) : bracketedP (sgnC n) ⟨i, e, false⟩ = false := by
  unfold bracketedP
  rw [isP_bang h]
  rfl
theorem brk_x (e : Ev) : bracketedP (sgnC n) ⟨n, e, false⟩ = false := by
  unfold bracketedP
  rw [isP_x]
  rfl

theorem post_end (R : Rec) (nest k : Nat) (t : T) (e : Ev) : postLoop (sgnC n) R nest (k + 1) t ⟨(n : Int) + 1, e, false⟩ = some (t, ⟨(n : Int) + 1, e, false⟩) := by
  unfold postLoop
  rw [if_neg (by simp), isP_end, if_neg (by simp), isP_end, if_neg (by simp), isP_end, isP_end, if_neg (by simp), isP_end, isP_end, if_neg (by simp)]
theorem post_kk (R : Rec) (nest : Nat) (t : T) (e : Ev) : postLoop (sgnC n) R nest KK t ⟨(n : Int) + 1, e, false⟩ = some (t, ⟨(n : Int) + 1, e, false⟩) := by
  generalize hk : KK = kk
  obtain ⟨k, rfl⟩ : ∃ k, kk = k + 1 := ⟨kk - 1, by have : kk = 5000 := hk.symm; omega⟩
  exact post_end R nest k t e
theorem un_x (N nest : Nat) : (recN (sgnC n) (N + 1)).unary nest ⟨n, .new, false⟩ = some (sgT n 0 n, ⟨(n : Int) + 1, .new, false⟩) := by
  show unaryF (sgnC n) (recN (sgnC n) N) nest ⟨n, .new, false⟩ = _
  unfold unaryF
  rw [if_neg (by simp), isP_x, isP_x, if_neg (by simp), isP_x, isP_x, isP_x, isP_x, isP_x, isP_x, if_neg (by simp), isW_x, if_neg (by simp), isW_x, if_neg (by simp), brk_x, if_neg (by simp)]
  unfold primaryF
  have hx : (tokP (sgnC n) (⟨n, .new, false⟩ : Ps).at_).kind = 1 := by rw [sgn_x]; rfl
  rw [if_pos ⟨hx, rfl⟩]
  rw [Option.bind_some]
  unfold postF
  have hu : (⟨n, .new, false⟩ : Ps).up 1 = ⟨(n : Int) + 1, .new, false⟩ := rfl
  rw [hu, post_kk]
  rfl

theorem un_any : ∀ k i N nest, i + k = n → 2 * k + 1 ≤ N → (recN (sgnC n) N).unary nest ⟨(i : Nat), .new, false⟩ = some (sgT n k i, ⟨(n : Int) + 1, .new, false⟩)
  | 0, i, N, nest, h, hN => by
    obtain ⟨M, rfl⟩ : ∃ M, N = M + 1 := ⟨N - 1, by omega⟩
    have : i = n := by omega
    subst this
    exact un_x M nest
  | k + 1, i, N, nest, h, hN => by
    obtain ⟨M, rfl⟩ : ∃ M, N = M + 1 + 1 := ⟨N - 2, by omega⟩
    have hi : i < n := by omega
    have ih := un_any k (i + 1) M nest (by omega) (by omega)
    have hu : (⟨(i : Nat), .new, false⟩ : Ps).up 1 = ⟨((i + 1 : Nat) : Int), .new, false⟩ := rfl
    have hc : (recN (sgnC n) (M + 1)).cast nest ⟨((i + 1 : Nat) : Int), .new, false⟩ = some ((sgT n k (i + 1), true), ⟨(n : Int) + 1, .new, false⟩) := by
      show castF (sgnC n) (recN (sgnC n) M) nest ⟨((i + 1 : Nat) : Int), .new, false⟩ = _
      unfold castF
      have hb : bracketedP (sgnC n) ⟨((i + 1 : Nat) : Int), .new, false⟩ = false := by
        by_cases h1 : i + 1 < n
        · exact brk_bang h1 _
        · have : i + 1 = n := by omega
          rw [this]
          exact brk_x _
      rw [if_pos (.inr hb), ih]
      rfl
    show unaryF (sgnC n) (recN (sgnC n) (M + 1)) nest ⟨(i : Nat), .new, false⟩ = _
    unfold unaryF
    rw [if_neg (by simp), isP_bang hi, isP_bang hi, if_neg (by decide), isP_bang hi, isP_bang hi, isP_bang hi, isP_bang hi, isP_bang hi, isP_bang hi, if_pos (by decide), hu, hc]
    have ht : (tokP (sgnC n) (⟨(i : Nat), .new, false⟩ : Ps).at_).text = (⟨#[33]⟩ : ByteArray) := by rw [sgn_at hi]; rfl
    rw [Option.bind_some, ht]
    rfl

theorem sgn_first : bracketedP (sgnC n) ⟨0, .new, false⟩ = false := by
  by_cases h : 0 < n
  · exact brk_bang h _
  · have : n = 0 := by omega
    subst this
    exact brk_x (n := 0) _

theorem hasP_end (e : Ev) (x : ByteArray) : hasP (sgnC n) ⟨(n : Int) + 1, e, false⟩ x = false := by
  unfold hasP
  rw [isP_end]
  rfl
theorem bin_end (R : Rec) (least nest k : Nat) (a : T × Bool) (e : Ev) : binLoop (sgnC n) R least nest (k + 1) a ⟨(n : Int) + 1, e, false⟩ = some (a, ⟨(n : Int) + 1, e, false⟩) := by
  unfold binLoop
  rw [if_pos (.inr (.inl (by unfold levelT; rw [if_neg (by show ¬ (tokP (sgnC n) ((n : Int) + 1)).kind = 7; rw [sgn_end]; decide)])))]
theorem expr_end (R : Rec) (nest k : Nat) (a : T) (e : Ev) : exprLoop (sgnC n) R nest (k + 1) a ⟨(n : Int) + 1, e, false⟩ = some (a, ⟨(n : Int) + 1, e, false⟩) := by
  unfold exprLoop
  rw [hasP_end, if_neg (by simp)]
theorem bin_kk (R : Rec) (least nest : Nat) (a : T × Bool) (e : Ev) : binLoop (sgnC n) R least nest KK a ⟨(n : Int) + 1, e, false⟩ = some (a, ⟨(n : Int) + 1, e, false⟩) := by
  generalize hk : KK = kk
  obtain ⟨k, rfl⟩ : ∃ k, kk = k + 1 := ⟨kk - 1, by have : kk = 5000 := hk.symm; omega⟩
  exact bin_end R least nest k a e
theorem expr_kk (R : Rec) (nest : Nat) (a : T) (e : Ev) : exprLoop (sgnC n) R nest KK a ⟨(n : Int) + 1, e, false⟩ = some (a, ⟨(n : Int) + 1, e, false⟩) := by
  generalize hk : KK = kk
  obtain ⟨k, rfl⟩ : ∃ k, kk = k + 1 := ⟨kk - 1, by have : kk = 5000 := hk.symm; omega⟩
  exact expr_end R nest k a e
theorem sgn_expr (N : Nat) (hN : 2 * n + 6 ≤ N) : (recN (sgnC n) N).expr 0 ⟨0, .new, false⟩ = some (sgT n n 0, ⟨(n : Int) + 1, .new, false⟩) := by
  obtain ⟨M, rfl⟩ : ∃ M, N = M + 1 + 1 + 1 + 1 + 1 := ⟨N - 5, by omega⟩
  have h0 := un_any (n := n) n 0 M 3 (by omega) (by omega)
  have hk : (tokP (sgnC n) ((n : Int) + 1)).kind = 8 := by rw [sgn_end]; rfl
  have hc : (recN (sgnC n) (M + 1)).cast 3 ⟨0, .new, false⟩ = some ((sgT n n 0, true), ⟨(n : Int) + 1, .new, false⟩) := by
    show castF (sgnC n) (recN (sgnC n) M) 3 ⟨0, .new, false⟩ = _
    unfold castF
    rw [if_pos (.inr sgn_first)]
    exact (congrArg (fun o : PO T => o.bind fun n => some ((n.1, true), n.2)) h0).trans rfl
  have hb : (recN (sgnC n) (M + 1 + 1)).binary 1 3 ⟨0, .new, false⟩ = some ((sgT n n 0, true), ⟨(n : Int) + 1, .new, false⟩) := by
    show binaryF (sgnC n) (recN (sgnC n) (M + 1)) 1 3 ⟨0, .new, false⟩ = _
    unfold binaryF
    rw [hc]
    rw [Option.bind_some]
    rw [bin_kk]
  have hd : (recN (sgnC n) (M + 1 + 1 + 1)).cond 2 ⟨0, .new, false⟩ = some ((sgT n n 0, true), ⟨(n : Int) + 1, .new, false⟩) := by
    show condF (sgnC n) (recN (sgnC n) (M + 1 + 1)) 2 ⟨0, .new, false⟩ = _
    unfold condF
    rw [if_neg (by decide), hb]
    rw [Option.bind_some]
    rw [hasP_end, if_neg (by simp)]
  have ha : (recN (sgnC n) (M + 1 + 1 + 1 + 1)).assign 1 ⟨0, .new, false⟩ = some (sgT n n 0, ⟨(n : Int) + 1, .new, false⟩) := by
    show assignF (sgnC n) (recN (sgnC n) (M + 1 + 1 + 1)) 1 ⟨0, .new, false⟩ = _
    unfold assignF
    rw [if_neg (by decide), hd]
    rw [Option.bind_some]
    rw [if_pos (.inr (.inr (.inl (by rw [hk]; decide))))]
  show exprF (sgnC n) (recN (sgnC n) (M + 1 + 1 + 1 + 1)) 0 ⟨0, .new, false⟩ = _
  unfold exprF
  rw [if_neg (by decide), ha]
  rw [Option.bind_some]
  rw [expr_kk]

theorem sgn_any (hn : n ≤ 400) : ∃ o, writE (sgnT n ++ ([120] : List UInt8)) [] = some o ∧ o.length = 8 + 10 * n := by
  refine ⟨T.out (sgT n n 0), ?_, sg_len n 0 (by omega)⟩
  have hs := Pq.toks_can (sgn_good n) (sgn_mem n) (sgn_pair n)
  rw [sgn_flat, sgn_can] at hs
  refine expr_same hs.symm ?_
  unfold exprOf outOf
  have : envOf [] = .new := rfl
  rw [this, sgn_expr 1000 (by omega)]
  simp only [Option.map_some]
  rw [if_neg (by rintro (h | h); · cases h
                 · apply h; unfold sgnC; simp only [List.length_append, List.length_replicate, List.length_cons, List.length_nil]; omega)]
end
end Go.Proofs.YtllbbacnakoomaaGreatDoor
