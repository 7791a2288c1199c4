/- Chapter 4, plain Lean, on: signs behind two questions; lines spliced as often as one likes. No program in sight. -/
import Derived.Test.YtboddgnojnapcaaPhSpec
namespace Go.Proofs.Ytboddgnojnapcaa

theorem all_bytes (p : UInt8 → Bool) (h : (List.range 256).all (fun n => p n.toUInt8) = true) (c : UInt8) : p c = true := by
  have := List.all_eq_true.1 h c.toNat (by simpa using c.toNat_lt)
  simpa using this

theorem signs_some {c d : UInt8} (h : tri c = some d) : charsL [120, 63, 63, c, 121] = [⟨120, 0, 1⟩, ⟨d, 1, 4⟩, ⟨121, 4, 5⟩, ⟨10, 5, 5⟩] := by
  have := all_bytes (fun c => match tri c with | some d => charsL [120, 63, 63, c, 121] == [⟨120, 0, 1⟩, ⟨d, 1, 4⟩, ⟨121, 4, 5⟩, ⟨10, 5, 5⟩] | none => true) (by decide +kernel) c
  simpa [h] using this

theorem signs_none {c : UInt8} (h : tri c = none) : ∃ r3 l, charsL [120, 63, 63, c, 121] = ⟨120, 0, 1⟩ :: ⟨63, 1, 2⟩ :: ⟨63, 2, 3⟩ :: r3 :: l ∧ l.length ≤ 10 := by
  have := all_bytes (fun c => match tri c with | none => charsL [120, 63, 63, c, 121] == [⟨120, 0, 1⟩, ⟨63, 1, 2⟩, ⟨63, 2, 3⟩, ⟨c, 3, 4⟩, ⟨121, 4, 5⟩, ⟨10, 5, 5⟩] | some _ => true) (by decide +kernel) c
  rw [h] at this
  exact ⟨_, _, by simpa using this, by decide⟩

def nineB (c : UInt8) (k : Nat) : Bool := ([61, 47, 39, 40, 41, 33, 60, 62, 45].take k).any (· == c)

theorem nine_end (c : UInt8) : nineB c 9 = (tri c).isSome := by
  have := all_bytes (fun c => nineB c 9 == (tri c).isSome) (by decide +kernel) c
  simpa using this

/-- as many splices as one likes -/
def marks (m : List UInt8) : Nat → List UInt8
  | 0 => []
  | k + 1 => m ++ marks m k

theorem marks_snoc (m : List UInt8) : ∀ k, marks m (k + 1) = marks m k ++ m
  | 0 => by simp [marks]
  | k + 1 => by
    have := marks_snoc m k
    show m ++ marks m (k + 1) = (m ++ marks m k) ++ m
    rw [this, List.append_assoc]

theorem marks_len (m : List UInt8) : ∀ k, (marks m k).length = k * m.length
  | 0 => by simp [marks]
  | k + 1 => by simp [marks, marks_len m k, Nat.add_mul]; omega

theorem plain_b (p : Nat) : plainL p [98] = [⟨98, p, p + 1⟩] := rfl

theorem spl_marks1 : ∀ (k p : Nat), splicedL (plainL p (marks [92, 10] k ++ [98])) = [⟨98, p + k * 2, p + k * 2 + 1⟩]
  | 0, p => by simp [marks, plainL, splicedL]
  | k + 1, p => by
    have ih := spl_marks1 k (p + 1 + 1)
    have : plainL p (marks [92, 10] (k + 1) ++ [98]) = ⟨92, p, p + 1⟩ :: ⟨10, p + 1, p + 1 + 1⟩ :: plainL (p + 1 + 1) (marks [92, 10] k ++ [98]) := by
      cases k with
      | zero => simp [marks, plainL]
      | succ k => simp [marks, plainL]
    rw [this, splicedL, if_pos ⟨rfl, rfl⟩, ih]
    rw [show p + 1 + 1 + k * 2 = p + (k + 1) * 2 by omega]

theorem spl_marks2 : ∀ (k p : Nat), splicedL (plainL p (marks [63, 63, 47, 10] k ++ [98])) = [⟨98, p + k * 4, p + k * 4 + 1⟩]
  | 0, p => by simp [marks, plainL, splicedL]
  | k + 1, p => by
    have ih := spl_marks2 k (p + 3 + 1)
    have : plainL p (marks [63, 63, 47, 10] (k + 1) ++ [98]) = ⟨92, p, p + 3⟩ :: ⟨10, p + 3, p + 3 + 1⟩ :: plainL (p + 3 + 1) (marks [63, 63, 47, 10] k ++ [98]) := by
      cases k with
      | zero => rfl
      | succ k => rfl
    rw [this, splicedL, if_pos ⟨rfl, rfl⟩, ih]
    rw [show p + 3 + 1 + k * 4 = p + (k + 1) * 4 by omega]

theorem chars_marks {m : List UInt8} (hm : m = [92, 10] ∨ m = [63, 63, 47, 10]) (k : Nat) :
    charsL ([97] ++ marks m k ++ [98]) = [⟨97, 0, 1⟩, ⟨98, 1 + k * m.length, 1 + k * m.length + 1⟩, ⟨10, 1 + k * m.length + 1, 1 + k * m.length + 1⟩] := by
  have hs : standL ([97] ++ marks m k ++ [98]) = [⟨97, 0, 1⟩, ⟨98, 1 + k * m.length, 1 + k * m.length + 1⟩] := by
    have e : splicedL (plainL 1 (marks m k ++ [98])) = [⟨98, 1 + k * m.length, 1 + k * m.length + 1⟩] := by
      rcases hm with rfl | rfl
      · exact spl_marks1 k 1
      · exact spl_marks2 k 1
    unfold standL
    have h1 : plainL 0 ([97] ++ marks m k ++ [98]) = ⟨97, 0, 1⟩ :: plainL 1 (marks m k ++ [98]) := by
      rw [List.append_assoc]
      match hq : marks m k ++ [98] with
      | [] => simp at hq
      | [x] => simp [plainL]
      | x :: y :: l => simp [plainL]
    rw [h1]
    match hq : plainL 1 (marks m k ++ [98]) with
    | [] => rw [hq] at e; simp [splicedL] at e
    | y :: l =>
      rw [hq] at e
      rw [splicedL, if_neg (by simp), e]
  have hlen : ([97] ++ marks m k ++ [98]).length = 1 + k * m.length + 1 := by simp [marks_len]; omega
  unfold charsL
  rw [if_pos ⟨by simp, .inr (by rw [hs]; simp)⟩, hs, hlen]
  rfl

end Go.Proofs.Ytboddgnojnapcaa
