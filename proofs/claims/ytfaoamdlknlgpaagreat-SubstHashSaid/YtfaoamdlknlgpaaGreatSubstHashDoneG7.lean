/- Texts of this seat's proofs, laid into one file. -/
import Derived.Test.YtfaoamdlknlgpaaGreatSubstHashDoneG6
import Derived.Lib.SlicesS
/- Chapter 9 in plain Lean: what stands behind define, as a definition. -/
namespace Go.Proofs.YtfaoamdlknlgpaaGreat
set_option linter.unusedVariables false

structure Tm where
  (kind : Int) (text : ByteArray) (sp : Bool) (file : ByteArray) (f t : Int) (made : Bool)
structure Mac where
  (name : ByteArray) (fn va : Bool) (params : List ByteArray) (body : List Tm) (file : ByteArray) (f t : Int)

abbrev bs (l : List UInt8) : ByteArray := ⟨l.toArray⟩
def restN : ByteArray := bs [95, 95, 86, 65, 95, 65, 82, 71, 83, 95, 95]

def isP (t : Tm) (s : ByteArray) : Bool := decide (t.kind = 5) && decide (t.text = s)
def pasteP (t : Tm) : Bool := isP t (bs [35, 35]) || isP t (bs [37, 58, 37, 58])
def hashP (t : Tm) : Bool := decide (t.kind = 5) && (decide (t.text = bs [35]) || decide (t.text = bs [37, 58]))
def fixedP (n : ByteArray) : Bool := decide (n = bs [100, 101, 102, 105, 110, 101, 100]) || decide (n = bs [95, 95, 70, 73, 76, 69, 95, 95]) || decide (n = bs [95, 95, 76, 73, 78, 69, 95, 95]) || decide (n = restN)
def ofP (fn : Bool) (ps : List ByteArray) (t : Tm) : Int := if !fn || !decide (t.kind = 1) then -1 else Lib.idxOfS ps t.text

def dotsP (t : Tm) : Bool := isP t (bs [46, 46, 46])
def parNo (ps : List ByteArray) (a : Tm) : Bool := !decide (a.kind = 1) || decide (a.text = restN) || decide (0 ≤ Lib.idxOfS ps a.text)

/-- behind the bracket, and behind each comma: the rest, are there dots, the names -/
def paramsL : List Tm → Bool → List ByteArray → Option (List Tm × Bool × List ByteArray)
  | a :: b :: r, v, ps =>
    if v then none
    else if dotsP a then
      if isP b (bs [41]) then some (r, true, ps ++ [restN]) else if isP b (bs [44]) then paramsL r true (ps ++ [restN]) else none
    else if parNo ps a then none
    else if isP b (bs [41]) then some (r, false, ps ++ [a.text]) else if isP b (bs [44]) then paramsL r false (ps ++ [a.text]) else none
  | _, _, _ => none

def paramsTop : List Tm → Option (List Tm × Bool × List ByteArray)
  | a :: r => if isP a (bs [41]) then some (r, false, []) else paramsL (a :: r) false []
  | [] => none

def badAt (fn va : Bool) (ps : List ByteArray) (body : List Tm) (i : Nat) (t : Tm) : Bool :=
  if pasteP t then decide (i = 0) || decide (i + 1 = body.length)
  else if fn && hashP t then decide (i + 1 = body.length) || (match body[i + 1]? with | some u => decide (ofP fn ps u < 0) | none => true)
  else decide (t.kind = 1) && decide (t.text = restN) && !va

def firstBad (fn va : Bool) (ps : List ByteArray) (body : List Tm) : Nat → List Tm → Option Tm
  | _, [] => none
  | i, t :: r => if badAt fn va ps body i t then some t else firstBad fn va ps body (i + 1) r

def unsp : List Tm → List Tm
  | [] => []
  | t :: r => { t with sp := false } :: r

/-- what is wrong: its code, and where -/
structure Bad where
  (code : Int) (file : ByteArray) (f t : Int)

def bodyL (m : Mac) : Mac ⊕ Bad :=
  match firstBad m.fn m.va m.params m.body 0 m.body with
  | some t => .inr ⟨5, t.file, t.f, t.t⟩
  | none => .inl m

def parseL : List Tm → Mac ⊕ Bad
  | [] => .inr ⟨4, .empty, 0, 0⟩
  | t :: rest =>
    if t.kind = 1 then
      if fixedP t.text then .inr ⟨5, t.file, t.f, t.t⟩
      else match rest with
        | p :: r =>
          if isP p (bs [40]) && !p.sp then
            match paramsTop r with
            | none => .inr ⟨5, t.file, t.f, t.t⟩
            | some (b, va, ps) => bodyL ⟨t.text, true, va, ps, unsp b, t.file, t.f, t.t⟩
          else bodyL ⟨t.text, false, false, [], unsp (p :: r), t.file, t.f, t.t⟩
        | [] => bodyL ⟨t.text, false, false, [], [], t.file, t.f, t.t⟩
    else .inr ⟨4, t.file, t.f, t.t⟩

/-- a token of a text's lines -/
def Tk.tm (file : ByteArray) (t : Tk) : Tm := ⟨t.kind, bs t.text, t.space, file, t.f, t.t, false⟩

theorem beq_text (a : ByteArray) (l : List UInt8) : (a.toList == l) = decide (a = bs l) := by
  rw [ByteArray.toList_eq]
  by_cases h : a = bs l
  · subst h; simp [bs]
  · rw [decide_eq_false h]
    apply beq_false_of_ne
    intro e
    exact h (by cases a; simp only [bs] at *; subst e; simp)
theorem beq_text2 (a b : ByteArray) : (a.toList == b.toList) = decide (a = b) := by
  rw [beq_text, ByteArray.toList_eq]
end Go.Proofs.YtfaoamdlknlgpaaGreat
