/- Texts of this seat's proofs, laid into one file. -/
import Derived.Test.YtllbbacnakoomaaGreatDoorS1
set_option maxRecDepth 100000
set_option maxHeartbeats 16000000
namespace Go.Proofs.YtllbbacnakoomaaGreatDoor
set_option linter.unusedVariables false
structure Ct where
 (kind : Int) (text file : ByteArray) (f t fro cnt : Int)
inductive Ev where
 | new
 | push (e : Ev)
 | decl (e : Ev) (name : ByteArray) (is : Bool)
namespace Ev
def depth : Ev → Nat | .new => 1 | .push e => e.depth + 1 | .decl e _ _ => e.depth
def find (x : ByteArray) : Ev → Option Bool
 | .new => none
 | .push e => e.find x
 | .decl e n b => if n = x ∧ x.size ≠ 0 then some b else e.find x
def isType (e : Ev) (x : ByteArray) : Bool := (e.find x).getD false
def known (e : Ev) (x : ByteArray) : Bool := (e.find x).isSome
def outside : Ev → Option Ev | .new => none | .push e => some e | .decl e _ _ => e.outside
end Ev
structure Ps where
 (at_ : Int) (env : Ev) (bad : Bool)
namespace Ps
def up (s : Ps) (n : Int) : Ps := { s with at_ := s.at_ + n }
def fail (s : Ps) : Ps := { s with bad := true }
def deep (s : Ps) (nest : Nat) : Bool := s.bad || decide (200 ≤ nest)
def into (s : Ps) (e : Ev) : Ps := { s with env := e }
def declare (s : Ps) (name : ByteArray) (is : Bool) : Ps := if name.size ≠ 0 ∧ s.bad = false then s.into (.decl s.env name is) else s
end Ps
abbrev PO (α : Type) := Option (α × Ps)
def eB : ByteArray := ⟨#[]⟩
def zT : T := .mk ⟨#[]⟩ ⟨#[]⟩ 0 0 []
def endT : Ct := ⟨8, ⟨#[]⟩, ⟨#[]⟩, 0,0,0,0⟩
def tokP (L : List Ct) (i : Int) : Ct := if 0 ≤ i then L[i.toNat]?.getD endT else endT
def isT (t : Ct) (x : ByteArray) : Bool := decide (t.kind = 7) && decide (t.text = x)
def isP (L : List Ct) (s : Ps) (x : ByteArray) : Bool := isT (tokP L s.at_) x
def behP (L : List Ct) (s : Ps) (x : ByteArray) : Bool := isT (tokP L (s.at_ + 1)) x
def hasP (L : List Ct) (s : Ps) (x : ByteArray) : Bool := !s.bad && isP L s x
def needP (L : List Ct) (s : Ps) (x : ByteArray) : Ps := if hasP L s x then s.up 1 else s.fail
def wordP (L : List Ct) (s : Ps) (x : ByteArray) : Bool := decide ((tokP L s.at_).kind = 2) && decide ((tokP L s.at_).text = x)
def hasW (L : List Ct) (s : Ps) (x : ByteArray) : Bool := !s.bad && wordP L s x
def leafP (L : List Ct) (s : Ps) (kind : ByteArray) : T := .mk kind (tokP L s.at_).text s.at_ (s.at_ + 1) []
def identP (L : List Ct) (s : Ps) (kind : ByteArray) : T × Ps := if s.bad = true ∨ (tokP L s.at_).kind ≠ 1 then (zT, s.fail) else (leafP L s kind, s.up 1)
def mkP (kind text : ByteArray) (fro : Int) (s : Ps) (kids : List T) : T := .mk kind text fro s.at_ kids
def kindRows : List (ByteArray × List ByteArray) := [
 ((⟨#[115,116,111,114,97,103,101]⟩ : ByteArray), [(⟨#[116,121,112,101,100,101,102]⟩ : ByteArray), (⟨#[101,120,116,101,114,110]⟩ : ByteArray), (⟨#[115,116,97,116,105,99]⟩ : ByteArray), (⟨#[97,117,116,111]⟩ : ByteArray), (⟨#[114,101,103,105,115,116,101,114]⟩ : ByteArray), (⟨#[95,84,104,114,101,97,100,95,108,111,99,97,108]⟩ : ByteArray)]),
 ((⟨#[102,117,110,99,116,105,111,110]⟩ : ByteArray), [(⟨#[105,110,108,105,110,101]⟩ : ByteArray), (⟨#[95,78,111,114,101,116,117,114,110]⟩ : ByteArray)]),
 ((⟨#[113,117,97,108,105,102,105,101,114]⟩ : ByteArray), [(⟨#[99,111,110,115,116]⟩ : ByteArray), (⟨#[118,111,108,97,116,105,108,101]⟩ : ByteArray), (⟨#[114,101,115,116,114,105,99,116]⟩ : ByteArray), (⟨#[95,65,116,111,109,105,99]⟩ : ByteArray)]),
 ((⟨#[116,121,112,101]⟩ : ByteArray), [(⟨#[118,111,105,100]⟩ : ByteArray), (⟨#[99,104,97,114]⟩ : ByteArray), (⟨#[115,104,111,114,116]⟩ : ByteArray), (⟨#[105,110,116]⟩ : ByteArray), (⟨#[108,111,110,103]⟩ : ByteArray), (⟨#[102,108,111,97,116]⟩ : ByteArray), (⟨#[100,111,117,98,108,101]⟩ : ByteArray), (⟨#[115,105,103,110,101,100]⟩ : ByteArray), (⟨#[117,110,115,105,103,110,101,100]⟩ : ByteArray), (⟨#[95,66,111,111,108]⟩ : ByteArray), (⟨#[95,67,111,109,112,108,101,120]⟩ : ByteArray), (⟨#[95,73,109,97,103,105,110,97,114,121]⟩ : ByteArray)]),
 ((⟨#[97,108,105,103,110,97,115]⟩ : ByteArray), [(⟨#[95,65,108,105,103,110,97,115]⟩ : ByteArray)]), ((⟨#[115,116,114,117,99,116]⟩ : ByteArray), [(⟨#[115,116,114,117,99,116]⟩ : ByteArray)]), ((⟨#[117,110,105,111,110]⟩ : ByteArray), [(⟨#[117,110,105,111,110]⟩ : ByteArray)]), ((⟨#[101,110,117,109]⟩ : ByteArray), [(⟨#[101,110,117,109]⟩ : ByteArray)])]
def kindOf (w : ByteArray) : ByteArray := ((kindRows.find? fun r => r.2.any fun x => decide (x = w)).map (·.1)).getD ⟨#[]⟩
def typedP (e : Ev) (t : Ct) : Bool := decide (t.kind = 1) && e.isType t.text
def beginsP (e : Ev) (t : Ct) : Bool := if t.kind = 2 then decide ((kindOf t.text).size ≠ 0) else typedP e t
def startsP (L : List Ct) (s : Ps) : Bool := beginsP s.env (tokP L s.at_)
def assignsL : List ByteArray := [(⟨#[61]⟩ : ByteArray), (⟨#[42,61]⟩ : ByteArray), (⟨#[47,61]⟩ : ByteArray), (⟨#[37,61]⟩ : ByteArray), (⟨#[43,61]⟩ : ByteArray), (⟨#[45,61]⟩ : ByteArray), (⟨#[60,60,61]⟩ : ByteArray), (⟨#[62,62,61]⟩ : ByteArray), (⟨#[38,61]⟩ : ByteArray), (⟨#[94,61]⟩ : ByteArray), (⟨#[124,61]⟩ : ByteArray)]
def levelRows : List (List ByteArray) := [[(⟨#[124,124]⟩ : ByteArray)], [(⟨#[38,38]⟩ : ByteArray)], [(⟨#[124]⟩ : ByteArray)], [(⟨#[94]⟩ : ByteArray)], [(⟨#[38]⟩ : ByteArray)], [(⟨#[61,61]⟩ : ByteArray), (⟨#[33,61]⟩ : ByteArray)], [(⟨#[60]⟩ : ByteArray), (⟨#[62]⟩ : ByteArray), (⟨#[60,61]⟩ : ByteArray), (⟨#[62,61]⟩ : ByteArray)], [(⟨#[60,60]⟩ : ByteArray), (⟨#[62,62]⟩ : ByteArray)], [(⟨#[43]⟩ : ByteArray), (⟨#[45]⟩ : ByteArray)], [(⟨#[42]⟩ : ByteArray), (⟨#[47]⟩ : ByteArray), (⟨#[37]⟩ : ByteArray)]]
def levelT (t : Ct) : Nat := if t.kind = 7 then ((levelRows.findIdx? fun r => r.any fun x => decide (x = t.text)).map (· + 1)).getD 0 else 0
mutual
def nameT : T → ByteArray
 | .mk k t _ _ ks => if k = (⟨#[110,97,109,101]⟩ : ByteArray) then t else namesT ks
def namesT : List T → ByteArray
 | [] => ⟨#[]⟩
 | x :: r => if x.kind = (⟨#[113,117,97,108,105,102,105,101,114]⟩ : ByteArray) then namesT r else nameT x
end
def isTypedefT (specs : T) : Bool := specs.kids.any fun k => decide (k.kind = (⟨#[115,116,111,114,97,103,101]⟩ : ByteArray)) && decide (k.text = (⟨#[116,121,112,101,100,101,102]⟩ : ByteArray))
structure Rec where
 expr : Nat → Ps → PO T
 assign : Nat → Ps → PO T
 cond : Nat → Ps → PO (T × Bool)
 binary : Nat → Nat → Ps → PO (T × Bool)
 cast : Nat → Ps → PO (T × Bool)
 unary : Nat → Ps → PO T
 init : Nat → Ps → PO T
 typeName : Nat → Ps → PO T
 specs : Nat → Bool → Ps → PO T
 declr : Nat → Nat → Ps → PO T
 pointer : Nat → Nat → Ps → PO T
 declaration : Nat → Ps → PO T
 stmt : Nat → Ps → PO T
 block : Nat → Ps → PO T
def KK : Nat := 5000
section
variable (L : List Ct) (R : Rec)
def exprLoop (nest : Nat) : Nat → T → Ps → PO T
 | 0, _, _ => none
 | k + 1, n, s => if hasP L s (⟨#[44]⟩ : ByteArray) then (R.assign (nest + 1) (s.up 1)).bind fun b => exprLoop nest k (mkP (⟨#[99,111,109,109,97]⟩ : ByteArray) eB n.from_ b.2 [n, b.1]) b.2 else some (n, s)
def exprF (nest : Nat) (s : Ps) : PO T :=
 if s.deep nest then some (zT, s.fail) else (R.assign (nest + 1) s).bind fun r => exprLoop L R nest KK r.1 r.2
def assignF (nest : Nat) (s : Ps) : PO T :=
 if s.deep nest then some (zT, s.fail) else (R.cond (nest + 1) s).bind fun r =>
  if r.2.bad = true ∨ r.1.2 = false ∨ (tokP L r.2.at_).kind ≠ 7 ∨ (assignsL.any fun x => decide (x = (tokP L r.2.at_).text)) = false then some (r.1.1, r.2)
  else (R.assign (nest + 1) (r.2.up 1)).bind fun q => some (mkP (⟨#[97,115,115,105,103,110]⟩ : ByteArray) (tokP L r.2.at_).text r.1.1.from_ q.2 [r.1.1, q.1], q.2)
def condF (nest : Nat) (s : Ps) : PO (T × Bool) :=
 if s.deep nest then some ((zT, false), s.fail) else (R.binary 1 (nest + 1) s).bind fun r =>
  if hasP L r.2 (⟨#[63]⟩ : ByteArray) then (R.expr (nest + 1) (r.2.up 1)).bind fun a => (R.cond (nest + 1) (needP L a.2 (⟨#[58]⟩ : ByteArray))).bind fun b => some ((mkP (⟨#[99,111,110,100]⟩ : ByteArray) eB r.1.1.from_ b.2 [r.1.1, a.1, b.1.1], false), b.2)
  else some r
def binLoop (least nest : Nat) : Nat → T × Bool → Ps → PO (T × Bool)
 | 0, _, _ => none
 | k + 1, a, s =>
   if s.bad = true ∨ levelT (tokP L s.at_) = 0 ∨ levelT (tokP L s.at_) < least then some (a, s)
   else (R.binary (levelT (tokP L s.at_) + 1) nest (s.up 1)).bind fun b => binLoop least nest k (mkP (⟨#[98,105,110,97,114,121]⟩ : ByteArray) (tokP L s.at_).text a.1.from_ b.2 [a.1, b.1.1], false) b.2
def binaryF (least nest : Nat) (s : Ps) : PO (T × Bool) := (R.cast nest s).bind fun r => binLoop L R least nest KK r.1 r.2
def bracketedP (s : Ps) : Bool := isP L s (⟨#[40]⟩ : ByteArray) && beginsP s.env (tokP L (s.at_ + 1))
def inBrF (nest : Nat) (s : Ps) : PO T := (R.typeName nest (needP L s (⟨#[40]⟩ : ByteArray))).bind fun r => some (r.1, needP L r.2 (⟨#[41]⟩ : ByteArray))
def argsLoop (nest : Nat) : Nat → List T → Ps → PO (List T)
 | 0, _, _ => none
 | k + 1, ks, s => if hasP L s (⟨#[44]⟩ : ByteArray) then (R.assign nest (s.up 1)).bind fun a => argsLoop nest k (ks ++ [a.1]) a.2 else some (ks, s)
def callF (f : T) (nest : Nat) (s : Ps) : PO T :=
 if hasP L s (⟨#[41]⟩ : ByteArray) then some (mkP (⟨#[99,97,108,108]⟩ : ByteArray) eB f.from_ (s.up 1) [f], s.up 1)
 else (R.assign nest s).bind fun a => (argsLoop L R nest KK [f, a.1] a.2).bind fun ks => some (mkP (⟨#[99,97,108,108]⟩ : ByteArray) eB f.from_ (needP L ks.2 (⟨#[41]⟩ : ByteArray)) ks.1, needP L ks.2 (⟨#[41]⟩ : ByteArray))
def postLoop (nest : Nat) : Nat → T → Ps → PO T
 | 0, _, _ => none
 | k + 1, n, s =>
   if s.bad = true then some (n, s)
   else if isP L s (⟨#[91]⟩ : ByteArray) then (R.expr nest (s.up 1)).bind fun b => postLoop nest k (mkP (⟨#[105,110,100,101,120]⟩ : ByteArray) eB n.from_ (needP L b.2 (⟨#[93]⟩ : ByteArray)) [n, b.1]) (needP L b.2 (⟨#[93]⟩ : ByteArray))
   else if isP L s (⟨#[40]⟩ : ByteArray) then (callF L R n nest (s.up 1)).bind fun c => postLoop nest k c.1 c.2
   else if isP L s (⟨#[46]⟩ : ByteArray) || isP L s (⟨#[45,62]⟩ : ByteArray) then postLoop nest k (mkP (⟨#[109,101,109,98,101,114]⟩ : ByteArray) ((tokP L s.at_).text ++ (identP L (s.up 1) eB).1.text) n.from_ (identP L (s.up 1) eB).2 [n]) (identP L (s.up 1) eB).2
   else if isP L s (⟨#[43,43]⟩ : ByteArray) || isP L s (⟨#[45,45]⟩ : ByteArray) then postLoop nest k (mkP (⟨#[112,111,115,116]⟩ : ByteArray) (tokP L s.at_).text n.from_ (s.up 1) [n]) (s.up 1)
   else some (n, s)
def postF (n : T) (nest : Nat) (s : Ps) : PO T := postLoop L R nest KK n s
def literalF (fro : Int) (t : T) (nest : Nat) (s : Ps) : PO T :=
 (R.init nest (if isP L s (⟨#[123]⟩ : ByteArray) then s else s.fail)).bind fun i => postF L R (mkP (⟨#[108,105,116,101,114,97,108]⟩ : ByteArray) eB fro i.2 [t, i.1]) nest i.2
def castF (nest : Nat) (s : Ps) : PO (T × Bool) :=
 if s.bad = true ∨ bracketedP L s = false then (R.unary nest s).bind fun n => some ((n.1, true), n.2)
 else (inBrF L R nest s).bind fun t =>
  if t.2.bad = true ∨ isP L t.2 (⟨#[123]⟩ : ByteArray) = true then (literalF L R s.at_ t.1 nest t.2).bind fun n => some ((n.1, true), n.2)
  else (R.cast nest t.2).bind fun e => some ((mkP (⟨#[99,97,115,116]⟩ : ByteArray) eB s.at_ e.2 [t.1, e.1.1], false), e.2)
def sizeF (fro : Int) (nest : Nat) (s : Ps) : PO T :=
 if bracketedP L s = false then (R.unary nest s).bind fun e => some (mkP (⟨#[115,105,122,101,111,102]⟩ : ByteArray) eB fro e.2 [e.1], e.2)
 else (inBrF L R nest s).bind fun e =>
  if e.2.bad = true ∨ isP L e.2 (⟨#[123]⟩ : ByteArray) = false then some (mkP (⟨#[115,105,122,101,111,102,116,121,112,101]⟩ : ByteArray) eB fro e.2 [e.1], e.2)
  else (literalF L R s.at_ e.1 nest e.2).bind fun l => some (mkP (⟨#[115,105,122,101,111,102]⟩ : ByteArray) eB fro l.2 [l.1], l.2)
def genNext (nest : Nat) (s : Ps) : PO T :=
 if hasW L s (⟨#[100,101,102,97,117,108,116]⟩ : ByteArray) then (R.assign nest (needP L (s.up 1) (⟨#[58]⟩ : ByteArray))).bind fun a => some (mkP (⟨#[100,101,102,97,117,108,116]⟩ : ByteArray) eB s.at_ a.2 [a.1], a.2)
 else (R.typeName nest s).bind fun t => (R.assign nest (needP L t.2 (⟨#[58]⟩ : ByteArray))).bind fun a => some (mkP (⟨#[97,115,115,111,99]⟩ : ByteArray) eB s.at_ a.2 [t.1, a.1], a.2)
def genLoop (nest : Nat) : Nat → List T → Ps → PO (List T)
 | 0, _, _ => none
 | k + 1, ks, s => (genNext L R nest s).bind fun a => if hasP L a.2 (⟨#[44]⟩ : ByteArray) then genLoop nest k (ks ++ [a.1]) (a.2.up 1) else some (ks ++ [a.1], a.2)
def genericF (fro : Int) (nest : Nat) (s : Ps) : PO T :=
 (R.assign nest (needP L s (⟨#[40]⟩ : ByteArray))).bind fun a => (genLoop L R nest KK [a.1] (needP L a.2 (⟨#[44]⟩ : ByteArray))).bind fun ks => some (mkP (⟨#[103,101,110,101,114,105,99]⟩ : ByteArray) eB fro (needP L ks.2 (⟨#[41]⟩ : ByteArray)) ks.1, needP L ks.2 (⟨#[41]⟩ : ByteArray))
def primaryF (nest : Nat) (s : Ps) : PO T :=
 if (tokP L s.at_).kind = 1 ∧ s.env.isType (tokP L s.at_).text = false then some (leafP L s (⟨#[110,97,109,101]⟩ : ByteArray), s.up 1)
 else if (tokP L s.at_).kind = 3 then some (leafP L s (⟨#[105,110,116]⟩ : ByteArray), s.up 1)
 else if (tokP L s.at_).kind = 4 then some (leafP L s (⟨#[102,108,111,97,116]⟩ : ByteArray), s.up 1)
 else if (tokP L s.at_).kind = 5 then some (leafP L s (⟨#[99,104,97,114]⟩ : ByteArray), s.up 1)
 else if (tokP L s.at_).kind = 6 then some (leafP L s (⟨#[115,116,114,105,110,103]⟩ : ByteArray), s.up 1)
 else if hasW L s (⟨#[95,71,101,110,101,114,105,99]⟩ : ByteArray) then genericF L R s.at_ nest (s.up 1)
 else if hasP L s (⟨#[40]⟩ : ByteArray) then (R.expr nest (s.up 1)).bind fun e => some (.mk e.1.kind e.1.text s.at_ (needP L e.2 (⟨#[41]⟩ : ByteArray)).at_ e.1.kids, needP L e.2 (⟨#[41]⟩ : ByteArray))
 else some (zT, s.fail)
def unaryF (nest : Nat) (s : Ps) : PO T :=
 if s.bad = true then some (zT, s)
 else if isP L s (⟨#[43,43]⟩ : ByteArray) || isP L s (⟨#[45,45]⟩ : ByteArray) then (R.unary nest (s.up 1)).bind fun e => some (mkP (⟨#[112,114,101]⟩ : ByteArray) (tokP L s.at_).text s.at_ e.2 [e.1], e.2)
 else if isP L s (⟨#[38]⟩ : ByteArray) || isP L s (⟨#[42]⟩ : ByteArray) || isP L s (⟨#[43]⟩ : ByteArray) || isP L s (⟨#[45]⟩ : ByteArray) || isP L s (⟨#[126]⟩ : ByteArray) || isP L s (⟨#[33]⟩ : ByteArray) then (R.cast nest (s.up 1)).bind fun e => some (mkP (⟨#[117,110,97,114,121]⟩ : ByteArray) (tokP L s.at_).text s.at_ e.2 [e.1.1], e.2)
 else if wordP L s (⟨#[115,105,122,101,111,102]⟩ : ByteArray) then sizeF L R s.at_ nest (s.up 1)
 else if wordP L s (⟨#[95,65,108,105,103,110,111,102]⟩ : ByteArray) then (inBrF L R nest (s.up 1)).bind fun e => some (mkP (⟨#[97,108,105,103,110,111,102]⟩ : ByteArray) eB s.at_ e.2 [e.1], e.2)
 else if bracketedP L s then (inBrF L R nest s).bind fun e => literalF L R s.at_ e.1 nest e.2
 else (primaryF L R nest s).bind fun p => postF L R p.1 nest p.2
def elLoop (nest : Nat) (fro : Int) : Nat → List T → Ps → PO T
 | 0, _, _ => none
 | k + 1, ks, s =>
   if hasP L s (⟨#[91]⟩ : ByteArray) then (R.cond nest (s.up 1)).bind fun c => elLoop nest fro k (ks ++ [mkP (⟨#[105,110,100,101,120]⟩ : ByteArray) eB s.at_ (needP L c.2 (⟨#[93]⟩ : ByteArray)) [c.1.1]]) (needP L c.2 (⟨#[93]⟩ : ByteArray))
   else if hasP L s (⟨#[46]⟩ : ByteArray) then elLoop nest fro k (ks ++ [mkP (⟨#[102,105,101,108,100]⟩ : ByteArray) (identP L (s.up 1) eB).1.text s.at_ (identP L (s.up 1) eB).2 []]) (identP L (s.up 1) eB).2
   else if ks.length = 0 then R.init nest s
   else (R.init nest (needP L s (⟨#[61]⟩ : ByteArray))).bind fun i => some (mkP (⟨#[97,116]⟩ : ByteArray) eB fro i.2 (ks ++ [i.1]), i.2)
def elementF (nest : Nat) (s : Ps) : PO T := elLoop L R nest s.at_ KK [] s
def initLoop (nest : Nat) : Nat → List T → Ps → PO (List T)
 | 0, _, _ => none
 | k + 1, ks, s =>
   if hasP L s (⟨#[44]⟩ : ByteArray) then if isP L (s.up 1) (⟨#[125]⟩ : ByteArray) then some (ks, s.up 1) else (elementF L R (nest + 1) (s.up 1)).bind fun e => initLoop nest k (ks ++ [e.1]) e.2
   else some (ks, s)
def initF (nest : Nat) (s : Ps) : PO T :=
 if s.deep nest then some (zT, s.fail)
 else if hasP L s (⟨#[123]⟩ : ByteArray) then (elementF L R (nest + 1) (s.up 1)).bind fun e => (initLoop L R nest KK [e.1] e.2).bind fun ks => some (mkP (⟨#[105,110,105,116,115]⟩ : ByteArray) eB s.at_ (needP L ks.2 (⟨#[125]⟩ : ByteArray)) ks.1, needP L ks.2 (⟨#[125]⟩ : ByteArray))
 else R.assign (nest + 1) s
def alignF (fro : Int) (nest : Nat) (s : Ps) : PO T :=
 (if startsP L (needP L s (⟨#[40]⟩ : ByteArray)) then R.typeName nest (needP L s (⟨#[40]⟩ : ByteArray)) else (R.cond nest (needP L s (⟨#[40]⟩ : ByteArray))).bind fun c => some (c.1.1, c.2)).bind fun n =>
  some (mkP (⟨#[97,108,105,103,110,97,115]⟩ : ByteArray) eB fro (needP L n.2 (⟨#[41]⟩ : ByteArray)) [n.1], needP L n.2 (⟨#[41]⟩ : ByteArray))
def namedP (s : Ps) : ByteArray × Ps := if (tokP L s.at_).kind = 1 then ((tokP L s.at_).text, s.up 1) else (⟨#[]⟩, s)
def assertionF (nest : Nat) (s : Ps) : PO T :=
 (R.cond nest (needP L (s.up 1) (⟨#[40]⟩ : ByteArray))).bind fun c =>
  if (needP L c.2 (⟨#[44]⟩ : ByteArray)).bad = true ∨ (tokP L (needP L c.2 (⟨#[44]⟩ : ByteArray)).at_).kind ≠ 6 then some (zT, (needP L c.2 (⟨#[44]⟩ : ByteArray)).fail)
  else some (mkP (⟨#[97,115,115,101,114,116]⟩ : ByteArray) eB s.at_ (needP L (needP L ((needP L c.2 (⟨#[44]⟩ : ByteArray)).up 1) (⟨#[41]⟩ : ByteArray)) (⟨#[59]⟩ : ByteArray)) [c.1.1, leafP L (needP L c.2 (⟨#[44]⟩ : ByteArray)) (⟨#[115,116,114,105,110,103]⟩ : ByteArray)], needP L (needP L ((needP L c.2 (⟨#[44]⟩ : ByteArray)).up 1) (⟨#[41]⟩ : ByteArray)) (⟨#[59]⟩ : ByteArray))
def bitsF (nest : Nat) (s : Ps) : PO T :=
 if isP L s (⟨#[58]⟩ : ByteArray) then (if s.bad = true then none else (R.cond nest (s.up 1)).bind fun c => some (mkP (⟨#[98,105,116,115]⟩ : ByteArray) eB s.at_ c.2 [c.1.1], c.2))
 else (R.declr nest 0 s).bind fun d => if hasP L d.2 (⟨#[58]⟩ : ByteArray) then (R.cond nest (d.2.up 1)).bind fun c => some (mkP (⟨#[98,105,116,115]⟩ : ByteArray) eB s.at_ c.2 [d.1, c.1.1], c.2) else some d
def bitsLoop (nest : Nat) : Nat → List T → Ps → PO (List T)
 | 0, _, _ => none
 | k + 1, ks, s => if hasP L s (⟨#[44]⟩ : ByteArray) then (bitsF L R nest (s.up 1)).bind fun a => bitsLoop nest k (ks ++ [a.1]) a.2 else some (ks, s)
def memberR (nest : Nat) (s : Ps) : PO T :=
 (R.specs nest true s).bind fun sp =>
  (if sp.2.bad = true ∨ isP L sp.2 (⟨#[59]⟩ : ByteArray) = true then some ([sp.1], sp.2) else (bitsF L R nest sp.2).bind fun b => bitsLoop L R nest KK [sp.1, b.1] b.2).bind fun ks =>
   some (mkP (⟨#[109,101,109,98,101,114]⟩ : ByteArray) eB s.at_ (needP L ks.2 (⟨#[59]⟩ : ByteArray)) ks.1, needP L ks.2 (⟨#[59]⟩ : ByteArray))
def memberF (nest : Nat) (s : Ps) : PO T :=
 if wordP L s (⟨#[95,83,116,97,116,105,99,95,97,115,115,101,114,116]⟩ : ByteArray) then (if s.deep nest then memberR L R nest s.fail else assertionF L R (nest + 1) s) else memberR L R nest s
def memLoop (nest : Nat) : Nat → List T → Ps → PO (List T)
 | 0, _, _ => none
 | k + 1, ks, s => if s.bad = true ∨ isP L s (⟨#[125]⟩ : ByteArray) = true then some (ks, s) else (memberF L R nest s).bind fun m => memLoop nest k (ks ++ [m.1]) m.2
def membersF (kind : ByteArray) (fro : Int) (nest : Nat) (s : Ps) : PO T :=
 if hasP L (namedP L s).2 (⟨#[123]⟩ : ByteArray) then (memberF L R nest ((namedP L s).2.up 1)).bind fun m => (memLoop L R nest KK [m.1] m.2).bind fun ks =>
  some (mkP kind (namedP L s).1 fro (needP L ks.2 (⟨#[125]⟩ : ByteArray)) ks.1, needP L ks.2 (⟨#[125]⟩ : ByteArray))
 else if (namedP L s).1.size = 0 then some (mkP kind (namedP L s).1 fro (namedP L s).2.fail [], (namedP L s).2.fail)
 else some (mkP kind (namedP L s).1 fro (namedP L s).2 [], (namedP L s).2)
def enumeratorF (nest : Nat) (s : Ps) : PO T :=
 if hasP L ((identP L s eB).2.declare (identP L s eB).1.text false) (⟨#[61]⟩ : ByteArray) then
  (R.cond nest (((identP L s eB).2.declare (identP L s eB).1.text false).up 1)).bind fun c => some (mkP (⟨#[101,110,117,109,101,114,97,116,111,114]⟩ : ByteArray) (identP L s eB).1.text s.at_ c.2 [c.1.1], c.2)
 else some (mkP (⟨#[101,110,117,109,101,114,97,116,111,114]⟩ : ByteArray) (identP L s eB).1.text s.at_ ((identP L s eB).2.declare (identP L s eB).1.text false) [], (identP L s eB).2.declare (identP L s eB).1.text false)
def enumLoop (nest : Nat) : Nat → List T → Ps → PO (List T)
 | 0, _, _ => none
 | k + 1, ks, s =>
   if hasP L s (⟨#[44]⟩ : ByteArray) then if isP L (s.up 1) (⟨#[125]⟩ : ByteArray) then some (ks, s.up 1) else (enumeratorF L R nest (s.up 1)).bind fun e => enumLoop nest k (ks ++ [e.1]) e.2
   else some (ks, s)
def namesF (fro : Int) (nest : Nat) (s : Ps) : PO T :=
 if hasP L (namedP L s).2 (⟨#[123]⟩ : ByteArray) then (enumeratorF L R nest ((namedP L s).2.up 1)).bind fun m => (enumLoop L R nest KK [m.1] m.2).bind fun ks =>
  some (mkP (⟨#[101,110,117,109]⟩ : ByteArray) (namedP L s).1 fro (needP L ks.2 (⟨#[125]⟩ : ByteArray)) ks.1, needP L ks.2 (⟨#[125]⟩ : ByteArray))
 else if (namedP L s).1.size = 0 then some (mkP (⟨#[101,110,117,109]⟩ : ByteArray) (namedP L s).1 fro (namedP L s).2.fail [], (namedP L s).2.fail)
 else some (mkP (⟨#[101,110,117,109]⟩ : ByteArray) (namedP L s).1 fro (namedP L s).2 [], (namedP L s).2)
def oneF (nest : Nat) (plain typed : Bool) (s : Ps) : PO (T × Bool × Bool) :=
 if typedP s.env (tokP L s.at_) = true ∧ typed = false then some ((leafP L s (⟨#[116,121,112,101,110,97,109,101]⟩ : ByteArray), true, true), s.up 1)
 else if (tokP L s.at_).kind ≠ 2 then some ((zT, false, typed), s)
 else if kindOf (tokP L s.at_).text = (⟨#[115,116,111,114,97,103,101]⟩ : ByteArray) ∨ kindOf (tokP L s.at_).text = (⟨#[102,117,110,99,116,105,111,110]⟩ : ByteArray) then
  (if plain then some ((zT, false, typed), s.fail) else some ((leafP L s (kindOf (tokP L s.at_).text), true, typed), s.up 1))
 else if kindOf (tokP L s.at_).text = (⟨#[116,121,112,101]⟩ : ByteArray) then some ((leafP L s (⟨#[116,121,112,101]⟩ : ByteArray), true, true), s.up 1)
 else if kindOf (tokP L s.at_).text = (⟨#[97,108,105,103,110,97,115]⟩ : ByteArray) then (alignF L R s.at_ nest (s.up 1)).bind fun n => some ((n.1, true, typed), n.2)
 else if kindOf (tokP L s.at_).text = (⟨#[115,116,114,117,99,116]⟩ : ByteArray) ∨ kindOf (tokP L s.at_).text = (⟨#[117,110,105,111,110]⟩ : ByteArray) then (membersF L R (kindOf (tokP L s.at_).text) s.at_ nest (s.up 1)).bind fun n => some ((n.1, true, true), n.2)
 else if kindOf (tokP L s.at_).text = (⟨#[101,110,117,109]⟩ : ByteArray) then (namesF L R s.at_ nest (s.up 1)).bind fun n => some ((n.1, true, true), n.2)
 else if kindOf (tokP L s.at_).text = (⟨#[113,117,97,108,105,102,105,101,114]⟩ : ByteArray) then
  (if (tokP L s.at_).text = (⟨#[95,65,116,111,109,105,99]⟩ : ByteArray) ∧ behP L s (⟨#[40]⟩ : ByteArray) = true then (inBrF L R nest (s.up 1)).bind fun x => some ((mkP (⟨#[97,116,111,109,105,99]⟩ : ByteArray) eB s.at_ x.2 [x.1], true, true), x.2)
   else some ((leafP L s (⟨#[113,117,97,108,105,102,105,101,114]⟩ : ByteArray), true, typed), s.up 1))
 else some ((zT, false, typed), s)
def spLoop (nest : Nat) (plain : Bool) : Nat → List T → Bool → Ps → PO (List T)
 | 0, _, _, _ => none
 | k + 1, ks, typed, s =>
   if s.deep nest then some (ks, s.fail)
   else (oneF L R (nest + 1) plain typed s).bind fun o => if o.1.2.1 then spLoop nest plain k (ks ++ [o.1.1]) o.1.2.2 o.2 else some (ks, o.2)
def specsF (nest : Nat) (plain : Bool) (s : Ps) : PO T :=
 (spLoop L R nest plain KK [] false s).bind fun ks => if ks.1.length = 0 then some (mkP (⟨#[115,112,101,99,115]⟩ : ByteArray) eB s.at_ ks.2.fail ks.1, ks.2.fail) else some (mkP (⟨#[115,112,101,99,115]⟩ : ByteArray) eB s.at_ ks.2 ks.1, ks.2)
def typeNameF (nest : Nat) (s : Ps) : PO T :=
 if s.deep nest then some (zT, s.fail)
 else (R.specs (nest + 1) true s).bind fun a => (R.declr (nest + 1) 1 a.2).bind fun d => some (mkP (⟨#[116,121,112,101,110,97,109,101]⟩ : ByteArray) eB s.at_ d.2 [a.1, d.1], d.2)
def declrF (nest mode : Nat) (s : Ps) : PO T := if s.deep nest then some (zT, s.fail) else R.pointer (nest + 1) mode s
def qualB (t : Ct) : Bool := decide (t.kind = 2) && decide (kindOf t.text = (⟨#[113,117,97,108,105,102,105,101,114]⟩ : ByteArray))
def qualLoop : Nat → List T → Ps → PO (List T)
 | 0, _, _ => none
 | k + 1, ks, s => if qualB (tokP L s.at_) then qualLoop k (ks ++ [leafP L s (⟨#[113,117,97,108,105,102,105,101,114]⟩ : ByteArray)]) (s.up 1) else some (ks, s)
def qualsF (s : Ps) : PO (List T) := qualLoop L KK [] s
def staticLoop : Nat → Ps → Option Ps
 | 0, _ => none
 | k + 1, s => if hasW L s (⟨#[115,116,97,116,105,99]⟩ : ByteArray) then staticLoop k (s.up 1) else (qualsF L s).bind fun q => if q.1.length = 0 then some q.2 else staticLoop k q.2
def arrayF (d : T) (nest : Nat) (s0 : Ps) : PO T :=
 (staticLoop L KK s0).bind fun s =>
  (if isP L s (⟨#[42]⟩ : ByteArray) = true ∧ behP L s (⟨#[93]⟩ : ByteArray) = true then some ([d, T.mk (⟨#[115,116,97,114]⟩ : ByteArray) eB s.at_ (s.at_ + 1) []], s.up 1)
   else if isP L s (⟨#[93]⟩ : ByteArray) then some ([d], s)
   else (R.assign nest s).bind fun a => some ([d, a.1], a.2)).bind fun ks => some (mkP (⟨#[97,114,114,97,121]⟩ : ByteArray) eB d.from_ (needP L ks.2 (⟨#[93]⟩ : ByteArray)) ks.1, needP L ks.2 (⟨#[93]⟩ : ByteArray))
def paramLoop (nest : Nat) : Nat → List T → Ps → PO (List T)
 | 0, _, _ => none
 | k + 1, ks, s => (R.specs nest false s).bind fun sp => (R.declr nest 2 sp.2).bind fun d =>
     if hasP L (d.2.declare (nameT d.1) false) (⟨#[44]⟩ : ByteArray) then
      (if hasP L ((d.2.declare (nameT d.1) false).up 1) (⟨#[46,46,46]⟩ : ByteArray) then
       some (ks ++ [mkP (⟨#[112,97,114,97,109]⟩ : ByteArray) eB s.at_ d.2 [sp.1, d.1]] ++ [mkP (⟨#[100,111,116,115]⟩ : ByteArray) eB ((d.2.declare (nameT d.1) false).up 1).at_ (((d.2.declare (nameT d.1) false).up 1).up 1) []], ((d.2.declare (nameT d.1) false).up 1).up 1)
       else paramLoop nest k (ks ++ [mkP (⟨#[112,97,114,97,109]⟩ : ByteArray) eB s.at_ d.2 [sp.1, d.1]]) ((d.2.declare (nameT d.1) false).up 1))
     else some (ks ++ [mkP (⟨#[112,97,114,97,109]⟩ : ByteArray) eB s.at_ d.2 [sp.1, d.1]], d.2.declare (nameT d.1) false)
def idLoop : Nat → List T → Ps → PO (List T)
 | 0, _, _ => none
 | k + 1, ks, s =>
   if hasP L (identP L (if typedP s.env (tokP L s.at_) then s.fail else s) (⟨#[105,100]⟩ : ByteArray)).2 (⟨#[44]⟩ : ByteArray) then
    idLoop k (ks ++ [(identP L (if typedP s.env (tokP L s.at_) then s.fail else s) (⟨#[105,100]⟩ : ByteArray)).1]) ((identP L (if typedP s.env (tokP L s.at_) then s.fail else s) (⟨#[105,100]⟩ : ByteArray)).2.up 1)
   else some (ks ++ [(identP L (if typedP s.env (tokP L s.at_) then s.fail else s) (⟨#[105,100]⟩ : ByteArray)).1], (identP L (if typedP s.env (tokP L s.at_) then s.fail else s) (⟨#[105,100]⟩ : ByteArray)).2)
def paramsIn (d : T) (nest mode : Nat) (s : Ps) : PO (List T) :=
 if isP L s (⟨#[41]⟩ : ByteArray) then some ([d], s)
 else if wordP L s (⟨#[118,111,105,100]⟩ : ByteArray) = true ∧ behP L s (⟨#[41]⟩ : ByteArray) = true then some ([d], s.up 1)
 else if startsP L s then paramLoop L R nest KK [d] s
 else if mode = 0 ∧ (tokP L s.at_).kind = 1 then idLoop L KK [d] s
 else some ([d], s.fail)
def paramsF (d : T) (nest mode : Nat) (s : Ps) : PO T :=
 (paramsIn L R d nest mode (s.into (.push s.env))).bind fun ks => some (mkP (⟨#[102,117,110,99]⟩ : ByteArray) eB d.from_ (needP L ks.2 (⟨#[41]⟩ : ByteArray)) ks.1, (needP L ks.2 (⟨#[41]⟩ : ByteArray)).into s.env)
def dirLoop (nest mode : Nat) : Nat → T → Ps → PO T
 | 0, _, _ => none
 | k + 1, d, s =>
   if s.bad = true then some (d, s)
   else if isP L s (⟨#[91]⟩ : ByteArray) then (arrayF L R d nest (s.up 1)).bind fun a => dirLoop nest mode k a.1 a.2
   else if isP L s (⟨#[40]⟩ : ByteArray) then (paramsF L R d nest mode (s.up 1)).bind fun a => dirLoop nest mode k a.1 a.2
   else some (d, s)
def innerP (mode : Nat) (s : Ps) : Bool :=
 isP L s (⟨#[40]⟩ : ByteArray) && (decide (mode = 0) || behP L s (⟨#[42]⟩ : ByteArray) || behP L s (⟨#[40]⟩ : ByteArray) || behP L s (⟨#[91]⟩ : ByteArray) || decide (mode = 2) && decide ((tokP L (s.at_ + 1)).kind = 1) && !typedP s.env (tokP L (s.at_ + 1)))
def directF (nest mode : Nat) (s : Ps) : PO T :=
 if mode ≠ 1 ∧ (tokP L s.at_).kind = 1 then dirLoop L R nest mode KK (leafP L s (⟨#[110,97,109,101]⟩ : ByteArray)) (s.up 1)
 else if innerP L mode s then (R.declr nest mode (s.up 1)).bind fun d => dirLoop L R nest mode KK (.mk d.1.kind d.1.text s.at_ (needP L d.2 (⟨#[41]⟩ : ByteArray)).at_ d.1.kids) (needP L d.2 (⟨#[41]⟩ : ByteArray))
 else if mode = 0 then some (zT, s.fail)
 else dirLoop L R nest mode KK (mkP (⟨#[110,111,110,101]⟩ : ByteArray) eB s.at_ s []) s
def pointerF (nest mode : Nat) (s : Ps) : PO T :=
 if hasP L s (⟨#[42]⟩ : ByteArray) then (qualsF L (s.up 1)).bind fun q => (R.pointer nest mode q.2).bind fun p => some (mkP (⟨#[112,111,105,110,116,101,114]⟩ : ByteArray) eB s.at_ p.2 (q.1 ++ [p.1]), p.2)
 else directF L R nest mode s
def restLoop (nest : Nat) : Nat → List T → T → Ps → PO (List T)
 | 0, _, _, _ => none
 | k + 1, ks, d, s =>
   (if hasP L s (⟨#[61]⟩ : ByteArray) then (R.init nest (s.up 1)).bind fun i => some (mkP (⟨#[105,110,105,116]⟩ : ByteArray) eB d.from_ i.2 [d, i.1], i.2) else some (d, s)).bind fun x =>
    if hasP L x.2 (⟨#[44]⟩ : ByteArray) then (R.declr nest 0 (x.2.up 1)).bind fun e => restLoop nest k (ks ++ [x.1]) e.1 (e.2.declare (nameT e.1) (isTypedefT (ks.headD zT)))
    else some (ks ++ [x.1], x.2)
def declarationF (nest : Nat) (s : Ps) : PO T :=
 if s.deep nest then some (zT, s.fail)
 else if wordP L s (⟨#[95,83,116,97,116,105,99,95,97,115,115,101,114,116]⟩ : ByteArray) then assertionF L R (nest + 1) s
 else (R.specs (nest + 1) false s).bind fun sp =>
  (if sp.2.bad = true ∨ isP L sp.2 (⟨#[59]⟩ : ByteArray) = true then some ([sp.1], sp.2)
   else (R.declr (nest + 1) 0 sp.2).bind fun d => restLoop L R (nest + 1) KK [sp.1] d.1 (d.2.declare (nameT d.1) (isTypedefT sp.1))).bind fun ks =>
    some (mkP (⟨#[100,101,99,108,97,114,101]⟩ : ByteArray) eB s.at_ (needP L ks.2 (⟨#[59]⟩ : ByteArray)) ks.1, needP L ks.2 (⟨#[59]⟩ : ByteArray))
def itemLoop (nest : Nat) : Nat → List T → Ps → PO (List T)
 | 0, _, _ => none
 | k + 1, ks, s =>
   if s.bad = true ∨ isP L s (⟨#[125]⟩ : ByteArray) = true then some (ks, s)
   else (if wordP L s (⟨#[95,83,116,97,116,105,99,95,97,115,115,101,114,116]⟩ : ByteArray) || startsP L s && !(decide ((tokP L s.at_).kind = 1) && behP L s (⟨#[58]⟩ : ByteArray)) then R.declaration nest s else R.stmt nest s).bind fun m => itemLoop nest k (ks ++ [m.1]) m.2
def itemsF (nest : Nat) (s : Ps) : PO T :=
 (itemLoop L R nest KK [] (needP L s (⟨#[123]⟩ : ByteArray))).bind fun ks => some (mkP (⟨#[98,108,111,99,107]⟩ : ByteArray) eB s.at_ (needP L ks.2 (⟨#[125]⟩ : ByteArray)) ks.1, needP L ks.2 (⟨#[125]⟩ : ByteArray))
def blockF (nest : Nat) (s : Ps) : PO T :=
 if s.deep nest then some (zT, s.fail) else (itemsF L R (nest + 1) (s.into (.push s.env))).bind fun n => some (n.1, n.2.into s.env)
def inParF (nest : Nat) (s : Ps) : PO T := (R.expr nest (needP L s (⟨#[40]⟩ : ByteArray))).bind fun r => some (r.1, needP L r.2 (⟨#[41]⟩ : ByteArray))
def perhapsF (nest : Nat) (x : ByteArray) (s : Ps) : PO T :=
 if isP L s x then some (mkP (⟨#[110,111,110,101]⟩ : ByteArray) eB s.at_ s [], needP L s x) else (R.expr nest s).bind fun e => some (e.1, needP L e.2 x)
def loopF (nest : Nat) (s : Ps) : PO (List T) :=
 (if (needP L (s.into (.push s.env)) (⟨#[40]⟩ : ByteArray)).bad = false ∧ startsP L (needP L (s.into (.push s.env)) (⟨#[40]⟩ : ByteArray)) = true then R.declaration nest (needP L (s.into (.push s.env)) (⟨#[40]⟩ : ByteArray)) else perhapsF L R nest (⟨#[59]⟩ : ByteArray) (needP L (s.into (.push s.env)) (⟨#[40]⟩ : ByteArray))).bind fun a =>
  (perhapsF L R nest (⟨#[59]⟩ : ByteArray) a.2).bind fun b => (perhapsF L R nest (⟨#[41]⟩ : ByteArray) b.2).bind fun c => (R.stmt nest c.2).bind fun d => some ([a.1, b.1, c.1, d.1], d.2.into s.env)
def wordIn (nest : Nat) (w : ByteArray) (s : Ps) : PO (List T) :=
 if w = (⟨#[99,97,115,101]⟩ : ByteArray) then (R.cond nest s).bind fun c => (R.stmt nest (needP L c.2 (⟨#[58]⟩ : ByteArray))).bind fun t => some ([c.1.1, t.1], t.2)
 else if w = (⟨#[100,101,102,97,117,108,116]⟩ : ByteArray) then (R.stmt nest (needP L s (⟨#[58]⟩ : ByteArray))).bind fun t => some ([t.1], t.2)
 else if w = (⟨#[105,102]⟩ : ByteArray) then (inParF L R nest s).bind fun c => (R.stmt nest c.2).bind fun t => if hasW L t.2 (⟨#[101,108,115,101]⟩ : ByteArray) then (R.stmt nest (t.2.up 1)).bind fun u => some ([c.1, t.1, u.1], u.2) else some ([c.1, t.1], t.2)
 else if w = (⟨#[115,119,105,116,99,104]⟩ : ByteArray) ∨ w = (⟨#[119,104,105,108,101]⟩ : ByteArray) then (inParF L R nest s).bind fun c => (R.stmt nest c.2).bind fun t => some ([c.1, t.1], t.2)
 else if w = (⟨#[100,111]⟩ : ByteArray) then (R.stmt nest s).bind fun t => (inParF L R nest (if hasW L t.2 (⟨#[119,104,105,108,101]⟩ : ByteArray) then t.2.up 1 else t.2.fail)).bind fun c => some ([t.1, c.1], needP L c.2 (⟨#[59]⟩ : ByteArray))
 else if w = (⟨#[102,111,114]⟩ : ByteArray) then loopF L R nest s
 else if w = (⟨#[99,111,110,116,105,110,117,101]⟩ : ByteArray) ∨ w = (⟨#[98,114,101,97,107]⟩ : ByteArray) then some ([], needP L s (⟨#[59]⟩ : ByteArray))
 else (if isP L s (⟨#[59]⟩ : ByteArray) then some ([], needP L s (⟨#[59]⟩ : ByteArray)) else (R.expr nest s).bind fun e => some ([e.1], needP L e.2 (⟨#[59]⟩ : ByteArray)))
def stmtWords : List ByteArray := [(⟨#[99,97,115,101]⟩ : ByteArray), (⟨#[100,101,102,97,117,108,116]⟩ : ByteArray), (⟨#[105,102]⟩ : ByteArray), (⟨#[115,119,105,116,99,104]⟩ : ByteArray), (⟨#[119,104,105,108,101]⟩ : ByteArray), (⟨#[100,111]⟩ : ByteArray), (⟨#[102,111,114]⟩ : ByteArray), (⟨#[99,111,110,116,105,110,117,101]⟩ : ByteArray), (⟨#[98,114,101,97,107]⟩ : ByteArray), (⟨#[114,101,116,117,114,110]⟩ : ByteArray)]
def wordF (nest : Nat) (w : ByteArray) (s : Ps) : PO (T × Bool) :=
 if w = (⟨#[103,111,116,111]⟩ : ByteArray) then some ((mkP w (identP L (s.up 1) eB).1.text s.at_ (needP L (identP L (s.up 1) eB).2 (⟨#[59]⟩ : ByteArray)) [], true), needP L (identP L (s.up 1) eB).2 (⟨#[59]⟩ : ByteArray))
 else if stmtWords.any fun x => decide (x = w) then (wordIn L R nest w (s.up 1)).bind fun ks => some ((mkP w eB s.at_ ks.2 ks.1, true), ks.2)
 else some ((zT, false), s)
def exprS (nest : Nat) (s : Ps) : PO T := (R.expr nest s).bind fun e => some (mkP (⟨#[101,120,112,114]⟩ : ByteArray) eB s.at_ (needP L e.2 (⟨#[59]⟩ : ByteArray)) [e.1], needP L e.2 (⟨#[59]⟩ : ByteArray))
def stmtF (nest : Nat) (s : Ps) : PO T :=
 if s.deep nest then some (zT, s.fail)
 else if isP L s (⟨#[123]⟩ : ByteArray) then R.block (nest + 1) s
 else if (tokP L s.at_).kind = 1 ∧ behP L s (⟨#[58]⟩ : ByteArray) = true then (R.stmt (nest + 1) (s.up 2)).bind fun x => some (mkP (⟨#[108,97,98,101,108]⟩ : ByteArray) (tokP L s.at_).text s.at_ x.2 [x.1], x.2)
 else if hasP L s (⟨#[59]⟩ : ByteArray) then some (mkP (⟨#[101,109,112,116,121]⟩ : ByteArray) eB s.at_ (s.up 1) [], s.up 1)
 else if (tokP L s.at_).kind = 2 then (wordF L R (nest + 1) (tokP L s.at_).text s).bind fun r => if r.1.2 then some (r.1.1, r.2) else exprS L R (nest + 1) r.2
 else exprS L R (nest + 1) s
def stepR : Rec where
 expr := exprF L R
 assign := assignF L R
 cond := condF L R
 binary := binaryF L R
 cast := castF L R
 unary := unaryF L R
 init := initF L R
 typeName := typeNameF R
 specs := specsF L R
 declr := declrF R
 pointer := pointerF L R
 declaration := declarationF L R
 stmt := stmtF L R
 block := blockF L R
end
def recN (L : List Ct) : Nat → Rec
 | 0 => ⟨fun _ _ => none, fun _ _ => none, fun _ _ => none, fun _ _ _ => none, fun _ _ => none, fun _ _ => none, fun _ _ => none, fun _ _ => none, fun _ _ _ => none, fun _ _ _ => none, fun _ _ _ => none, fun _ _ => none, fun _ _ => none, fun _ _ => none⟩
 | n + 1 => stepR L (recN L n)
end Go.Proofs.YtllbbacnakoomaaGreatDoor
namespace Go.Proofs.YtllbbacnakoomaaGreatDoor
open Go.RowKit
set_option linter.unusedVariables false
def escB (c : UInt8) : Bool := c == 34 || c == 92
def escC (c : UInt8) : List UInt8 := if escB c then [92, c] else [c]
def escL (s : List UInt8) : List UInt8 := s.flatMap escC
def escN (s : List UInt8) : Nat := s.countP escB
theorem escL_len (s : List UInt8) : (escL s).length = s.length + escN s := by
 induction s with
 | nil => rfl
 | cons c s ih =>
   unfold escL escN at *
   rw [List.flatMap_cons, List.length_append, ih, List.countP_cons]
   unfold escC
   cases escB c <;> simp <;> omega
theorem escL_none {s : List UInt8} (h : escN s = 0) : escL s = s := by
 induction s with
 | nil => rfl
 | cons c s ih =>
   unfold escN at h ih
   rw [List.countP_cons] at h
   have hc : escB c = false := by
    cases e : escB c with
    | false => rfl
    | true => rw [e] at h; simp at h
   have hs : List.countP escB s = 0 := by omega
   unfold escL at *
   rw [List.flatMap_cons, ih hs]
   unfold escC
   rw [hc]
   rfl
theorem escL_take {s : List UInt8} {i : Nat} {c : UInt8} (h : s[i]? = some c) : escL (s.take (i + 1)) = escL (s.take i) ++ escC c := by
 unfold escL
 rw [List.take_add_one, h, List.flatMap_append]
 simp
theorem escN_take {s : List UInt8} {i : Nat} {c : UInt8} (h : s[i]? = some c) : escN (s.take (i + 1)) = escN (s.take i) + if escB c then 1 else 0 := by
 unfold escN
 rw [List.take_add_one, h, List.countP_append]
 cases e : escB c <;> simp [e]
theorem escN_le (s : List UInt8) : escN s ≤ s.length := List.countP_le_length
theorem escN_take_le (s : List UInt8) (i : Nat) : escN (s.take i) ≤ escN s := by
 unfold escN
 conv => rhs; rw [← List.take_append_drop i s, List.countP_append]
 omega
end Go.Proofs.YtllbbacnakoomaaGreatDoor
namespace Go.Proofs.YtllbbacnakoomaaGreatDoor
set_option linter.unusedVariables false
mutual
def T.mv (d : Int) (f : ByteArray → ByteArray) : T → T
 | .mk k t a b ks => .mk k (f t) (a + d) (b + d) (T.mvs d f ks)
def T.mvs (d : Int) (f : ByteArray → ByteArray) : List T → List T
 | [] => []
 | x :: r => T.mv d f x :: T.mvs d f r
end
def Ev.mv (f : ByteArray → ByteArray) : Ev → Ev
 | .new => .new
 | .push e => .push (e.mv f)
 | .decl e n i => .decl (e.mv f) (f n) i
def Ps.mv (d : Int) (f : ByteArray → ByteArray) (s : Ps) : Ps := ⟨s.at_ + d, s.env.mv f, s.bad⟩
structure Mv (d : Int) (f : ByteArray → ByteArray) (L L' : List Ct) : Prop where
 kind : ∀ i, 0 ≤ i → (tokP L' (i + d)).kind = (tokP L i).kind
 text : ∀ i, 0 ≤ i → (tokP L' (i + d)).text = f (tokP L i).text
 fix : ∀ i, 0 ≤ i → (tokP L i).kind ≠ 1 → f (tokP L i).text = (tokP L i).text
 inj : ∀ a b, f a = f b → a = b
 nil : f eB = eB
 dot : ∀ x, f ((⟨#[46]⟩ : ByteArray) ++ x) = (⟨#[46]⟩ : ByteArray) ++ f x
 arrow : ∀ x, f ((⟨#[45,62]⟩ : ByteArray) ++ x) = (⟨#[45,62]⟩ : ByteArray) ++ f x
 tdef : f (⟨#[116,121,112,101,100,101,102]⟩ : ByteArray) = (⟨#[116,121,112,101,100,101,102]⟩ : ByteArray)
section
variable {d : Int} {f : ByteArray → ByteArray} {L L' : List Ct}
theorem mvs_map (ks : List T) : T.mvs d f ks = ks.map (T.mv d f) := by
 induction ks with
 | nil => rfl
 | cons x r ih => simp only [T.mvs, List.map_cons, ih]
theorem mv_mk (k t : ByteArray) (a b : Int) (ks : List T) : T.mv d f (.mk k t a b ks) = .mk k (f t) (a + d) (b + d) (ks.map (T.mv d f)) := by
 simp only [T.mv, mvs_map]
theorem mv_kind (x : T) : (x.mv d f).kind = x.kind := by cases x; simp only [T.mv, T.kind]
theorem mv_text (x : T) : (x.mv d f).text = f x.text := by cases x; simp only [T.mv, T.text]
theorem mv_from (x : T) : (x.mv d f).from_ = x.from_ + d := by cases x; simp only [T.mv, T.from_]
theorem mv_to (x : T) : (x.mv d f).to_ = x.to_ + d := by cases x; simp only [T.mv, T.to_]
theorem mv_kids (x : T) : (x.mv d f).kids = x.kids.map (T.mv d f) := by cases x; simp only [T.mv, T.kids, mvs_map]
theorem psmv_at (s : Ps) : (s.mv d f).at_ = s.at_ + d := rfl
theorem psmv_bad (s : Ps) : (s.mv d f).bad = s.bad := rfl
theorem psmv_env (s : Ps) : (s.mv d f).env = s.env.mv f := rfl
theorem psmv_up (s : Ps) (n : Int) : (s.mv d f).up n = (s.up n).mv d f := by
 simp only [Ps.mv, Ps.up]; rw [show s.at_ + d + n = s.at_ + n + d by omega]
theorem psmv_fail (s : Ps) : (s.mv d f).fail = s.fail.mv d f := rfl
theorem psmv_deep (s : Ps) (n : Nat) : (s.mv d f).deep n = s.deep n := rfl
theorem psmv_into (s : Ps) (e : Ev) : (s.mv d f).into (e.mv f) = (s.into e).mv d f := rfl
theorem psmv_push (s : Ps) : (s.mv d f).into (.push (s.mv d f).env) = (s.into (.push s.env)).mv d f := rfl
theorem Mv.size (M : Mv d f L L') (x : ByteArray) : (f x).size = 0 ↔ x.size = 0 := by
 have h0 : ∀ y : ByteArray, y.size = 0 ↔ y = eB := fun y => ⟨fun h => by
  apply ByteArray.ext; exact Array.eq_empty_of_size_eq_zero h, fun h => by rw [h]; rfl⟩
 rw [h0, h0]
 exact ⟨fun h => M.inj _ _ (h.trans M.nil.symm), fun h => by rw [h, M.nil]⟩
theorem Mv.find (M : Mv d f L L') (x : ByteArray) : ∀ e : Ev, (e.mv f).find (f x) = e.find x
 | .new => rfl
 | .push e => by simp only [Ev.mv, Ev.find]; exact M.find x e
 | .decl e n i => by
   simp only [Ev.mv, Ev.find]
   rw [M.find x e]
   have h1 : (f n = f x) = (n = x) := propext ⟨M.inj _ _, fun h => by rw [h]⟩
   have h2 : ((f x).size ≠ 0) = (x.size ≠ 0) := propext (not_congr (M.size x))
   simp only [h1, h2]
theorem Mv.isType (M : Mv d f L L') (e : Ev) (x : ByteArray) : (e.mv f).isType (f x) = e.isType x := by unfold Ev.isType; rw [M.find]
theorem Mv.isT (M : Mv d f L L') {i : Int} (h : 0 ≤ i) (x : ByteArray) : isT (tokP L' (i + d)) x = isT (tokP L i) x := by
 unfold Go.Proofs.YtllbbacnakoomaaGreatDoor.isT
 rw [M.kind i h, M.text i h]
 by_cases hk : (tokP L i).kind = 7
 ·rw [M.fix i h (by omega)]
 ·simp [hk]
theorem Mv.isP (M : Mv d f L L') {s : Ps} (h : 0 ≤ s.at_) (x : ByteArray) : isP L' (s.mv d f) x = isP L s x := M.isT h x
theorem Mv.behP (M : Mv d f L L') {s : Ps} (h : 0 ≤ s.at_) (x : ByteArray) : behP L' (s.mv d f) x = behP L s x := by
 unfold Go.Proofs.YtllbbacnakoomaaGreatDoor.behP
 rw [psmv_at, show s.at_ + d + 1 = s.at_ + 1 + d by omega]
 exact M.isT (by omega) x
theorem Mv.hasP (M : Mv d f L L') {s : Ps} (h : 0 ≤ s.at_) (x : ByteArray) : hasP L' (s.mv d f) x = hasP L s x := by
 unfold Go.Proofs.YtllbbacnakoomaaGreatDoor.hasP; rw [M.isP h, psmv_bad]
theorem Mv.needP (M : Mv d f L L') {s : Ps} (h : 0 ≤ s.at_) (x : ByteArray) : needP L' (s.mv d f) x = (needP L s x).mv d f := by
 unfold Go.Proofs.YtllbbacnakoomaaGreatDoor.needP; rw [M.hasP h, psmv_up, psmv_fail]; split <;> rfl
theorem Mv.wordP (M : Mv d f L L') {s : Ps} (h : 0 ≤ s.at_) (x : ByteArray) : wordP L' (s.mv d f) x = wordP L s x := by
 unfold Go.Proofs.YtllbbacnakoomaaGreatDoor.wordP
 rw [psmv_at, M.kind _ h, M.text _ h]
 by_cases hk : (tokP L s.at_).kind = 2
 ·rw [M.fix _ h (by omega)]
 ·simp [hk]
theorem Mv.hasW (M : Mv d f L L') {s : Ps} (h : 0 ≤ s.at_) (x : ByteArray) : hasW L' (s.mv d f) x = hasW L s x := by
 unfold Go.Proofs.YtllbbacnakoomaaGreatDoor.hasW; rw [M.wordP h, psmv_bad]
theorem Mv.leafP (M : Mv d f L L') {s : Ps} (h : 0 ≤ s.at_) (k : ByteArray) : leafP L' (s.mv d f) k = (leafP L s k).mv d f := by
 unfold Go.Proofs.YtllbbacnakoomaaGreatDoor.leafP
 rw [mv_mk, psmv_at, M.text _ h, show s.at_ + d + 1 = s.at_ + 1 + d by omega]; rfl
theorem Mv.kindAt (M : Mv d f L L') {s : Ps} (h : 0 ≤ s.at_) : (tokP L' (s.mv d f).at_).kind = (tokP L s.at_).kind := M.kind _ h
theorem Mv.textAt (M : Mv d f L L') {s : Ps} (h : 0 ≤ s.at_) : (tokP L' (s.mv d f).at_).text = f (tokP L s.at_).text := M.text _ h
theorem Mv.kindUp (M : Mv d f L L') {s : Ps} (h : 0 ≤ s.at_) : (tokP L' ((s.mv d f).at_ + 1)).kind = (tokP L (s.at_ + 1)).kind := by
 rw [psmv_at, show s.at_ + d + 1 = s.at_ + 1 + d by omega]; exact M.kind _ (by omega)
theorem Mv.ident2 (M : Mv d f L L') {s : Ps} (h : 0 ≤ s.at_) (k : ByteArray) : (identP L' (s.mv d f) k).2 = (identP L s k).2.mv d f := by
 unfold Go.Proofs.YtllbbacnakoomaaGreatDoor.identP; rw [M.kindAt h, psmv_bad, psmv_up, psmv_fail]; split <;> rfl
theorem Mv.identT (M : Mv d f L L') {s : Ps} (h : 0 ≤ s.at_) (k : ByteArray) : (identP L' (s.mv d f) k).1.text = f (identP L s k).1.text := by
 unfold Go.Proofs.YtllbbacnakoomaaGreatDoor.identP; rw [M.kindAt h, psmv_bad]; split
 ·exact M.nil.symm
 ·rw [M.leafP h, mv_text]
theorem Mv.ident1 (M : Mv d f L L') {s : Ps} (h : 0 ≤ s.at_) (k : ByteArray) (hb : (identP L s k).2.bad = false) : (identP L' (s.mv d f) k).1 = (identP L s k).1.mv d f := by
 unfold Go.Proofs.YtllbbacnakoomaaGreatDoor.identP at hb ⊢; rw [M.kindAt h, psmv_bad]; split
 ·rename_i hc; rw [if_pos hc] at hb; cases hb
 ·exact M.leafP h k
theorem Mv.typed (M : Mv d f L L') {i : Int} (h : 0 ≤ i) (e : Ev) : typedP (e.mv f) (tokP L' (i + d)) = typedP e (tokP L i) := by
 unfold typedP; rw [M.kind i h, M.text i h, M.isType]
theorem Mv.typedAt (M : Mv d f L L') {s : Ps} (h : 0 ≤ s.at_) : typedP (s.mv d f).env (tokP L' (s.mv d f).at_) = typedP s.env (tokP L s.at_) := M.typed h _
theorem Mv.begins (M : Mv d f L L') {i : Int} (h : 0 ≤ i) (e : Ev) : beginsP (e.mv f) (tokP L' (i + d)) = beginsP e (tokP L i) := by
 unfold beginsP; rw [M.kind i h, M.text i h, M.typed h]
 split
 ·rename_i hk; rw [M.fix i h (by omega)]
 ·rfl
theorem Mv.starts (M : Mv d f L L') {s : Ps} (h : 0 ≤ s.at_) : startsP L' (s.mv d f) = startsP L s := M.begins h _
theorem Mv.bracketed (M : Mv d f L L') {s : Ps} (h : 0 ≤ s.at_) : bracketedP L' (s.mv d f) = bracketedP L s := by
 unfold bracketedP
 rw [M.isP h, psmv_at, show s.at_ + d + 1 = s.at_ + 1 + d by omega, psmv_env, M.begins (by omega)]
theorem Mv.level (M : Mv d f L L') {s : Ps} (h : 0 ≤ s.at_) : levelT (tokP L' (s.mv d f).at_) = levelT (tokP L s.at_) := by
 unfold levelT
 rw [M.kindAt h]
 split
 ·rename_i hk; rw [M.textAt h, M.fix _ h (by omega)]
 ·rfl
theorem Mv.fixAt (M : Mv d f L L') {s : Ps} (h : 0 ≤ s.at_) (hk : (tokP L s.at_).kind ≠ 1) : (tokP L' (s.mv d f).at_).text = (tokP L s.at_).text := by
 rw [M.textAt h, M.fix _ h hk]
theorem Mv.named1 (M : Mv d f L L') {s : Ps} (h : 0 ≤ s.at_) : (namedP L' (s.mv d f)).1 = f (namedP L s).1 := by
 unfold namedP; rw [M.kindAt h]; split
 ·exact M.textAt h
 ·exact M.nil.symm
theorem Mv.named2 (M : Mv d f L L') {s : Ps} (h : 0 ≤ s.at_) : (namedP L' (s.mv d f)).2 = (namedP L s).2.mv d f := by
 unfold namedP; rw [M.kindAt h]; split
 ·exact psmv_up _ _
 ·rfl
theorem Mv.declare (M : Mv d f L L') (s : Ps) (x : ByteArray) (i : Bool) : (s.mv d f).declare (f x) i = (s.declare x i).mv d f := by
 unfold Ps.declare
 have h2 : ((f x).size ≠ 0) = (x.size ≠ 0) := propext (not_congr (M.size x))
 simp only [h2, psmv_bad]
 split <;> rfl
theorem declare_bad {s : Ps} (h : s.bad = true) (x : ByteArray) (i : Bool) : s.declare x i = s := by
 unfold Ps.declare; rw [if_neg (by simp [h])]
theorem declare_at (s : Ps) (x : ByteArray) (i : Bool) : (s.declare x i).at_ = s.at_ := by unfold Ps.declare; split <;> rfl
theorem declare_b (s : Ps) (x : ByteArray) (i : Bool) : (s.declare x i).bad = s.bad := by unfold Ps.declare; split <;> rfl
theorem name_mv (hn : f eB = eB) : ∀ x : T, nameT (x.mv d f) = f (nameT x) := by
 refine T.ind fun k t a b ks ih => ?_
 rw [mv_mk]
 simp only [nameT]
 split
 ·rfl
 ·skip
  induction ks with
  | nil => exact hn.symm
  | cons y r ihr =>
    simp only [List.map_cons, namesT, mv_kind]
    split
    ·exact ihr fun z hz => ih z (.tail _ hz)
    ·exact ih y (.head _)
theorem Mv.typedef (M : Mv d f L L') (x : T) : isTypedefT (x.mv d f) = isTypedefT x := by
 unfold isTypedefT
 rw [mv_kids, List.any_map]
 congr 1
 funext k
 simp only [Function.comp, mv_kind, mv_text]
 have : (f k.text = (⟨#[116,121,112,101,100,101,102]⟩ : ByteArray)) = (k.text = (⟨#[116,121,112,101,100,101,102]⟩ : ByteArray)) := propext ⟨fun h => M.inj _ _ (h.trans M.tdef.symm), fun h => by rw [h, M.tdef]⟩
 simp only [this]
theorem need_at (s : Ps) (x : ByteArray) : s.at_ ≤ (needP L s x).at_ := by
 unfold needP; split
 ·simp only [Ps.up]; omega
 ·exact Int.le_refl _
theorem need_bad {s : Ps} {x : ByteArray} (h : (needP L s x).bad = false) : s.bad = false := by
 unfold needP at h; split at h
 ·exact h
 ·cases h
theorem ident_at (s : Ps) (x : ByteArray) : s.at_ ≤ (identP L s x).2.at_ := by
 unfold identP; split
 ·exact Int.le_refl _
 ·simp only [Ps.up]; omega
theorem ident_bad {s : Ps} {x : ByteArray} (h : (identP L s x).2.bad = false) : s.bad = false := by
 unfold identP at h; split at h
 ·cases h
 ·exact h
theorem named_at (s : Ps) : s.at_ ≤ (namedP L s).2.at_ := by
 unfold namedP; split
 ·simp only [Ps.up]; omega
 ·exact Int.le_refl _
theorem named_bad (s : Ps) : (namedP L s).2.bad = s.bad := by unfold namedP; split <;> rfl
end
section
variable {α β : Type}
def Sim (d : Int) (f : ByteArray → ByteArray) (Q : Bool → α → α → Prop) (s : Ps) (o o' : PO α) : Prop :=
 ∀ a t, o = some (a, t) → s.at_ ≤ t.at_ ∧ (t.bad = false → s.bad = false) ∧ ∃ a', o' = some (a', t.mv d f) ∧ Q t.bad a a'
variable {d : Int} {f : ByteArray → ByteArray} {Q : Bool → α → α → Prop} {Q2 : Bool → β → β → Prop}
theorem Sim.pure {s t : Ps} {a a' : α} {t' : Ps} (h1 : s.at_ ≤ t.at_) (h2 : t.bad = false → s.bad = false) (ht : t' = t.mv d f) (h3 : Q t.bad a a') : Sim d f Q s (some (a, t)) (some (a', t')) := by
 subst ht
 intro b u e
 obtain ⟨rfl, rfl⟩ := Prod.mk.inj (Option.some.inj e)
 exact ⟨h1, h2, a', rfl, h3⟩
theorem Sim.bind {s : Ps} {o o' : PO α} {g g' : α × Ps → PO β} (h : Sim d f Q s o o') (k : ∀ a a' t, s.at_ ≤ t.at_ → (t.bad = false → s.bad = false) → Q t.bad a a' → Sim d f Q2 t (g (a, t)) (g' (a', t.mv d f))) : Sim d f Q2 s (o.bind g) (o'.bind g') := by
 intro b u e
 obtain ⟨⟨a, t⟩, e1, e2⟩ := Option.bind_eq_some_iff.1 e
 obtain ⟨h1, h2, a', rfl, h3⟩ := h a t e1
 obtain ⟨k1, k2, b', e3, k3⟩ := k a a' t h1 h2 h3 b u e2
 exact ⟨Int.le_trans h1 k1, fun hb => h2 (k2 hb), b', e3, k3⟩
theorem Sim.from_ {s t : Ps} {o o' : PO α} (h : Sim d f Q t o o') (h1 : s.at_ ≤ t.at_) (h2 : t.bad = false → s.bad = false) : Sim d f Q s o o' := by
 intro a u e
 obtain ⟨k1, k2, k3⟩ := h a u e
 exact ⟨Int.le_trans h1 k1, fun hb => h2 (k2 hb), k3⟩
theorem Sim.none {s : Ps} {o' : PO α} : Sim d f Q s none o' := fun _ _ e => by cases e
def QT (d : Int) (f : ByteArray → ByteArray) (b : Bool) (n n' : T) : Prop := b = false → n' = n.mv d f
def QB (d : Int) (f : ByteArray → ByteArray) (b : Bool) (n n' : T × Bool) : Prop := n'.2 = n.2 ∧ (b = false → n'.1 = n.1.mv d f)
def QO (d : Int) (f : ByteArray → ByteArray) (b : Bool) (n n' : T × Bool × Bool) : Prop := n'.2 = n.2 ∧ (n.2.1 = true → b = false → n'.1 = n.1.mv d f)
def QW (d : Int) (f : ByteArray → ByteArray) (b : Bool) (n n' : T × Bool) : Prop := n'.2 = n.2 ∧ (n.2 = true → b = false → n'.1 = n.1.mv d f)
def QL (d : Int) (f : ByteArray → ByteArray) (b : Bool) (l l' : List T) : Prop := l'.length = l.length ∧ (b = false → l' = l.map (T.mv d f))
end
structure RSim (d : Int) (f : ByteArray → ByteArray) (R R' : Rec) : Prop where
 expr : ∀ n s, 0 ≤ s.at_ → Sim d f (QT d f) s (R.expr n s) (R'.expr n (s.mv d f))
 assign : ∀ n s, 0 ≤ s.at_ → Sim d f (QT d f) s (R.assign n s) (R'.assign n (s.mv d f))
 cond : ∀ n s, 0 ≤ s.at_ → Sim d f (QB d f) s (R.cond n s) (R'.cond n (s.mv d f))
 binary : ∀ l n s, 0 ≤ s.at_ → Sim d f (QB d f) s (R.binary l n s) (R'.binary l n (s.mv d f))
 cast : ∀ n s, 0 ≤ s.at_ → Sim d f (QB d f) s (R.cast n s) (R'.cast n (s.mv d f))
 unary : ∀ n s, 0 ≤ s.at_ → Sim d f (QT d f) s (R.unary n s) (R'.unary n (s.mv d f))
 init : ∀ n s, 0 ≤ s.at_ → Sim d f (QT d f) s (R.init n s) (R'.init n (s.mv d f))
 typeName : ∀ n s, 0 ≤ s.at_ → Sim d f (QT d f) s (R.typeName n s) (R'.typeName n (s.mv d f))
 specs : ∀ n p s, 0 ≤ s.at_ → Sim d f (QT d f) s (R.specs n p s) (R'.specs n p (s.mv d f))
 declr : ∀ n m s, 0 ≤ s.at_ → Sim d f (QT d f) s (R.declr n m s) (R'.declr n m (s.mv d f))
 pointer : ∀ n m s, 0 ≤ s.at_ → Sim d f (QT d f) s (R.pointer n m s) (R'.pointer n m (s.mv d f))
 declaration : ∀ n s, 0 ≤ s.at_ → Sim d f (QT d f) s (R.declaration n s) (R'.declaration n (s.mv d f))
 stmt : ∀ n s, 0 ≤ s.at_ → Sim d f (QT d f) s (R.stmt n s) (R'.stmt n (s.mv d f))
 block : ∀ n s, 0 ≤ s.at_ → Sim d f (QT d f) s (R.block n s) (R'.block n (s.mv d f))
end Go.Proofs.YtllbbacnakoomaaGreatDoor
