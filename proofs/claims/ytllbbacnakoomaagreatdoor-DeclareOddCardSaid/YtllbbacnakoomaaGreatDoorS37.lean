/- Texts of this seat's proofs, laid into one file. -/
import Derived.Test.YtllbbacnakoomaaGreatDoorS36
set_option maxRecDepth 100000
set_option maxHeartbeats 16000000
namespace Go.Proofs.YtllbbacnakoomaaGreatDoor
set_option linter.unusedVariables false
section
variable {d : Int} {f : ByteArray → ByteArray} {L L' : List Ct} {R R' : Rec}
variable (M : Mv d f L L') (S : RSim d f R R')
include M S
omit S in
theorem declare2_mv {b : Bool} {t : Ps} (hb : b = t.bad) {n n' x x' : T} (q : QT d f b n n') (qx : QT d f b x x') : (t.mv d f).declare (nameT n') (isTypedefT x') = (t.declare (nameT n) (isTypedefT x)).mv d f := by
 subst hb
 cases e : t.bad with
 | true => rw [declare_bad e, declare_bad (by rw [psmv_bad]; exact e)]
 | false => rw [q e, qx e, M.typedef, name_mv M.nil, M.declare]
omit M S in
theorem QL.head {b : Bool} {l l' : List T} (q : QL d f b l l') (hl : l ≠ []) : QT d f b (l.headD zT) (l'.headD zT) := fun hb => by
 rw [q.2 hb]
 cases l with
 | nil => exact absurd rfl hl
 | cons x r => rfl
theorem restLoop_mv (nest : Nat) : ∀ k n n' x x' s, 0 ≤ s.at_ → n ≠ [] → QL d f s.bad n n' → QT d f s.bad x x' → Sim d f (QL d f) s (restLoop L R nest k n x s) (restLoop L' R' nest k n' x' (s.mv d f))
 | 0, n, n', x, x', s, h, hl, q, qx => Sim.none
 | k + 1, n, n', x, x', s, h, hl, q, qx => by
   unfold restLoop
   rw [M.hasP h, psmv_up]
   have e : Sim d f (QT d f) s (if hasP L s (⟨#[61]⟩ : ByteArray) = true then (R.init nest (s.up 1)).bind fun i => some (mkP (⟨#[105,110,105,116]⟩ : ByteArray) eB x.from_ i.2 [x, i.1], i.2) else some (x, s)) (if hasP L s (⟨#[61]⟩ : ByteArray) = true then (R'.init nest ((s.up 1).mv d f)).bind fun i => some (mkP (⟨#[105,110,105,116]⟩ : ByteArray) eB x'.from_ i.2 [x', i.1], i.2) else some (x', s.mv d f)) := by
    split
    ·refine ((S.init _ _ (up0 h)).bind ?_).from_ (up_le s) id
     intro a a' t h1 h2 h3
     exact Sim.pure (Int.le_refl _) id rfl (QT.mk M M.nil.symm (QT.later h2 qx).fr (QL.two (QT.later h2 qx) h3).2)
    ·exact Sim.pure (Int.le_refl _) id rfl qx
   refine e.bind ?_
   intro a a' t h1 h2 h3
   have ht := Int.le_trans h h1
   have hnew := (QL.later h2 q).snoc h3
   simp only [M.hasP ht, psmv_up]
   split
   ·refine ((S.declr _ _ _ (up0 ht)).bind ?_).from_ (up_le t) id
    intro b b' u k1 k2 k3
    have hu := Int.le_trans (up0 ht) k1
    have qh := QT.later k2 (QT.later h2 (QL.head q hl))
    rw [declare2_mv M rfl k3 qh]
    have hz : (u.declare (nameT b) (isTypedefT (n.headD zT))).at_ = u.at_ := declare_at ..
    have hb : (u.declare (nameT b) (isTypedefT (n.headD zT))).bad = u.bad := declare_b ..
    refine (restLoop_mv nest k _ _ _ _ _ (by rw [hz]; exact hu) (by simp) ?_ ?_).from_ (by rw [hz]; exact Int.le_refl _) (fun e => by rw [hb] at e; exact e)
    ·rw [hb]; exact QL.later k2 hnew
    ·rw [hb]; exact k3
   ·exact Sim.pure (Int.le_refl _) id rfl hnew
theorem declarationF_mv (nest : Nat) (s : Ps) (h : 0 ≤ s.at_) : Sim d f (QT d f) s (declarationF L R nest s) (declarationF L' R' nest (s.mv d f)) := by
 unfold declarationF
 rw [psmv_deep, M.wordP h]
 split
 ·exact Sim.pure (Int.le_refl _) (fun e => by cases e) rfl (fun e => by cases e)
 split
 ·exact assertionF_mv M S _ s h
 ·refine (S.specs _ _ _ h).bind ?_
  intro a a' t h1 h2 h3
  have ht := Int.le_trans h h1
  simp only [M.isP ht, psmv_bad]
  have e : Sim d f (QL d f) t (if t.bad = true ∨ isP L t (⟨#[59]⟩ : ByteArray) = true then some ([a], t) else (R.declr (nest + 1) 0 t).bind fun e => restLoop L R (nest + 1) KK [a] e.1 (e.2.declare (nameT e.1) (isTypedefT a))) (if t.bad = true ∨ isP L t (⟨#[59]⟩ : ByteArray) = true then some ([a'], t.mv d f) else (R'.declr (nest + 1) 0 (t.mv d f)).bind fun e => restLoop L' R' (nest + 1) KK [a'] e.1 (e.2.declare (nameT e.1) (isTypedefT a'))) := by
   split
   ·exact Sim.pure (Int.le_refl _) id rfl (QL.one h3)
   ·refine (S.declr _ _ _ ht).bind ?_
    intro b b' u k1 k2 k3
    have hu := Int.le_trans ht k1
    have h4 := QT.later k2 h3
    simp only [declare2_mv M rfl k3 h4]
    have hz : (u.declare (nameT b) (isTypedefT a)).at_ = u.at_ := declare_at ..
    have hb : (u.declare (nameT b) (isTypedefT a)).bad = u.bad := declare_b ..
    refine (restLoop_mv M S _ KK _ _ _ _ _ (by rw [hz]; exact hu) (by simp) ?_ ?_).from_ (by rw [hz]; exact Int.le_refl _) (fun e => by rw [hb] at e; exact e)
    ·rw [hb]; exact QL.one h4
    ·rw [hb]; exact k3
  refine e.bind ?_
  intro b b' u k1 k2 k3
  have hu := Int.le_trans ht k1
  simp only [M.needP hu]
  exact Sim.pure (need_at u _) need_bad rfl (QT.mk M M.nil.symm (fun _ => rfl) (QL.later need_bad k3).2)
theorem itemLoop_mv (nest : Nat) : ∀ k n n' s, 0 ≤ s.at_ → QL d f s.bad n n' → Sim d f (QL d f) s (itemLoop L R nest k n s) (itemLoop L' R' nest k n' (s.mv d f))
 | 0, n, n', s, h, q => Sim.none
 | k + 1, n, n', s, h, q => by
   unfold itemLoop
   rw [M.isP h, psmv_bad, M.wordP h, M.starts h, M.kindAt h, M.behP h]
   split
   ·exact Sim.pure (Int.le_refl _) id rfl q
   ·have e : Sim d f (QT d f) s (if (wordP L s (⟨#[95,83,116,97,116,105,99,95,97,115,115,101,114,116]⟩ : ByteArray) || startsP L s && !(decide ((tokP L s.at_).kind = 1) && behP L s (⟨#[58]⟩ : ByteArray))) = true then R.declaration nest s else R.stmt nest s) (if (wordP L s (⟨#[95,83,116,97,116,105,99,95,97,115,115,101,114,116]⟩ : ByteArray) || startsP L s && !(decide ((tokP L s.at_).kind = 1) && behP L s (⟨#[58]⟩ : ByteArray))) = true then R'.declaration nest (s.mv d f) else R'.stmt nest (s.mv d f)) := by
     split
     ·exact S.declaration _ _ h
     ·exact S.stmt _ _ h
    refine e.bind ?_
    intro a a' t h1 h2 h3
    exact itemLoop_mv nest k _ _ t (Int.le_trans h h1) ((QL.later h2 q).snoc h3)
theorem itemsF_mv (nest : Nat) (s : Ps) (h : 0 ≤ s.at_) : Sim d f (QT d f) s (itemsF L R nest s) (itemsF L' R' nest (s.mv d f)) := by
 unfold itemsF
 rw [M.needP h]
 refine ((itemLoop_mv M S nest KK _ _ _ (need0 h _) QL.nil).bind ?_).from_ (need_at s _) need_bad
 intro b b' u k1 k2 k3
 have hu := Int.le_trans (need0 h _) k1
 simp only [M.needP hu]
 exact Sim.pure (need_at u _) need_bad rfl (QT.mk M M.nil.symm (fun _ => rfl) (QL.later need_bad k3).2)
theorem blockF_mv (nest : Nat) (s : Ps) (h : 0 ≤ s.at_) : Sim d f (QT d f) s (blockF L R nest s) (blockF L' R' nest (s.mv d f)) := by
 unfold blockF
 rw [psmv_deep, psmv_push]
 split
 ·exact Sim.pure (Int.le_refl _) (fun e => by cases e) rfl (fun e => by cases e)
 ·refine ((itemsF_mv M S _ (s.into (.push s.env)) h).bind ?_).from_ (Int.le_refl _) id
  intro a a' t h1 h2 h3
  exact Sim.pure (Int.le_refl _) id rfl h3
theorem inParF_mv (nest : Nat) (s : Ps) (h : 0 ≤ s.at_) : Sim d f (QT d f) s (inParF L R nest s) (inParF L' R' nest (s.mv d f)) := by
 unfold inParF
 rw [M.needP h]
 refine ((S.expr _ _ (need0 h _)).bind ?_).from_ (need_at s _) need_bad
 intro a a' t h1 h2 h3
 exact Sim.pure (need_at t _) need_bad (M.needP (Int.le_trans (need0 h _) h1) _) (QT.later need_bad h3)
theorem perhapsF_mv (nest : Nat) (x : ByteArray) (s : Ps) (h : 0 ≤ s.at_) : Sim d f (QT d f) s (perhapsF L R nest x s) (perhapsF L' R' nest x (s.mv d f)) := by
 unfold perhapsF
 rw [M.isP h]
 split
 ·exact Sim.pure (need_at s _) need_bad (M.needP h _) (QT.mk M M.nil.symm (fun _ => rfl) (fun _ => rfl))
 ·refine (S.expr _ _ h).bind ?_
  intro a a' t h1 h2 h3
  exact Sim.pure (need_at t _) need_bad (M.needP (Int.le_trans h h1) _) (QT.later need_bad h3)
theorem loopF_mv (nest : Nat) (s : Ps) (h : 0 ≤ s.at_) : Sim d f (QL d f) s (loopF L R nest s) (loopF L' R' nest (s.mv d f)) := by
 unfold loopF
 have hp : 0 ≤ (s.into (.push s.env)).at_ := h
 have hn : 0 ≤ (needP L (s.into (.push s.env)) (⟨#[40]⟩ : ByteArray)).at_ := need0 hp _
 rw [psmv_push, M.needP hp]
 have hnl := need_at (L := L) (s.into (.push s.env)) (⟨#[40]⟩ : ByteArray)
 have hnb : (needP L (s.into (.push s.env)) (⟨#[40]⟩ : ByteArray)).bad = false → s.bad = false := fun hb => need_bad (s := s.into (.push s.env)) hb
 generalize needP L (s.into (.push s.env)) (⟨#[40]⟩ : ByteArray) = z at *
 have e : Sim d f (QT d f) z (if z.bad = false ∧ startsP L z = true then R.declaration nest z else perhapsF L R nest (⟨#[59]⟩ : ByteArray) z) (if (z.mv d f).bad = false ∧ startsP L' (z.mv d f) = true then R'.declaration nest (z.mv d f) else perhapsF L' R' nest (⟨#[59]⟩ : ByteArray) (z.mv d f)) := by
  rw [psmv_bad, M.starts hn]
  split
  ·exact S.declaration _ _ hn
  ·exact perhapsF_mv M S _ _ _ hn
 refine (e.bind ?_).from_ hnl hnb
 intro a a' t h1 h2 h3
 have ht := Int.le_trans hn h1
 refine (perhapsF_mv M S _ _ _ ht).bind ?_
 intro b b' u k1 k2 k3
 have hu := Int.le_trans ht k1
 refine (perhapsF_mv M S _ _ _ hu).bind ?_
 intro c c' v j1 j2 j3
 have hv := Int.le_trans hu j1
 refine (S.stmt _ _ hv).bind ?_
 intro e e' y i1 i2 i3
 refine Sim.pure (Int.le_refl _) id rfl ⟨rfl, fun hb => ?_⟩
 have b1 : y.bad = false := hb
 rw [i3 b1, j3 (i2 b1), k3 (j2 (i2 b1)), h3 (k2 (j2 (i2 b1)))]
 rfl
theorem wordIn_mv (nest : Nat) (w : ByteArray) (s : Ps) (h : 0 ≤ s.at_) : Sim d f (QL d f) s (wordIn L R nest w s) (wordIn L' R' nest w (s.mv d f)) := by
 unfold wordIn
 split
 ·refine (S.cond _ _ h).bind ?_
  intro a a' t h1 h2 h3
  have ht := Int.le_trans h h1
  simp only [M.needP ht]
  refine ((S.stmt _ _ (need0 ht _)).bind ?_).from_ (need_at t _) need_bad
  intro b b' u k1 k2 k3
  exact Sim.pure (Int.le_refl _) id rfl (QL.two (QT.later (fun hb => need_bad (k2 hb)) h3.2) k3)
 split
 ·rw [M.needP h]
  refine ((S.stmt _ _ (need0 h _)).bind ?_).from_ (need_at s _) need_bad
  intro b b' u k1 k2 k3
  exact Sim.pure (Int.le_refl _) id rfl (QL.one k3)
 split
 ·refine (inParF_mv M S _ _ h).bind ?_
  intro a a' t h1 h2 h3
  have ht := Int.le_trans h h1
  refine (S.stmt _ _ ht).bind ?_
  intro b b' u k1 k2 k3
  have hu := Int.le_trans ht k1
  simp only [M.hasW hu, psmv_up]
  split
  ·refine ((S.stmt _ _ (up0 hu)).bind ?_).from_ (up_le u) id
   intro c c' v j1 j2 j3
   refine Sim.pure (Int.le_refl _) id rfl ⟨rfl, fun hb => ?_⟩
   rw [j3 hb, k3 (j2 hb), h3 (k2 (j2 hb))]; rfl
  ·exact Sim.pure (Int.le_refl _) id rfl (QL.two (QT.later k2 h3) k3)
 split
 ·refine (inParF_mv M S _ _ h).bind ?_
  intro a a' t h1 h2 h3
  refine (S.stmt _ _ (Int.le_trans h h1)).bind ?_
  intro b b' u k1 k2 k3
  exact Sim.pure (Int.le_refl _) id rfl (QL.two (QT.later k2 h3) k3)
 split
 ·refine (S.stmt _ _ h).bind ?_
  intro a a' t h1 h2 h3
  have ht := Int.le_trans h h1
  simp only [M.hasW ht, psmv_up, psmv_fail]
  have e : (if hasW L t (⟨#[119,104,105,108,101]⟩ : ByteArray) = true then (t.up 1).mv d f else t.fail.mv d f) = (if hasW L t (⟨#[119,104,105,108,101]⟩ : ByteArray) = true then t.up 1 else t.fail).mv d f := by split <;> rfl
  rw [e]
  have hz : t.at_ ≤ (if hasW L t (⟨#[119,104,105,108,101]⟩ : ByteArray) = true then t.up 1 else t.fail).at_ := by split; exact up_le t; exact Int.le_refl _
  have hb : (if hasW L t (⟨#[119,104,105,108,101]⟩ : ByteArray) = true then t.up 1 else t.fail).bad = false → t.bad = false := by split; exact id; intro e; cases e
  generalize (if hasW L t (⟨#[119,104,105,108,101]⟩ : ByteArray) = true then t.up 1 else t.fail) = z at *
  refine ((inParF_mv M S _ _ (Int.le_trans ht hz)).bind ?_).from_ hz hb
  intro b b' u k1 k2 k3
  have hu := Int.le_trans (Int.le_trans ht hz) k1
  exact Sim.pure (need_at u _) need_bad (M.needP hu _) (QL.two (QT.later (fun x => hb (k2 (need_bad x))) h3) (QT.later need_bad k3))
 split
 ·exact loopF_mv M S _ _ h
 split
 ·exact Sim.pure (need_at s _) need_bad (M.needP h _) QL.nil
 ·rw [M.isP h]
  split
  ·exact Sim.pure (need_at s _) need_bad (M.needP h _) QL.nil
  ·refine (S.expr _ _ h).bind ?_
   intro a a' t h1 h2 h3
   exact Sim.pure (need_at t _) need_bad (M.needP (Int.le_trans h h1) _) (QL.one (QT.later need_bad h3))
theorem wordF_mv (nest : Nat) (w : ByteArray) (s : Ps) (h : 0 ≤ s.at_) : Sim d f (QW d f) s (wordF L R nest w s) (wordF L' R' nest w (s.mv d f)) := by
 unfold wordF
 split
 ·have hi : 0 ≤ (identP L (s.up 1) eB).2.at_ := ident0 (up0 h) _
  simp only [psmv_up, M.ident2 (up0 h), M.identT (up0 h), M.needP hi]
  exact Sim.pure (Int.le_trans (up_le s) (Int.le_trans (ident_at _ _) (need_at _ _))) (fun hb => ident_bad (s := s.up 1) (need_bad hb)) rfl ⟨rfl, fun _ => QT.mk M rfl (fun _ => rfl) (fun _ => rfl)⟩
 split
 ·rw [psmv_up]
  refine ((wordIn_mv M S _ _ _ (up0 h)).bind ?_).from_ (up_le s) id
  intro a a' t h1 h2 h3
  exact Sim.pure (Int.le_refl _) id rfl ⟨rfl, fun _ => QT.mk M M.nil.symm (fun _ => rfl) h3.2⟩
 ·exact Sim.pure (Int.le_refl _) id rfl ⟨rfl, fun e => by cases e⟩
theorem exprS_mv (nest : Nat) (s : Ps) (h : 0 ≤ s.at_) : Sim d f (QT d f) s (exprS L R nest s) (exprS L' R' nest (s.mv d f)) := by
 unfold exprS
 refine (S.expr _ _ h).bind ?_
 intro a a' t h1 h2 h3
 have ht := Int.le_trans h h1
 simp only [M.needP ht]
 exact Sim.pure (need_at t _) need_bad rfl (QT.mk M M.nil.symm (fun _ => rfl) (QL.one (QT.later need_bad h3)).2)
theorem stmtF_mv (nest : Nat) (s : Ps) (h : 0 ≤ s.at_) : Sim d f (QT d f) s (stmtF L R nest s) (stmtF L' R' nest (s.mv d f)) := by
 unfold stmtF
 rw [psmv_deep, M.isP h, M.kindAt h, M.behP h, M.hasP h]
 split
 ·exact Sim.pure (Int.le_refl _) (fun e => by cases e) rfl (fun e => by cases e)
 split
 ·exact S.block _ _ h
 split
 ·rw [psmv_up, M.textAt h]
  refine ((S.stmt _ _ (up0' h)).bind ?_).from_ (up_le' s) id
  intro a a' t h1 h2 h3
  exact Sim.pure (Int.le_refl _) id rfl (QT.mk M rfl (fun _ => rfl) (QL.one h3).2)
 split
 ·rw [psmv_up]
  exact Sim.pure (up_le s) id rfl (QT.mk M M.nil.symm (fun _ => rfl) (fun _ => rfl))
 by_cases hk : (tokP L s.at_).kind = 2
 ·rw [if_pos hk, if_pos hk, M.fixAt h (by omega)]
  refine (wordF_mv M S _ _ s h).bind ?_
  rintro ⟨a, b⟩ ⟨a', b'⟩ t h1 h2 ⟨h3, h4⟩
  simp only at h3 h4 ⊢
  subst h3
  by_cases hb : b' = true
  ·rw [if_pos hb, if_pos hb]
   exact Sim.pure (Int.le_refl _) id rfl (h4 hb)
  ·rw [if_neg hb, if_neg hb]
   exact exprS_mv M S _ t (Int.le_trans h h1)
 ·rw [if_neg hk, if_neg hk]
  exact exprS_mv M S _ s h
theorem step_sim : RSim d f (stepR L R) (stepR L' R') where
 expr := exprF_mv M S
 assign := assignF_mv M S
 cond := condF_mv M S
 binary := binaryF_mv M S
 cast := castF_mv M S
 unary := unaryF_mv M S
 init := initF_mv M S
 typeName := typeNameF_mv S M
 specs := specsF_mv M S
 declr := declrF_mv S
 pointer := pointerF_mv M S
 declaration := declarationF_mv M S
 stmt := stmtF_mv M S
 block := blockF_mv M S
end
theorem rec_sim {d : Int} {f : ByteArray → ByteArray} {L L' : List Ct} (M : Mv d f L L') : ∀ n, RSim d f (recN L n) (recN L' n)
 | 0 => ⟨fun _ _ _ => Sim.none, fun _ _ _ => Sim.none, fun _ _ _ => Sim.none, fun _ _ _ _ => Sim.none, fun _ _ _ => Sim.none, fun _ _ _ => Sim.none, fun _ _ _ => Sim.none, fun _ _ _ => Sim.none, fun _ _ _ _ => Sim.none, fun _ _ _ _ => Sim.none, fun _ _ _ _ => Sim.none, fun _ _ _ => Sim.none, fun _ _ _ => Sim.none, fun _ _ _ => Sim.none⟩
 | n + 1 => step_sim M (rec_sim M n)
end Go.Proofs.YtllbbacnakoomaaGreatDoor
