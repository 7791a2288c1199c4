/- Texts of this seat's proofs, laid into one file. -/
import Derived.Test.YtllbbacnakoomaaGreatDoorS2
set_option maxRecDepth 100000
set_option maxHeartbeats 16000000
namespace Go.Proofs.YtllbbacnakoomaaGreatDoor
set_option linter.unusedVariables false
section
variable {d : Int} {f : ByteArray → ByteArray} {L L' : List Ct} {R R' : Rec}
theorem up0 {s : Ps} (h : 0 ≤ s.at_) : 0 ≤ (s.up 1).at_ := by simp only [Ps.up]; omega
theorem up_le (s : Ps) : s.at_ ≤ (s.up 1).at_ := by simp only [Ps.up]; omega
theorem up0' {s : Ps} (h : 0 ≤ s.at_) : 0 ≤ (s.up 2).at_ := by simp only [Ps.up]; omega
theorem up_le' (s : Ps) : s.at_ ≤ (s.up 2).at_ := by simp only [Ps.up]; omega
theorem need0 {s : Ps} (h : 0 ≤ s.at_) (x : ByteArray) : 0 ≤ (needP L s x).at_ := Int.le_trans h (need_at s x)
theorem ident0 {s : Ps} (h : 0 ≤ s.at_) (x : ByteArray) : 0 ≤ (identP L s x).2.at_ := Int.le_trans h (ident_at s x)
theorem QT.later {b c : Bool} {n n' : T} (h : b = false → c = false) (q : QT d f c n n') : QT d f b n n' := fun hb => q (h hb)
theorem QL.later {b c : Bool} {n n' : List T} (h : b = false → c = false) (q : QL d f c n n') : QL d f b n n' := ⟨q.1, fun hb => q.2 (h hb)⟩
theorem QT.z (hn : f eB = eB) (n n' : T) : QT d f true n n' := fun h => by cases h
theorem QT.mk (M : Mv d f L L') {t : Ps} {b : Bool} {k x x' : ByteArray} {fro fro' : Int} {ks ks' : List T} (hx : x' = f x) (hf : b = false → fro' = fro + d) (hk : b = false → ks' = ks.map (T.mv d f)) : QT d f b (mkP k x fro t ks) (mkP k x' fro' (t.mv d f) ks') := fun hb => by
 unfold mkP; rw [mv_mk, hx, hf hb, hk hb]; rfl
theorem QL.snoc {b : Bool} {l l' : List T} {n n' : T} (q : QL d f b l l') (h : QT d f b n n') : QL d f b (l ++ [n]) (l' ++ [n']) :=
 ⟨by simp [q.1], fun hb => by rw [q.2 hb, h hb]; simp⟩
theorem QL.one {b : Bool} {n n' : T} (h : QT d f b n n') : QL d f b [n] [n'] := ⟨rfl, fun hb => by rw [h hb]; rfl⟩
theorem QL.two {b : Bool} {n n' m m' : T} (h : QT d f b n n') (k : QT d f b m m') : QL d f b [n, m] [n', m'] := ⟨rfl, fun hb => by rw [h hb, k hb]; rfl⟩
theorem QL.nil {b : Bool} : QL d f b [] [] := ⟨rfl, fun _ => rfl⟩
theorem QT.fr {b : Bool} {n n' : T} (h : QT d f b n n') : b = false → n'.from_ = n.from_ + d := fun hb => by rw [h hb, mv_from]
theorem QT.leaf (M : Mv d f L L') {s : Ps} (h : 0 ≤ s.at_) (b : Bool) (k : ByteArray) : QT d f b (leafP L s k) (leafP L' (s.mv d f) k) := fun _ => M.leafP h k
variable (M : Mv d f L L') (S : RSim d f R R')
include M S
theorem exprLoop_mv (nest : Nat) : ∀ k n n' s, 0 ≤ s.at_ → QT d f s.bad n n' → Sim d f (QT d f) s (exprLoop L R nest k n s) (exprLoop L' R' nest k n' (s.mv d f))
 | 0, n, n', s, h, q => Sim.none
 | k + 1, n, n', s, h, q => by
   unfold exprLoop
   rw [M.hasP h]
   split
   ·rw [psmv_up]
    refine ((S.assign _ _ (up0 h)).bind ?_).from_ (up_le s) id
    intro a a' t h1 h2 h3
    exact exprLoop_mv nest k _ _ t (Int.le_trans (up0 h) h1) (QT.mk M M.nil.symm (QT.later h2 q).fr (QL.two (QT.later h2 q) h3).2)
   ·exact Sim.pure (Int.le_refl _) id rfl q
theorem exprF_mv (nest : Nat) (s : Ps) (h : 0 ≤ s.at_) : Sim d f (QT d f) s (exprF L R nest s) (exprF L' R' nest (s.mv d f)) := by
 unfold exprF
 rw [psmv_deep]
 split
 ·exact Sim.pure (Int.le_refl _) (fun e => by cases e) rfl (QT.z M.nil _ _)
 ·refine (S.assign _ _ h).bind ?_
  intro a a' t h1 h2 h3
  exact exprLoop_mv M S nest KK _ _ t (Int.le_trans h h1) h3
theorem assignF_mv (nest : Nat) (s : Ps) (h : 0 ≤ s.at_) : Sim d f (QT d f) s (assignF L R nest s) (assignF L' R' nest (s.mv d f)) := by
 unfold assignF
 rw [psmv_deep]
 split
 ·exact Sim.pure (Int.le_refl _) (fun e => by cases e) rfl (QT.z M.nil _ _)
 ·refine (S.cond _ _ h).bind ?_
  intro a a' t h1 h2 h3
  have ht := Int.le_trans h h1
  have hc : ((t.mv d f).bad = true ∨ a'.2 = false ∨ (tokP L' (t.mv d f).at_).kind ≠ 7 ∨ (assignsL.any fun x => decide (x = (tokP L' (t.mv d f).at_).text)) = false) = (t.bad = true ∨ a.2 = false ∨ (tokP L t.at_).kind ≠ 7 ∨ (assignsL.any fun x => decide (x = (tokP L t.at_).text)) = false) := by
   rw [M.kindAt ht, h3.1, psmv_bad]
   by_cases hk : (tokP L t.at_).kind = 7
   ·rw [M.fixAt ht (by omega)]
   ·simp [hk]
  simp only [hc]
  split
  ·exact Sim.pure (Int.le_refl _) id rfl h3.2
  ·rw [psmv_up]
   refine ((S.assign _ _ (up0 ht)).bind ?_).from_ (up_le t) id
   intro b b' u k1 k2 k3
   refine Sim.pure (Int.le_refl _) id rfl (QT.mk M (M.textAt ht) (QT.later k2 h3.2).fr (QL.two (QT.later k2 h3.2) k3).2)
theorem condF_mv (nest : Nat) (s : Ps) (h : 0 ≤ s.at_) : Sim d f (QB d f) s (condF L R nest s) (condF L' R' nest (s.mv d f)) := by
 unfold condF
 rw [psmv_deep]
 split
 ·exact Sim.pure (Int.le_refl _) (fun e => by cases e) rfl ⟨rfl, QT.z M.nil _ _⟩
 ·refine (S.binary _ _ _ h).bind ?_
  intro a a' t h1 h2 h3
  have ht := Int.le_trans h h1
  simp only [M.hasP ht]
  split
  ·simp only [psmv_up]
   refine ((S.expr _ _ (up0 ht)).bind ?_).from_ (up_le t) id
   intro b b' u k1 k2 k3
   have hu := Int.le_trans (up0 ht) k1
   simp only [M.needP hu]
   refine ((S.cond _ _ (need0 hu _)).bind ?_).from_ (need_at u _) need_bad
   intro c c' v j1 j2 j3
   have j4 : v.bad = false → u.bad = false := fun hb => need_bad (j2 hb)
   have j5 : v.bad = false → t.bad = false := fun hb => k2 (j4 hb)
   exact Sim.pure (Int.le_refl _) id rfl ⟨rfl, QT.mk M M.nil.symm (QT.later j5 h3.2).fr fun hb => by rw [h3.2 (j5 hb), k3 (j4 hb), j3.2 hb]; rfl⟩
  ·exact Sim.pure (Int.le_refl _) id rfl h3
theorem binLoop_mv (least nest : Nat) : ∀ k n n' s, 0 ≤ s.at_ → QB d f s.bad n n' → Sim d f (QB d f) s (binLoop L R least nest k n s) (binLoop L' R' least nest k n' (s.mv d f))
 | 0, n, n', s, h, q => Sim.none
 | k + 1, n, n', s, h, q => by
   unfold binLoop
   rw [M.level h, psmv_bad]
   split
   ·exact Sim.pure (Int.le_refl _) id rfl q
   ·rw [psmv_up]
    refine ((S.binary _ _ _ (up0 h)).bind ?_).from_ (up_le s) id
    intro a a' t h1 h2 h3
    have q' := QT.later h2 q.2
    exact binLoop_mv least nest k _ _ t (Int.le_trans (up0 h) h1) ⟨rfl, QT.mk M (M.textAt h) (QT.fr q') (QL.two q' h3.2).2⟩
theorem binaryF_mv (least nest : Nat) (s : Ps) (h : 0 ≤ s.at_) : Sim d f (QB d f) s (binaryF L R least nest s) (binaryF L' R' least nest (s.mv d f)) := by
 unfold binaryF
 refine (S.cast _ _ h).bind ?_
 intro a a' t h1 h2 h3
 exact binLoop_mv M S least nest KK _ _ t (Int.le_trans h h1) h3
theorem inBr_mv (nest : Nat) (s : Ps) (h : 0 ≤ s.at_) : Sim d f (QT d f) s (inBrF L R nest s) (inBrF L' R' nest (s.mv d f)) := by
 unfold inBrF
 rw [M.needP h]
 refine ((S.typeName _ _ (need0 h _)).bind ?_).from_ (need_at s _) need_bad
 intro a a' t h1 h2 h3
 exact Sim.pure (need_at t _) need_bad (M.needP (Int.le_trans (need0 h _) h1) _) (QT.later need_bad h3)
theorem argsLoop_mv (nest : Nat) : ∀ k n n' s, 0 ≤ s.at_ → QL d f s.bad n n' → Sim d f (QL d f) s (argsLoop L R nest k n s) (argsLoop L' R' nest k n' (s.mv d f))
 | 0, n, n', s, h, q => Sim.none
 | k + 1, n, n', s, h, q => by
   unfold argsLoop
   rw [M.hasP h]
   split
   ·rw [psmv_up]
    refine ((S.assign _ _ (up0 h)).bind ?_).from_ (up_le s) id
    intro a a' t h1 h2 h3
    exact argsLoop_mv nest k _ _ t (Int.le_trans (up0 h) h1) ((QL.later h2 q).snoc h3)
   ·exact Sim.pure (Int.le_refl _) id rfl q
theorem callF_mv (n n' : T) (nest : Nat) (s : Ps) (h : 0 ≤ s.at_) (q : QT d f s.bad n n') : Sim d f (QT d f) s (callF L R n nest s) (callF L' R' n' nest (s.mv d f)) := by
 unfold callF
 rw [M.hasP h]
 split
 ·exact Sim.pure (up_le s) id (psmv_up _ _) (by rw [psmv_up]; exact QT.mk M M.nil.symm (QT.fr q) (QL.one q).2)
 ·refine (S.assign _ _ h).bind ?_
  intro a a' t h1 h2 h3
  have ht := Int.le_trans h h1
  have q2 := QT.later h2 q
  refine (argsLoop_mv M S nest KK _ _ t ht (QL.two q2 h3)).bind ?_
  intro ks ks' u k1 k2 k3
  have hu := Int.le_trans ht k1
  refine Sim.pure (need_at u _) need_bad (M.needP hu _) ?_
  dsimp only
  rw [M.needP hu]
  exact QT.mk M M.nil.symm (QT.later (fun hb => k2 (need_bad hb)) q2).fr (QL.later need_bad k3).2
theorem postLoop_mv (nest : Nat) : ∀ k n n' s, 0 ≤ s.at_ → QT d f s.bad n n' → Sim d f (QT d f) s (postLoop L R nest k n s) (postLoop L' R' nest k n' (s.mv d f))
 | 0, n, n', s, h, q => Sim.none
 | k + 1, n, n', s, h, q => by
   unfold postLoop
   simp only [M.isP h, psmv_bad, psmv_up]
   by_cases hb : s.bad = true
   ·rw [if_pos hb, if_pos hb]; exact Sim.pure (Int.le_refl _) id rfl q
   rw [if_neg hb, if_neg hb]
   by_cases p1 : isP L s (⟨#[91]⟩ : ByteArray) = true
   ·rw [if_pos p1, if_pos p1]
    refine ((S.expr _ _ (up0 h)).bind ?_).from_ (up_le s) id
    intro a a' t h1 h2 h3
    have ht := Int.le_trans (up0 h) h1
    simp only [M.needP ht]
    refine (postLoop_mv nest k _ _ _ (need0 ht _) ?_).from_ (need_at t _) need_bad
    exact QT.mk M M.nil.symm (QT.later (fun hb => h2 (need_bad hb)) q).fr (QL.two (QT.later (fun hb => h2 (need_bad hb)) q) (QT.later need_bad h3)).2
   rw [if_neg p1, if_neg p1]
   by_cases p2 : isP L s (⟨#[40]⟩ : ByteArray) = true
   ·rw [if_pos p2, if_pos p2]
    refine ((callF_mv M S n n' nest _ (up0 h) q).bind ?_).from_ (up_le s) id
    intro a a' t h1 h2 h3
    exact postLoop_mv nest k _ _ t (Int.le_trans (up0 h) h1) h3
   rw [if_neg p2, if_neg p2]
   by_cases p3 : (isP L s (⟨#[46]⟩ : ByteArray) || isP L s (⟨#[45,62]⟩ : ByteArray)) = true
   ·rw [if_pos p3, if_pos p3]
    rw [M.ident2 (up0 h), M.identT (up0 h)]
    refine (postLoop_mv nest k _ _ _ (ident0 (up0 h) _) ?_).from_ (Int.le_trans (up_le s) (ident_at _ _)) (fun hb => ident_bad (s := s.up 1) hb)
    have q2 : QT d f (identP L (s.up 1) eB).2.bad n n' := QT.later (fun hb => ident_bad (s := s.up 1) hb) q
    refine QT.mk M ?_ q2.fr (QL.one q2).2
    rcases Bool.or_eq_true _ _ ▸ p3 with p | p
    ·have hk : (tokP L s.at_).text = (⟨#[46]⟩ : ByteArray) := by unfold isP isT at p; simp at p; exact p.2
     have hk2 : (tokP L s.at_).kind ≠ 1 := by unfold isP isT at p; simp at p; omega
     rw [M.fixAt h hk2, hk, M.dot]
    ·have hk : (tokP L s.at_).text = (⟨#[45,62]⟩ : ByteArray) := by unfold isP isT at p; simp at p; exact p.2
     have hk2 : (tokP L s.at_).kind ≠ 1 := by unfold isP isT at p; simp at p; omega
     rw [M.fixAt h hk2, hk, M.arrow]
   rw [if_neg p3, if_neg p3]
   split
   ·exact (postLoop_mv nest k _ _ _ (up0 h) (QT.mk M (M.textAt h) (QT.fr q) (QL.one q).2)).from_ (up_le s) id
   ·exact Sim.pure (Int.le_refl _) id rfl q
theorem postF_mv (n n' : T) (nest : Nat) (s : Ps) (h : 0 ≤ s.at_) (q : QT d f s.bad n n') : Sim d f (QT d f) s (postF L R n nest s) (postF L' R' n' nest (s.mv d f)) := postLoop_mv M S nest KK n n' s h q
theorem literalF_mv (fro : Int) (n n' : T) (nest : Nat) (s : Ps) (h : 0 ≤ s.at_) (q : QT d f s.bad n n') : Sim d f (QT d f) s (literalF L R fro n nest s) (literalF L' R' (fro + d) n' nest (s.mv d f)) := by
 unfold literalF
 rw [M.isP h]
 have e : (if isP L s (⟨#[123]⟩ : ByteArray) = true then s.mv d f else (s.mv d f).fail) = (if isP L s (⟨#[123]⟩ : ByteArray) = true then s else s.fail).mv d f := by split <;> rfl
 have hs : (if isP L s (⟨#[123]⟩ : ByteArray) = true then s else s.fail).at_ = s.at_ := by split <;> rfl
 have hb : (if isP L s (⟨#[123]⟩ : ByteArray) = true then s else s.fail).bad = false → s.bad = false := by split; exact id; intro e; cases e
 rw [e]
 refine ((S.init _ _ (by omega)).bind ?_).from_ (by omega) hb
 intro a a' t h1 h2 h3
 have q2 := QT.later (fun x => hb (h2 x)) q
 exact postF_mv M S _ _ nest t (by omega) (QT.mk M M.nil.symm (fun _ => rfl) (QL.two q2 h3).2)
theorem castF_mv (nest : Nat) (s : Ps) (h : 0 ≤ s.at_) : Sim d f (QB d f) s (castF L R nest s) (castF L' R' nest (s.mv d f)) := by
 unfold castF
 rw [M.bracketed h, psmv_bad]
 split
 ·refine (S.unary _ _ h).bind ?_
  intro a a' t h1 h2 h3
  exact Sim.pure (Int.le_refl _) id rfl ⟨rfl, h3⟩
 ·refine (inBr_mv M S nest s h).bind ?_
  intro a a' t h1 h2 h3
  have ht := Int.le_trans h h1
  simp only [M.isP ht, psmv_bad]
  split
  ·refine (literalF_mv M S s.at_ a a' nest t ht h3).bind ?_
   intro b b' u k1 k2 k3
   exact Sim.pure (Int.le_refl _) id rfl ⟨rfl, k3⟩
  ·refine (S.cast _ _ ht).bind ?_
   intro b b' u k1 k2 k3
   exact Sim.pure (Int.le_refl _) id rfl ⟨rfl, QT.mk M M.nil.symm (fun _ => rfl) (QL.two (QT.later k2 h3) k3.2).2⟩
theorem sizeF_mv (fro : Int) (nest : Nat) (s : Ps) (h : 0 ≤ s.at_) : Sim d f (QT d f) s (sizeF L R fro nest s) (sizeF L' R' (fro + d) nest (s.mv d f)) := by
 unfold sizeF
 rw [M.bracketed h]
 split
 ·refine (S.unary _ _ h).bind ?_
  intro a a' t h1 h2 h3
  exact Sim.pure (Int.le_refl _) id rfl (QT.mk M M.nil.symm (fun _ => rfl) (QL.one h3).2)
 ·refine (inBr_mv M S nest s h).bind ?_
  intro a a' t h1 h2 h3
  have ht := Int.le_trans h h1
  simp only [M.isP ht, psmv_bad]
  split
  ·exact Sim.pure (Int.le_refl _) id rfl (QT.mk M M.nil.symm (fun _ => rfl) (QL.one h3).2)
  ·refine (literalF_mv M S s.at_ a a' nest t ht h3).bind ?_
   intro b b' u k1 k2 k3
   exact Sim.pure (Int.le_refl _) id rfl (QT.mk M M.nil.symm (fun _ => rfl) (QL.one k3).2)
theorem genNext_mv (nest : Nat) (s : Ps) (h : 0 ≤ s.at_) : Sim d f (QT d f) s (genNext L R nest s) (genNext L' R' nest (s.mv d f)) := by
 unfold genNext
 rw [M.hasW h]
 split
 ·rw [psmv_up, M.needP (up0 h)]
  refine ((S.assign _ _ (need0 (up0 h) _)).bind ?_).from_ (Int.le_trans (up_le s) (need_at _ _)) (fun hb => need_bad (s := s.up 1) hb)
  intro a a' t h1 h2 h3
  exact Sim.pure (Int.le_refl _) id rfl (QT.mk M M.nil.symm (fun _ => rfl) (QL.one h3).2)
 ·refine (S.typeName _ _ h).bind ?_
  intro a a' t h1 h2 h3
  have ht := Int.le_trans h h1
  simp only [M.needP ht]
  refine ((S.assign _ _ (need0 ht _)).bind ?_).from_ (need_at t _) need_bad
  intro b b' u k1 k2 k3
  exact Sim.pure (Int.le_refl _) id rfl (QT.mk M M.nil.symm (fun _ => rfl) (QL.two (QT.later (fun hb => need_bad (k2 hb)) h3) k3).2)
theorem genLoop_mv (nest : Nat) : ∀ k n n' s, 0 ≤ s.at_ → QL d f s.bad n n' → Sim d f (QL d f) s (genLoop L R nest k n s) (genLoop L' R' nest k n' (s.mv d f))
 | 0, n, n', s, h, q => Sim.none
 | k + 1, n, n', s, h, q => by
   unfold genLoop
   refine (genNext_mv M S nest s h).bind ?_
   intro a a' t h1 h2 h3
   have ht := Int.le_trans h h1
   simp only [M.hasP ht]
   split
   ·rw [psmv_up]
    exact (genLoop_mv nest k _ _ _ (up0 ht) ((QL.later h2 q).snoc h3)).from_ (up_le t) id
   ·exact Sim.pure (Int.le_refl _) id rfl ((QL.later h2 q).snoc h3)
theorem genericF_mv (fro : Int) (nest : Nat) (s : Ps) (h : 0 ≤ s.at_) : Sim d f (QT d f) s (genericF L R fro nest s) (genericF L' R' (fro + d) nest (s.mv d f)) := by
 unfold genericF
 rw [M.needP h]
 refine ((S.assign _ _ (need0 h _)).bind ?_).from_ (need_at s _) need_bad
 intro a a' t h1 h2 h3
 have ht := Int.le_trans (need0 h _) h1
 simp only [M.needP ht]
 refine ((genLoop_mv M S nest KK _ _ _ (need0 ht _) (QL.one (QT.later need_bad h3))).bind ?_).from_ (need_at t _) need_bad
 intro b b' u k1 k2 k3
 have hu := Int.le_trans (need0 ht _) k1
 simp only [M.needP hu]
 exact Sim.pure (need_at u _) need_bad rfl (QT.mk M M.nil.symm (fun _ => rfl) (QL.later need_bad k3).2)
theorem primaryF_mv (nest : Nat) (s : Ps) (h : 0 ≤ s.at_) : Sim d f (QT d f) s (primaryF L R nest s) (primaryF L' R' nest (s.mv d f)) := by
 unfold primaryF
 simp only [M.kindAt h, M.textAt h, psmv_env, M.isType, M.hasW h, M.hasP h, psmv_up]
 split
 ·exact Sim.pure (up_le s) id rfl (QT.leaf M h _ _)
 split
 ·exact Sim.pure (up_le s) id rfl (QT.leaf M h _ _)
 split
 ·exact Sim.pure (up_le s) id rfl (QT.leaf M h _ _)
 split
 ·exact Sim.pure (up_le s) id rfl (QT.leaf M h _ _)
 split
 ·exact Sim.pure (up_le s) id rfl (QT.leaf M h _ _)
 split
 ·exact (genericF_mv M S s.at_ nest _ (up0 h)).from_ (up_le s) id
 split
 ·refine ((S.expr _ _ (up0 h)).bind ?_).from_ (up_le s) id
  intro a a' t h1 h2 h3
  have ht := Int.le_trans (up0 h) h1
  simp only [M.needP ht]
  refine Sim.pure (need_at t _) need_bad rfl ?_
  intro hb
  rw [h3 (need_bad hb), mv_mk, mv_kind, mv_text, mv_kids]
  rfl
 ·exact Sim.pure (Int.le_refl _) (fun e => by cases e) rfl (QT.z M.nil _ _)
theorem unaryF_mv (nest : Nat) (s : Ps) (h : 0 ≤ s.at_) : Sim d f (QT d f) s (unaryF L R nest s) (unaryF L' R' nest (s.mv d f)) := by
 unfold unaryF
 simp only [M.isP h, M.wordP h, M.bracketed h, psmv_bad, psmv_up]
 split
 ·rename_i hb; exact Sim.pure (Int.le_refl _) id rfl (by rw [hb]; exact QT.z M.nil _ _)
 split
 ·refine ((S.unary _ _ (up0 h)).bind ?_).from_ (up_le s) id
  intro a a' t h1 h2 h3
  exact Sim.pure (Int.le_refl _) id rfl (QT.mk M (M.textAt h) (fun _ => rfl) (QL.one h3).2)
 split
 ·refine ((S.cast _ _ (up0 h)).bind ?_).from_ (up_le s) id
  intro a a' t h1 h2 h3
  exact Sim.pure (Int.le_refl _) id rfl (QT.mk M (M.textAt h) (fun _ => rfl) (QL.one h3.2).2)
 split
 ·exact (sizeF_mv M S s.at_ nest _ (up0 h)).from_ (up_le s) id
 split
 ·refine ((inBr_mv M S nest _ (up0 h)).bind ?_).from_ (up_le s) id
  intro a a' t h1 h2 h3
  exact Sim.pure (Int.le_refl _) id rfl (QT.mk M M.nil.symm (fun _ => rfl) (QL.one h3).2)
 split
 ·refine (inBr_mv M S nest s h).bind ?_
  intro a a' t h1 h2 h3
  exact literalF_mv M S s.at_ a a' nest t (Int.le_trans h h1) h3
 ·refine (primaryF_mv M S nest s h).bind ?_
  intro a a' t h1 h2 h3
  exact postF_mv M S a a' nest t (Int.le_trans h h1) h3
theorem elLoop_mv (nest : Nat) (fro : Int) : ∀ k n n' s, 0 ≤ s.at_ → QL d f s.bad n n' → Sim d f (QT d f) s (elLoop L R nest fro k n s) (elLoop L' R' nest (fro + d) k n' (s.mv d f))
 | 0, n, n', s, h, q => Sim.none
 | k + 1, n, n', s, h, q => by
   unfold elLoop
   simp only [M.hasP h, psmv_up]
   split
   ·refine ((S.cond _ _ (up0 h)).bind ?_).from_ (up_le s) id
    intro a a' t h1 h2 h3
    have ht := Int.le_trans (up0 h) h1
    simp only [M.needP ht]
    exact (elLoop_mv nest fro k _ _ _ (need0 ht _) ((QL.later (fun hb => h2 (need_bad hb)) q).snoc (QT.mk M M.nil.symm (fun _ => rfl) (QL.one (QT.later need_bad h3.2)).2))).from_ (need_at t _) need_bad
   split
   ·rw [M.ident2 (up0 h), M.identT (up0 h)]
    exact (elLoop_mv nest fro k _ _ _ (ident0 (up0 h) _) ((QL.later (fun hb => ident_bad (s := s.up 1) hb) q).snoc (QT.mk M rfl (fun _ => rfl) (fun _ => rfl)))).from_ (Int.le_trans (up_le s) (ident_at _ _)) (fun hb => ident_bad (s := s.up 1) hb)
   rw [q.1]
   split
   ·exact S.init _ _ h
   ·rw [M.needP h]
    refine ((S.init _ _ (need0 h _)).bind ?_).from_ (need_at s _) need_bad
    intro a a' t h1 h2 h3
    exact Sim.pure (Int.le_refl _) id rfl (QT.mk M M.nil.symm (fun _ => rfl) ((QL.later (fun hb => need_bad (h2 hb)) q).snoc h3).2)
theorem elementF_mv (nest : Nat) (s : Ps) (h : 0 ≤ s.at_) : Sim d f (QT d f) s (elementF L R nest s) (elementF L' R' nest (s.mv d f)) :=
 elLoop_mv M S nest s.at_ KK [] [] s h QL.nil
theorem initLoop_mv (nest : Nat) : ∀ k n n' s, 0 ≤ s.at_ → QL d f s.bad n n' → Sim d f (QL d f) s (initLoop L R nest k n s) (initLoop L' R' nest k n' (s.mv d f))
 | 0, n, n', s, h, q => Sim.none
 | k + 1, n, n', s, h, q => by
   unfold initLoop
   simp only [M.hasP h, psmv_up, M.isP (up0 h)]
   split
   ·split
    ·exact Sim.pure (up_le s) id rfl q
    ·refine ((elementF_mv M S _ _ (up0 h)).bind ?_).from_ (up_le s) id
     intro a a' t h1 h2 h3
     exact initLoop_mv nest k _ _ t (Int.le_trans (up0 h) h1) ((QL.later h2 q).snoc h3)
   ·exact Sim.pure (Int.le_refl _) id rfl q
theorem initF_mv (nest : Nat) (s : Ps) (h : 0 ≤ s.at_) : Sim d f (QT d f) s (initF L R nest s) (initF L' R' nest (s.mv d f)) := by
 unfold initF
 simp only [psmv_deep, M.hasP h, psmv_up]
 split
 ·exact Sim.pure (Int.le_refl _) (fun e => by cases e) rfl (QT.z M.nil _ _)
 split
 ·refine ((elementF_mv M S _ _ (up0 h)).bind ?_).from_ (up_le s) id
  intro a a' t h1 h2 h3
  have ht := Int.le_trans (up0 h) h1
  refine (initLoop_mv M S nest KK _ _ t ht (QL.one h3)).bind ?_
  intro b b' u k1 k2 k3
  have hu := Int.le_trans ht k1
  simp only [M.needP hu]
  exact Sim.pure (need_at u _) need_bad rfl (QT.mk M M.nil.symm (fun _ => rfl) (QL.later need_bad k3).2)
 ·exact S.assign _ _ h
end
end Go.Proofs.YtllbbacnakoomaaGreatDoor
namespace Go.Proofs.YtllbbacnakoomaaGreatDoor
set_option linter.unusedVariables false
section
variable {d : Int} {f : ByteArray → ByteArray} {L L' : List Ct} {R R' : Rec}
variable (M : Mv d f L L') (S : RSim d f R R')
include M S
theorem alignF_mv (fro : Int) (nest : Nat) (s : Ps) (h : 0 ≤ s.at_) : Sim d f (QT d f) s (alignF L R fro nest s) (alignF L' R' (fro + d) nest (s.mv d f)) := by
 unfold alignF
 rw [M.needP h, M.starts (need0 h _)]
 have e : Sim d f (QT d f) (needP L s (⟨#[40]⟩ : ByteArray)) (if startsP L (needP L s (⟨#[40]⟩ : ByteArray)) = true then R.typeName nest (needP L s (⟨#[40]⟩ : ByteArray)) else (R.cond nest (needP L s (⟨#[40]⟩ : ByteArray))).bind fun c => some (c.1.1, c.2)) (if startsP L (needP L s (⟨#[40]⟩ : ByteArray)) = true then R'.typeName nest ((needP L s (⟨#[40]⟩ : ByteArray)).mv d f) else (R'.cond nest ((needP L s (⟨#[40]⟩ : ByteArray)).mv d f)).bind fun c => some (c.1.1, c.2)) := by
  split
  ·exact S.typeName _ _ (need0 h _)
  ·refine (S.cond _ _ (need0 h _)).bind ?_
   intro a a' t h1 h2 h3
   exact Sim.pure (Int.le_refl _) id rfl h3.2
 refine (e.bind ?_).from_ (need_at s _) need_bad
 intro a a' t h1 h2 h3
 have ht := Int.le_trans (need0 h _) h1
 simp only [M.needP ht]
 exact Sim.pure (need_at t _) need_bad rfl (QT.mk M M.nil.symm (fun _ => rfl) (QL.one (QT.later need_bad h3)).2)
theorem assertionF_mv (nest : Nat) (s : Ps) (h : 0 ≤ s.at_) : Sim d f (QT d f) s (assertionF L R nest s) (assertionF L' R' nest (s.mv d f)) := by
 unfold assertionF
 rw [psmv_up, M.needP (up0 h)]
 refine ((S.cond _ _ (need0 (up0 h) _)).bind ?_).from_ (Int.le_trans (up_le s) (need_at _ _)) (fun hb => need_bad (s := s.up 1) hb)
 intro a a' t h1 h2 h3
 have ht := Int.le_trans (need0 (up0 h) _) h1
 have hu := need0 (L := L) ht (⟨#[44]⟩ : ByteArray)
 simp only [M.needP ht, psmv_bad, M.kindAt hu]
 split
 ·exact Sim.pure (need_at t _) (fun e => by cases e) rfl (QT.z M.nil _ _)
 ·have h5 := need0 (L := L) (up0 hu) (⟨#[41]⟩ : ByteArray)
  simp only [psmv_up, M.needP (up0 hu), M.needP h5, M.leafP hu]
  have hb1 : ∀ {x y}, (needP L (needP L ((needP L t (⟨#[44]⟩ : ByteArray)).up 1) x) y).bad = false → t.bad = false := fun hb => need_bad (need_bad (s := (needP L t (⟨#[44]⟩ : ByteArray)).up 1) (need_bad hb))
  refine Sim.pure (Int.le_trans (need_at t _) (Int.le_trans (up_le _) (Int.le_trans (need_at _ _) (need_at _ _)))) hb1 rfl ?_
  exact QT.mk M M.nil.symm (fun _ => rfl) (QL.two (QT.later hb1 h3.2) (fun _ => rfl)).2
theorem bitsF_mv (nest : Nat) (s : Ps) (h : 0 ≤ s.at_) : Sim d f (QT d f) s (bitsF L R nest s) (bitsF L' R' nest (s.mv d f)) := by
 unfold bitsF
 simp only [M.isP h, psmv_bad, psmv_up]
 split
 ·split
  ·exact Sim.none
  ·refine ((S.cond _ _ (up0 h)).bind ?_).from_ (up_le s) id
   intro a a' t h1 h2 h3
   exact Sim.pure (Int.le_refl _) id rfl (QT.mk M M.nil.symm (fun _ => rfl) (QL.one h3.2).2)
 ·refine (S.declr _ _ _ h).bind ?_
  intro a a' t h1 h2 h3
  have ht := Int.le_trans h h1
  simp only [M.hasP ht, psmv_up]
  split
  ·refine ((S.cond _ _ (up0 ht)).bind ?_).from_ (up_le t) id
   intro b b' u k1 k2 k3
   exact Sim.pure (Int.le_refl _) id rfl (QT.mk M M.nil.symm (fun _ => rfl) (QL.two (QT.later k2 h3) k3.2).2)
  ·exact Sim.pure (Int.le_refl _) id rfl h3
theorem bitsLoop_mv (nest : Nat) : ∀ k n n' s, 0 ≤ s.at_ → QL d f s.bad n n' → Sim d f (QL d f) s (bitsLoop L R nest k n s) (bitsLoop L' R' nest k n' (s.mv d f))
 | 0, n, n', s, h, q => Sim.none
 | k + 1, n, n', s, h, q => by
   unfold bitsLoop
   rw [M.hasP h]
   split
   ·rw [psmv_up]
    refine ((bitsF_mv M S _ _ (up0 h)).bind ?_).from_ (up_le s) id
    intro a a' t h1 h2 h3
    exact bitsLoop_mv nest k _ _ t (Int.le_trans (up0 h) h1) ((QL.later h2 q).snoc h3)
   ·exact Sim.pure (Int.le_refl _) id rfl q
theorem memberR_mv (nest : Nat) (s : Ps) (h : 0 ≤ s.at_) : Sim d f (QT d f) s (memberR L R nest s) (memberR L' R' nest (s.mv d f)) := by
 unfold memberR
 refine (S.specs _ _ _ h).bind ?_
 intro a a' t h1 h2 h3
 have ht := Int.le_trans h h1
 simp only [M.isP ht, psmv_bad]
 have e : Sim d f (QL d f) t (if t.bad = true ∨ isP L t (⟨#[59]⟩ : ByteArray) = true then some ([a], t) else (bitsF L R nest t).bind fun b => bitsLoop L R nest KK [a, b.1] b.2) (if t.bad = true ∨ isP L t (⟨#[59]⟩ : ByteArray) = true then some ([a'], t.mv d f) else (bitsF L' R' nest (t.mv d f)).bind fun b => bitsLoop L' R' nest KK [a', b.1] b.2) := by
  split
  ·exact Sim.pure (Int.le_refl _) id rfl (QL.one h3)
  ·refine (bitsF_mv M S _ _ ht).bind ?_
   intro b b' u k1 k2 k3
   exact bitsLoop_mv M S nest KK _ _ u (Int.le_trans ht k1) (QL.two (QT.later k2 h3) k3)
 refine e.bind ?_
 intro b b' u k1 k2 k3
 have hu := Int.le_trans ht k1
 simp only [M.needP hu]
 exact Sim.pure (need_at u _) need_bad rfl (QT.mk M M.nil.symm (fun _ => rfl) (QL.later need_bad k3).2)
theorem memberF_mv (nest : Nat) (s : Ps) (h : 0 ≤ s.at_) : Sim d f (QT d f) s (memberF L R nest s) (memberF L' R' nest (s.mv d f)) := by
 unfold memberF
 rw [M.wordP h, psmv_deep, psmv_fail]
 by_cases h1 : wordP L s (⟨#[95,83,116,97,116,105,99,95,97,115,115,101,114,116]⟩ : ByteArray) = true
 ·rw [if_pos h1, if_pos h1]
  by_cases h2 : s.deep nest = true
  ·rw [if_pos h2, if_pos h2]; exact (memberR_mv M S nest s.fail h).from_ (Int.le_refl _) (fun e => by cases e)
  ·rw [if_neg h2, if_neg h2]; exact assertionF_mv M S _ s h
 ·rw [if_neg h1, if_neg h1]; exact memberR_mv M S nest s h
theorem memLoop_mv (nest : Nat) : ∀ k n n' s, 0 ≤ s.at_ → QL d f s.bad n n' → Sim d f (QL d f) s (memLoop L R nest k n s) (memLoop L' R' nest k n' (s.mv d f))
 | 0, n, n', s, h, q => Sim.none
 | k + 1, n, n', s, h, q => by
   unfold memLoop
   rw [M.isP h, psmv_bad]
   split
   ·exact Sim.pure (Int.le_refl _) id rfl q
   ·refine (memberF_mv M S _ _ h).bind ?_
    intro a a' t h1 h2 h3
    exact memLoop_mv nest k _ _ t (Int.le_trans h h1) ((QL.later h2 q).snoc h3)
theorem membersF_mv (kind : ByteArray) (fro : Int) (nest : Nat) (s : Ps) (h : 0 ≤ s.at_) : Sim d f (QT d f) s (membersF L R kind fro nest s) (membersF L' R' kind (fro + d) nest (s.mv d f)) := by
 unfold membersF
 have h0 : 0 ≤ (namedP L s).2.at_ := Int.le_trans h (named_at s)
 simp only [M.named2 h, M.named1 h, M.hasP h0, psmv_up, psmv_fail, M.size]
 split
 ·refine ((memberF_mv M S _ _ (up0 h0)).bind ?_).from_ (Int.le_trans (named_at s) (up_le _)) (fun hb => by have := named_bad (L := L) s; rw [← this]; exact hb)
  intro a a' t h1 h2 h3
  have ht := Int.le_trans (up0 h0) h1
  refine (memLoop_mv M S nest KK _ _ t ht (QL.one h3)).bind ?_
  intro b b' u k1 k2 k3
  have hu := Int.le_trans ht k1
  simp only [M.needP hu]
  exact Sim.pure (need_at u _) need_bad rfl (QT.mk M rfl (fun _ => rfl) (QL.later need_bad k3).2)
 split
 ·exact Sim.pure (named_at s) (fun e => by cases e) rfl (fun e => by cases e)
 ·exact Sim.pure (named_at s) (fun hb => by rw [← named_bad (L := L) s]; exact hb) rfl (QT.mk M rfl (fun _ => rfl) (fun _ => rfl))
theorem enumeratorF_mv (nest : Nat) (s : Ps) (h : 0 ≤ s.at_) : Sim d f (QT d f) s (enumeratorF L R nest s) (enumeratorF L' R' nest (s.mv d f)) := by
 unfold enumeratorF
 have h0 : 0 ≤ ((identP L s eB).2.declare (identP L s eB).1.text false).at_ := by rw [declare_at]; exact ident0 h _
 have hle : s.at_ ≤ ((identP L s eB).2.declare (identP L s eB).1.text false).at_ := by rw [declare_at]; exact ident_at s _
 have hbd : ((identP L s eB).2.declare (identP L s eB).1.text false).bad = false → s.bad = false := fun hb => by rw [declare_b] at hb; exact ident_bad hb
 simp only [M.ident2 h, M.identT h, M.declare]
 generalize (identP L s eB).1.text = x at *
 generalize (identP L s eB).2.declare x false = z at *
 simp only [M.hasP h0, psmv_up]
 split
 ·refine ((S.cond _ _ (up0 h0)).bind ?_).from_ (Int.le_trans hle (up_le _)) hbd
  intro a a' t h1 h2 h3
  exact Sim.pure (Int.le_refl _) id rfl (QT.mk M rfl (fun _ => rfl) (QL.one h3.2).2)
 ·exact Sim.pure hle hbd rfl (QT.mk M rfl (fun _ => rfl) (fun _ => rfl))
theorem enumLoop_mv (nest : Nat) : ∀ k n n' s, 0 ≤ s.at_ → QL d f s.bad n n' → Sim d f (QL d f) s (enumLoop L R nest k n s) (enumLoop L' R' nest k n' (s.mv d f))
 | 0, n, n', s, h, q => Sim.none
 | k + 1, n, n', s, h, q => by
   unfold enumLoop
   simp only [M.hasP h, psmv_up, M.isP (up0 h)]
   split
   ·split
    ·exact Sim.pure (up_le s) id rfl q
    ·refine ((enumeratorF_mv M S _ _ (up0 h)).bind ?_).from_ (up_le s) id
     intro a a' t h1 h2 h3
     exact enumLoop_mv nest k _ _ t (Int.le_trans (up0 h) h1) ((QL.later h2 q).snoc h3)
   ·exact Sim.pure (Int.le_refl _) id rfl q
theorem namesF_mv (fro : Int) (nest : Nat) (s : Ps) (h : 0 ≤ s.at_) : Sim d f (QT d f) s (namesF L R fro nest s) (namesF L' R' (fro + d) nest (s.mv d f)) := by
 unfold namesF
 have h0 : 0 ≤ (namedP L s).2.at_ := Int.le_trans h (named_at s)
 simp only [M.named2 h, M.named1 h, M.hasP h0, psmv_up, psmv_fail, M.size]
 split
 ·refine ((enumeratorF_mv M S _ _ (up0 h0)).bind ?_).from_ (Int.le_trans (named_at s) (up_le _)) (fun hb => by have := named_bad (L := L) s; rw [← this]; exact hb)
  intro a a' t h1 h2 h3
  have ht := Int.le_trans (up0 h0) h1
  refine (enumLoop_mv M S nest KK _ _ t ht (QL.one h3)).bind ?_
  intro b b' u k1 k2 k3
  have hu := Int.le_trans ht k1
  simp only [M.needP hu]
  exact Sim.pure (need_at u _) need_bad rfl (QT.mk M rfl (fun _ => rfl) (QL.later need_bad k3).2)
 split
 ·exact Sim.pure (named_at s) (fun e => by cases e) rfl (fun e => by cases e)
 ·exact Sim.pure (named_at s) (fun hb => by rw [← named_bad (L := L) s]; exact hb) rfl (QT.mk M rfl (fun _ => rfl) (fun _ => rfl))
theorem oneF_mv (nest : Nat) (plain typed : Bool) (s : Ps) (h : 0 ≤ s.at_) : Sim d f (QO d f) s (oneF L R nest plain typed s) (oneF L' R' nest plain typed (s.mv d f)) := by
 unfold oneF
 rw [M.typedAt h, M.kindAt h]
 rw [psmv_up, M.behP h]
 by_cases c1 : typedP s.env (tokP L s.at_) = true ∧ typed = false
 ·rw [if_pos c1, if_pos c1]; exact Sim.pure (up_le s) id rfl ⟨rfl, fun _ _ => M.leafP h _⟩
 rw [if_neg c1, if_neg c1]
 by_cases hk : (tokP L s.at_).kind ≠ 2
 ·rw [if_pos hk, if_pos hk]
  exact Sim.pure (Int.le_refl _) id rfl ⟨rfl, fun e => by cases e⟩
 rw [if_neg hk, if_neg hk, M.fixAt h (by omega)]
 generalize kindOf (tokP L s.at_).text = kd
 by_cases c2 : kd = (⟨#[115,116,111,114,97,103,101]⟩ : ByteArray) ∨ kd = (⟨#[102,117,110,99,116,105,111,110]⟩ : ByteArray)
 ·rw [if_pos c2, if_pos c2]
  by_cases c3 : plain = true
  ·rw [if_pos c3, if_pos c3]; exact Sim.pure (Int.le_refl _) (fun e => by cases e) rfl ⟨rfl, fun e => by cases e⟩
  ·rw [if_neg c3, if_neg c3]; exact Sim.pure (up_le s) id rfl ⟨rfl, fun _ _ => M.leafP h _⟩
 rw [if_neg c2, if_neg c2]
 by_cases c3 : kd = (⟨#[116,121,112,101]⟩ : ByteArray)
 ·rw [if_pos c3, if_pos c3]; exact Sim.pure (up_le s) id rfl ⟨rfl, fun _ _ => M.leafP h _⟩
 rw [if_neg c3, if_neg c3]
 by_cases c4 : kd = (⟨#[97,108,105,103,110,97,115]⟩ : ByteArray)
 ·rw [if_pos c4, if_pos c4]
  refine ((alignF_mv M S s.at_ nest _ (up0 h)).bind ?_).from_ (up_le s) id
  intro a a' t h1 h2 h3
  exact Sim.pure (Int.le_refl _) id rfl ⟨rfl, fun _ => h3⟩
 rw [if_neg c4, if_neg c4]
 by_cases c5 : kd = (⟨#[115,116,114,117,99,116]⟩ : ByteArray) ∨ kd = (⟨#[117,110,105,111,110]⟩ : ByteArray)
 ·rw [if_pos c5, if_pos c5]
  refine ((membersF_mv M S _ s.at_ nest _ (up0 h)).bind ?_).from_ (up_le s) id
  intro a a' t h1 h2 h3
  exact Sim.pure (Int.le_refl _) id rfl ⟨rfl, fun _ => h3⟩
 rw [if_neg c5, if_neg c5]
 by_cases c6 : kd = (⟨#[101,110,117,109]⟩ : ByteArray)
 ·rw [if_pos c6, if_pos c6]
  refine ((namesF_mv M S s.at_ nest _ (up0 h)).bind ?_).from_ (up_le s) id
  intro a a' t h1 h2 h3
  exact Sim.pure (Int.le_refl _) id rfl ⟨rfl, fun _ => h3⟩
 rw [if_neg c6, if_neg c6]
 by_cases c7 : kd = (⟨#[113,117,97,108,105,102,105,101,114]⟩ : ByteArray)
 ·rw [if_pos c7, if_pos c7]
  by_cases c8 : (tokP L s.at_).text = (⟨#[95,65,116,111,109,105,99]⟩ : ByteArray) ∧ behP L s (⟨#[40]⟩ : ByteArray) = true
  ·rw [if_pos c8, if_pos c8]
   refine ((inBr_mv M S nest _ (up0 h)).bind ?_).from_ (up_le s) id
   intro a a' t h1 h2 h3
   exact Sim.pure (Int.le_refl _) id rfl ⟨rfl, fun _ => QT.mk M M.nil.symm (fun _ => rfl) (QL.one h3).2⟩
  ·rw [if_neg c8, if_neg c8]; exact Sim.pure (up_le s) id rfl ⟨rfl, fun _ _ => M.leafP h _⟩
 ·rw [if_neg c7, if_neg c7]; exact Sim.pure (Int.le_refl _) id rfl ⟨rfl, fun e => by cases e⟩
theorem spLoop_mv (nest : Nat) (plain : Bool) : ∀ k n n' ty s, 0 ≤ s.at_ → QL d f s.bad n n' → Sim d f (QL d f) s (spLoop L R nest plain k n ty s) (spLoop L' R' nest plain k n' ty (s.mv d f))
 | 0, n, n', ty, s, h, q => Sim.none
 | k + 1, n, n', ty, s, h, q => by
   unfold spLoop
   rw [psmv_deep]
   split
   ·exact Sim.pure (Int.le_refl _) (fun e => by cases e) rfl ⟨q.1, fun e => by cases e⟩
   ·refine (oneF_mv M S _ _ _ s h).bind ?_
    rintro ⟨a, b, c⟩ ⟨a', b', c'⟩ t h1 h2 ⟨h3, h4⟩
    obtain ⟨rfl, rfl⟩ := Prod.mk.inj h3
    simp only
    by_cases hb : b' = true
    ·rw [if_pos hb, if_pos hb]
     exact spLoop_mv nest plain k _ _ c' t (Int.le_trans h h1) ((QL.later h2 q).snoc (h4 hb))
    ·rw [if_neg hb, if_neg hb]
     exact Sim.pure (Int.le_refl _) id rfl (QL.later h2 q)
theorem specsF_mv (nest : Nat) (plain : Bool) (s : Ps) (h : 0 ≤ s.at_) : Sim d f (QT d f) s (specsF L R nest plain s) (specsF L' R' nest plain (s.mv d f)) := by
 unfold specsF
 refine (spLoop_mv M S nest plain KK _ _ _ s h QL.nil).bind ?_
 intro a a' t h1 h2 h3
 simp only [h3.1, psmv_fail]
 split
 ·exact Sim.pure (Int.le_refl _) (fun e => by cases e) rfl (fun e => by cases e)
 ·exact Sim.pure (Int.le_refl _) id rfl (QT.mk M M.nil.symm (fun _ => rfl) h3.2)
omit M in
theorem typeNameF_mv (M : Mv d f L L') (nest : Nat) (s : Ps) (h : 0 ≤ s.at_) : Sim d f (QT d f) s (typeNameF R nest s) (typeNameF R' nest (s.mv d f)) := by
 unfold typeNameF
 rw [psmv_deep]
 split
 ·exact Sim.pure (Int.le_refl _) (fun e => by cases e) rfl (fun e => by cases e)
 ·refine (S.specs _ _ _ h).bind ?_
  intro a a' t h1 h2 h3
  refine (S.declr _ _ _ (Int.le_trans h h1)).bind ?_
  intro b b' u k1 k2 k3
  exact Sim.pure (Int.le_refl _) id rfl (QT.mk M M.nil.symm (fun _ => rfl) (QL.two (QT.later k2 h3) k3).2)
omit M in
theorem declrF_mv (nest mode : Nat) (s : Ps) (h : 0 ≤ s.at_) : Sim d f (QT d f) s (declrF R nest mode s) (declrF R' nest mode (s.mv d f)) := by
 unfold declrF
 rw [psmv_deep]
 split
 ·exact Sim.pure (Int.le_refl _) (fun e => by cases e) rfl (fun e => by cases e)
 ·exact S.pointer _ _ _ h
omit S in
theorem qualB_mv {s : Ps} (h : 0 ≤ s.at_) : qualB (tokP L' (s.mv d f).at_) = qualB (tokP L s.at_) := by
 unfold qualB
 rw [M.kindAt h]
 by_cases hk : (tokP L s.at_).kind = 2
 ·rw [M.fixAt h (by omega)]
 ·simp [hk]
omit S in
theorem qualLoop_mv : ∀ k n n' s, 0 ≤ s.at_ → QL d f s.bad n n' → Sim d f (QL d f) s (qualLoop L k n s) (qualLoop L' k n' (s.mv d f))
 | 0, n, n', s, h, q => Sim.none
 | k + 1, n, n', s, h, q => by
   unfold qualLoop
   rw [qualB_mv M h, psmv_up, M.leafP h]
   split
   ·exact (qualLoop_mv k _ _ _ (up0 h) (q.snoc (fun _ => rfl))).from_ (up_le s) id
   ·exact Sim.pure (Int.le_refl _) id rfl q
omit S in
theorem qualsF_mv (s : Ps) (h : 0 ≤ s.at_) : Sim d f (QL d f) s (qualsF L s) (qualsF L' (s.mv d f)) := qualLoop_mv M KK [] [] s h QL.nil
omit S in
theorem staticLoop_mv : ∀ k s, 0 ≤ s.at_ → ∀ t, staticLoop L k s = some t → s.at_ ≤ t.at_ ∧ (t.bad = false → s.bad = false) ∧ staticLoop L' k (s.mv d f) = some (t.mv d f)
 | 0, s, h, t, e => by cases e
 | k + 1, s, h, t, e => by
   unfold staticLoop at e ⊢
   rw [M.hasW h, psmv_up]
   split at e
   ·rename_i hc
    rw [if_pos hc]
    obtain ⟨a, b, c⟩ := staticLoop_mv k _ (up0 h) t e
    exact ⟨Int.le_trans (up_le s) a, b, c⟩
   ·rename_i hc
    rw [if_neg hc]
    obtain ⟨⟨q, u⟩, e1, e2⟩ := Option.bind_eq_some_iff.1 e
    obtain ⟨h1, h2, q', e3, h3⟩ := qualsF_mv M s h q u e1
    rw [e3]
    simp only [Option.bind_some, h3.1] at e2 ⊢
    split at e2
    ·rename_i hz
     rw [if_pos hz]
     obtain rfl := Option.some.inj e2
     exact ⟨h1, h2, rfl⟩
    ·rename_i hz
     rw [if_neg hz]
     obtain ⟨a, b, c⟩ := staticLoop_mv k u (Int.le_trans h h1) t e2
     exact ⟨Int.le_trans h1 a, fun hb => h2 (b hb), c⟩
theorem arrayF_mv (n n' : T) (nest : Nat) (s : Ps) (h : 0 ≤ s.at_) (q : QT d f s.bad n n') : Sim d f (QT d f) s (arrayF L R n nest s) (arrayF L' R' n' nest (s.mv d f)) := by
 unfold arrayF
 intro a u e
 obtain ⟨t, e1, e2⟩ := Option.bind_eq_some_iff.1 e
 obtain ⟨h1, h2, h3⟩ := staticLoop_mv M KK s h t e1
 rw [h3, Option.bind_some]
 have ht := Int.le_trans h h1
 have q2 := QT.later h2 q
 refine (Sim.from_ ?_ h1 h2 : Sim d f (QT d f) s _ _) a u e2
 simp only [M.isP ht, M.behP ht, psmv_up]
 have e5 : Sim d f (QL d f) t (if isP L t (⟨#[42]⟩ : ByteArray) = true ∧ behP L t (⟨#[93]⟩ : ByteArray) = true then some ([n, T.mk (⟨#[115,116,97,114]⟩ : ByteArray) eB t.at_ (t.at_ + 1) []], t.up 1) else if isP L t (⟨#[93]⟩ : ByteArray) = true then some ([n], t) else (R.assign nest t).bind fun a => some ([n, a.1], a.2)) (if isP L t (⟨#[42]⟩ : ByteArray) = true ∧ behP L t (⟨#[93]⟩ : ByteArray) = true then some ([n', T.mk (⟨#[115,116,97,114]⟩ : ByteArray) eB (t.mv d f).at_ ((t.mv d f).at_ + 1) []], (t.up 1).mv d f) else if isP L t (⟨#[93]⟩ : ByteArray) = true then some ([n'], t.mv d f) else (R'.assign nest (t.mv d f)).bind fun a => some ([n', a.1], a.2)) := by
  split
  ·exact Sim.pure (up_le t) id rfl (QL.two q2 (fun _ => by rw [mv_mk, M.nil, psmv_at, show t.at_ + d + 1 = t.at_ + 1 + d by omega]; rfl))
  split
  ·exact Sim.pure (Int.le_refl _) id rfl (QL.one q2)
  ·refine (S.assign _ _ ht).bind ?_
   intro b b' v k1 k2 k3
   exact Sim.pure (Int.le_refl _) id rfl (QL.two (QT.later k2 q2) k3)
 refine e5.bind ?_
 intro b b' v k1 k2 k3
 have hv := Int.le_trans ht k1
 simp only [M.needP hv]
 exact Sim.pure (need_at v _) need_bad rfl (QT.mk M M.nil.symm (QT.later (fun hb => k2 (need_bad hb)) q2).fr (QL.later need_bad k3).2)
omit S in
theorem declare_mv {b : Bool} {t : Ps} (hb : b = t.bad) {n n' : T} (q : QT d f b n n') (i : Bool) : (t.mv d f).declare (nameT n') i = (t.declare (nameT n) i).mv d f := by
 subst hb
 cases e : t.bad with
 | true => rw [declare_bad e, declare_bad (by rw [psmv_bad]; exact e)]
 | false => rw [q e, name_mv M.nil, M.declare]
theorem paramLoop_mv (nest : Nat) : ∀ k n n' s, 0 ≤ s.at_ → QL d f s.bad n n' → Sim d f (QL d f) s (paramLoop L R nest k n s) (paramLoop L' R' nest k n' (s.mv d f))
 | 0, n, n', s, h, q => Sim.none
 | k + 1, n, n', s, h, q => by
   unfold paramLoop
   refine (S.specs _ _ _ h).bind ?_
   intro a a' t h1 h2 h3
   have ht := Int.le_trans h h1
   refine (S.declr _ _ _ ht).bind ?_
   intro b b' u k1 k2 k3
   have hu := Int.le_trans ht k1
   simp only [declare_mv M rfl k3]
   have hd0 : 0 ≤ (u.declare (nameT b) false).at_ := by rw [declare_at]; exact hu
   have hdl : u.at_ ≤ (u.declare (nameT b) false).at_ := by rw [declare_at]; exact Int.le_refl _
   have hdb : (u.declare (nameT b) false).bad = u.bad := declare_b ..
   have hnew : QL d f u.bad (n ++ [mkP (⟨#[112,97,114,97,109]⟩ : ByteArray) eB s.at_ u [a, b]]) (n' ++ [mkP (⟨#[112,97,114,97,109]⟩ : ByteArray) eB (s.mv d f).at_ (u.mv d f) [a', b']]) :=
    (QL.later (fun hb => h2 (k2 hb)) q).snoc (QT.mk M M.nil.symm (fun _ => rfl) (QL.two (QT.later k2 h3) k3).2)
   rw [← hdb] at hnew
   generalize u.declare (nameT b) false = z at *
   simp only [M.hasP hd0, psmv_up, M.hasP (up0 hd0)]
   split
   ·split
    ·exact Sim.pure (Int.le_trans hdl (Int.le_trans (up_le z) (up_le _))) (fun hb => by rw [← hdb]; exact hb) rfl (hnew.snoc (QT.mk M M.nil.symm (fun _ => rfl) (fun _ => rfl)))
    ·exact (paramLoop_mv nest k _ _ _ (up0 hd0) hnew).from_ (Int.le_trans hdl (up_le z)) (fun hb => by rw [← hdb]; exact hb)
   ·exact Sim.pure hdl (fun hb => by rw [← hdb]; exact hb) rfl hnew
omit S in
theorem idLoop_mv : ∀ k n n' s, 0 ≤ s.at_ → QL d f s.bad n n' → Sim d f (QL d f) s (idLoop L k n s) (idLoop L' k n' (s.mv d f))
 | 0, n, n', s, h, q => Sim.none
 | k + 1, n, n', s, h, q => by
   unfold idLoop
   rw [M.typedAt h, psmv_fail]
   have e : (if typedP s.env (tokP L s.at_) = true then s.fail.mv d f else s.mv d f) = (if typedP s.env (tokP L s.at_) = true then s.fail else s).mv d f := by split <;> rfl
   rw [e]
   have hz : (if typedP s.env (tokP L s.at_) = true then s.fail else s).at_ = s.at_ := by split <;> rfl
   have hb : (if typedP s.env (tokP L s.at_) = true then s.fail else s).bad = false → s.bad = false := by split; intro e; cases e; exact id
   generalize (if typedP s.env (tokP L s.at_) = true then s.fail else s) = z at *
   have h0 : 0 ≤ z.at_ := by omega
   have hi := ident0 (L := L) h0 (⟨#[105,100]⟩ : ByteArray)
   have hib : (identP L z (⟨#[105,100]⟩ : ByteArray)).2.bad = false → s.bad = false := fun x => hb (ident_bad x)
   simp only [M.ident2 h0, M.hasP hi, psmv_up]
   have hnew : QL d f (identP L z (⟨#[105,100]⟩ : ByteArray)).2.bad (n ++ [(identP L z (⟨#[105,100]⟩ : ByteArray)).1]) (n' ++ [(identP L' (z.mv d f) (⟨#[105,100]⟩ : ByteArray)).1]) := (QL.later hib q).snoc (fun x => M.ident1 h0 _ x)
   have hle : s.at_ ≤ (identP L z (⟨#[105,100]⟩ : ByteArray)).2.at_ := by have := ident_at (L := L) z (⟨#[105,100]⟩ : ByteArray); omega
   split
   ·exact (idLoop_mv k _ _ _ (up0 hi) hnew).from_ (Int.le_trans hle (up_le _)) hib
   ·exact Sim.pure hle hib rfl hnew
theorem paramsIn_mv (n n' : T) (nest mode : Nat) (s : Ps) (h : 0 ≤ s.at_) (q : QT d f s.bad n n') : Sim d f (QL d f) s (paramsIn L R n nest mode s) (paramsIn L' R' n' nest mode (s.mv d f)) := by
 unfold paramsIn
 simp only [M.isP h, M.wordP h, M.behP h, M.starts h, M.kindAt h, psmv_up, psmv_fail]
 split
 ·exact Sim.pure (Int.le_refl _) id rfl (QL.one q)
 split
 ·exact Sim.pure (up_le s) id rfl (QL.one q)
 split
 ·exact paramLoop_mv M S nest KK _ _ s h (QL.one q)
 split
 ·exact idLoop_mv M KK _ _ s h (QL.one q)
 ·exact Sim.pure (Int.le_refl _) (fun e => by cases e) rfl ⟨rfl, fun e => by cases e⟩
theorem paramsF_mv (n n' : T) (nest mode : Nat) (s : Ps) (h : 0 ≤ s.at_) (q : QT d f s.bad n n') : Sim d f (QT d f) s (paramsF L R n nest mode s) (paramsF L' R' n' nest mode (s.mv d f)) := by
 unfold paramsF
 rw [psmv_push]
 refine ((paramsIn_mv M S n n' nest mode (s.into (.push s.env)) h q).bind ?_).from_ (Int.le_refl _) id
 intro b b' v k1 k2 k3
 have hv : 0 ≤ v.at_ := Int.le_trans h k1
 simp only [M.needP hv, psmv_env, psmv_into]
 exact Sim.pure (need_at v _) (fun hb => need_bad (s := v) hb) rfl (QT.mk M M.nil.symm (QT.later (fun hb => k2 (need_bad hb)) q).fr (QL.later need_bad k3).2)
theorem dirLoop_mv (nest mode : Nat) : ∀ k n n' s, 0 ≤ s.at_ → QT d f s.bad n n' → Sim d f (QT d f) s (dirLoop L R nest mode k n s) (dirLoop L' R' nest mode k n' (s.mv d f))
 | 0, n, n', s, h, q => Sim.none
 | k + 1, n, n', s, h, q => by
   unfold dirLoop
   simp only [M.isP h, psmv_bad, psmv_up]
   split
   ·exact Sim.pure (Int.le_refl _) id rfl q
   split
   ·refine ((arrayF_mv M S n n' nest _ (up0 h) q).bind ?_).from_ (up_le s) id
    intro a a' t h1 h2 h3
    exact dirLoop_mv nest mode k _ _ t (Int.le_trans (up0 h) h1) h3
   split
   ·refine ((paramsF_mv M S n n' nest mode _ (up0 h) q).bind ?_).from_ (up_le s) id
    intro a a' t h1 h2 h3
    exact dirLoop_mv nest mode k _ _ t (Int.le_trans (up0 h) h1) h3
   ·exact Sim.pure (Int.le_refl _) id rfl q
omit S in
theorem innerP_mv (mode : Nat) {s : Ps} (h : 0 ≤ s.at_) : innerP L' mode (s.mv d f) = innerP L mode s := by
 unfold innerP
 rw [M.isP h, M.behP h, M.behP h, M.behP h, M.kindUp h, psmv_at, show s.at_ + d + 1 = s.at_ + 1 + d by omega, psmv_env, M.typed (by omega)]
theorem directF_mv (nest mode : Nat) (s : Ps) (h : 0 ≤ s.at_) : Sim d f (QT d f) s (directF L R nest mode s) (directF L' R' nest mode (s.mv d f)) := by
 unfold directF
 simp only [M.kindAt h, innerP_mv M mode h, psmv_up, psmv_fail, M.leafP h]
 split
 ·exact (dirLoop_mv M S nest mode KK _ _ _ (up0 h) (fun _ => rfl)).from_ (up_le s) id
 split
 ·refine ((S.declr _ _ _ (up0 h)).bind ?_).from_ (up_le s) id
  intro a a' t h1 h2 h3
  have ht := Int.le_trans (up0 h) h1
  simp only [M.needP ht]
  refine (dirLoop_mv M S nest mode KK _ _ _ (need0 ht _) ?_).from_ (need_at t _) need_bad
  intro hb
  rw [h3 (need_bad hb), mv_mk, mv_kind, mv_text, mv_kids]
  rfl
 split
 ·exact Sim.pure (Int.le_refl _) (fun e => by cases e) rfl (fun e => by cases e)
 ·exact dirLoop_mv M S nest mode KK _ _ s h (QT.mk M M.nil.symm (fun _ => rfl) (fun _ => rfl))
theorem pointerF_mv (nest mode : Nat) (s : Ps) (h : 0 ≤ s.at_) : Sim d f (QT d f) s (pointerF L R nest mode s) (pointerF L' R' nest mode (s.mv d f)) := by
 unfold pointerF
 rw [M.hasP h, psmv_up]
 split
 ·refine ((qualsF_mv M _ (up0 h)).bind ?_).from_ (up_le s) id
  intro a a' t h1 h2 h3
  refine (S.pointer _ _ _ (Int.le_trans (up0 h) h1)).bind ?_
  intro b b' u k1 k2 k3
  exact Sim.pure (Int.le_refl _) id rfl (QT.mk M M.nil.symm (fun _ => rfl) ((QL.later k2 h3).snoc k3).2)
 ·exact directF_mv M S nest mode s h
end
end Go.Proofs.YtllbbacnakoomaaGreatDoor
