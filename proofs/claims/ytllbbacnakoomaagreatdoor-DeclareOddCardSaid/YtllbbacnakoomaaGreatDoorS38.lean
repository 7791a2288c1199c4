/- Texts of this seat's proofs, laid into one file. -/
import Derived.Test.YtllbbacnakoomaaGreatDoorS35
import Derived.Test.YtllbbacnakoomaaGreatDoorS37
import Derived.Test.YtllbbacnakoomaaGreatDoorS9
set_option maxRecDepth 100000
set_option maxHeartbeats 16000000
namespace Go.Proofs.YtllbbacnakoomaaGreatDoor
set_option linter.unusedVariables false
theorem T.mv_id : ∀ x : T, x.mv 0 id = x := by
 refine T.ind fun k t a b ks ih => ?_
 rw [mv_mk, Int.add_zero, Int.add_zero]
 congr 1
 exact (List.map_congr_left (g := id) fun x hx => ih x hx).trans (List.map_id _)
theorem Ev.mv_id : ∀ e : Ev, e.mv id = e
 | .new => rfl
 | .push e => by rw [Ev.mv, Ev.mv_id e]
 | .decl e n i => by rw [Ev.mv, Ev.mv_id e]; rfl
theorem Ps.mv_id (s : Ps) : s.mv 0 id = s := by unfold Ps.mv; rw [Ev.mv_id, Int.add_zero]
abbrev kt (t : Ct) : Int × ByteArray := (t.kind, t.text)
theorem mv_same {L L' : List Ct} (h : L.map kt = L'.map kt) : Mv 0 id L L' where
 kind i _ := by rw [Int.add_zero]; exact (Pq.tok_same h i).1.symm
 text i _ := by rw [Int.add_zero]; exact (Pq.tok_same h i).2.symm
 fix _ _ _ := rfl
 inj _ _ e := e
 nil := rfl
 dot _ := rfl
 arrow _ := rfl
 tdef := rfl
theorem sim_same {s : Ps} {o o' : PO T} (h : Sim 0 id (QT 0 id) s o o') {a : T} {t : Ps} (ho : o = some (a, t)) : ∃ a', o' = some (a', t) ∧ (t.bad = false → a' = a) := by
 obtain ⟨_, _, a', h1, h2⟩ := h a t ho
 refine ⟨a', by rw [h1, Ps.mv_id], fun hb => ?_⟩
 rw [h2 hb, T.mv_id]
theorem out_sim {L L' : List Ct} {s : Ps} {o o' : PO T} {x : List UInt8} (hl : L.length = L'.length) (h : Sim 0 id (QT 0 id) s o o') (ho : outOf L o = some x) : outOf L' o' = some x := by
 unfold outOf at ho ⊢
 cases hr : o with
 | none => rw [hr] at ho; cases ho
 | some r =>
   obtain ⟨a, t⟩ := r
   rw [hr] at ho
   obtain ⟨a', h1, h2⟩ := sim_same h hr
   rw [h1]
   simp only [Option.map_some] at ho ⊢
   rw [← ho, ← hl]
   by_cases hb : t.bad = true
   ·rw [if_pos (.inl hb), if_pos (.inl hb)]
   ·rw [h2 (by simpa using hb)]
theorem len_same {L L' : List Ct} (h : L.map kt = L'.map kt) : L.length = L'.length := by
 have := congrArg List.length h
 simpa using this
theorem expr_same {L L' : List Ct} (h : L.map kt = L'.map kt) {N : Nat} {names : List ByteArray} {x : List UInt8} (ho : exprOf N L names = some x) : exprOf N L' names = some x := by
 unfold exprOf at ho ⊢
 have := (rec_sim (mv_same h) N).expr 0 ⟨0, envOf names, false⟩ (Int.le_refl _)
 rw [Ps.mv_id] at this
 exact out_sim (len_same h) this ho
def quickC (s : List UInt8) : List Ct := Pq.canP (Pq.piecesF (s.length + 1) s)
def quickB (s : List UInt8) : Bool := Pq.okF (s.length + 1) s && s.all (fun c => c != 92 && c != 63 && c != 10) && (Pq.tokQ (Pq.piecesF (s.length + 1) s)).all Pq.pairB
theorem quick_same {s : List UInt8} (h : quickB s = true) : (quickC s).map kt = (toksU s).map kt := by
 unfold quickB at h
 simp only [Bool.and_eq_true, List.all_eq_true, bne_iff_ne] at h
 obtain ⟨⟨h1, h2⟩, h3⟩ := h
 have hp := Pq.pieces_ok (s.length + 1) s (fun c hc => (h2 c hc).2) h1
 have := Pq.toks_can hp.2 (by rw [hp.1]; exact fun c hc => ⟨(h2 c hc).1.1, (h2 c hc).1.2, (h2 c hc).2⟩) h3
 rw [hp.1] at this
 exact this.symm
def writQ (s : List UInt8) (names : List ByteArray) : Option (List UInt8) := exprOf 1000 (quickC s) names
theorem writ_quick {s : List UInt8} (h : quickB s = true) {names : List ByteArray} {x : List UInt8} (ho : writQ s names = some x) : writE s names = some x := expr_same (quick_same h) ho
end Go.Proofs.YtllbbacnakoomaaGreatDoor
