/- Texts of this seat's proofs, laid into one file. -/
import Derived.Test.YtfaoamdlknlgpaaGreatArgsCollectDoneG10
import Derived.BigQuiet
import Derived.Test.YtfaoamdlknlgpaaGreatArgsCollectDoneG9
/- lex's closes. -/
namespace Go.Proofs.YtfaoamdlknlgpaaGreat
open Go.RowKit
set_option linter.unusedVariables false

theorem quo_nl {q : UInt8} {A : List UInt8} {j : Nat} (h : j < A.length) (h10 : chAt A j = 10) : quoL q j (A.drop j) = 0 := by rw [quo_step h, if_pos h10]

theorem quo_esc {q : UInt8} {A : List UInt8} {j : Nat} (hq : q ≠ 92) (h : j < A.length) (h92 : chAt A j = 92) : quoL q j (A.drop j) = if j + 1 < A.length ∧ chAt A (j + 1) = 10 then 0 else quoL q (j + 2) (A.drop (j + 2)) := by
  rw [quo_step h, if_neg (by rw [h92]; decide)]
  by_cases h1 : j + 1 < A.length
  · by_cases h2 : chAt A (j + 1) = 10
    · rw [if_neg (by simp [h2]), if_neg (by rw [h92]; exact fun e => hq e.symm), if_pos ⟨h1, h2⟩, quo_nl h1 h2]
    · rw [if_pos ⟨h92, h1, h2⟩, if_neg (by simp [h2])]
  · rw [if_neg (by simp [h1]), if_neg (by rw [h92]; exact fun e => hq e.symm), if_neg (by simp [h1]), quo_end (by omega), quo_end (by omega)]

theorem quo_hit {q : UInt8} {A : List UInt8} {j : Nat} (h : j < A.length) (h10 : chAt A j ≠ 10) (h92 : chAt A j ≠ 92) : quoL q j (A.drop j) = if chAt A j = q then j + 1 else quoL q (j + 1) (A.drop (j + 1)) := by
  rw [quo_step h, if_neg h10, if_neg (by simp [h92])]

/-- what closes gives -/
def closesL (A : List UInt8) (at_ n : Nat) : Nat := if quotedL A (at_ + n) = 0 then 0 else quotedL A (at_ + n) - at_

def ClosesPost (A : List UInt8) (at_ n : Nat) (w : World) (e : Ending) (w' : World) : Prop := e = .returned (.int .i64 (closesL A at_ n)) ∧ ∃ q, w' = w.drewN q

set_option maxHeartbeats 2000000 in
set_option maxRecDepth 100000 in
theorem closes_any (b : Nat) (R : List Rn) (lo : Option Addr) (cap at_ n : Nat) (hl : R.length ≤ 1000001) (ha : at_ ≤ 1000010) (hn : n ≤ 10) (hq : chAt (cs R) (at_ + n) = 34 ∨ chAt (cs R) (at_ + n) = 39) (w : World) (h : WkAt w b R lo cap at_) :
    Calls Tryz.prog 117 #[.pointer (some ⟨b, 0, none⟩), .int .i64 n] w fun e w' => ClosesPost (cs R) at_ n w e w' := by
  have HP := fun (k : Nat) (hk : k ≤ 4000000) (w' : World) (hb : Below w.heap.size w w') => peek_any b R lo cap at_ k hk w' (h.below hb)
  have HW := fun w' (hb : Below w.heap.size w w') => h.below hb
  obtain ⟨m, hm⟩ : ∃ m, m = R.length := ⟨_, rfl⟩
  have HN : Hid (R.length = m) := Lib.hid hm.symm
  have HA : Hid ((cs R).length = m) := Lib.hid (by rw [cs_len, hm])
  obtain ⟨qc, hqc⟩ : ∃ qc, qc = chAt (cs R) (at_ + n) := ⟨_, rfl⟩
  have hq92 : qc ≠ 92 := by rw [hqc]; rcases hq with h | h <;> rw [h] <;> decide
  have hlt0 : at_ + n < m := by
    rcases Nat.lt_or_ge (at_ + n) m with h | h
    · exact h
    · rw [chAt_ge (by rw [HA.out]; exact h)] at hq; rcases hq with h | h <;> exact absurd h (by decide)
  have HQ : Hid (quotedL (cs R) (at_ + n) = quoL qc (at_ + n + 1) ((cs R).drop (at_ + n + 1))) := Lib.hid (by rw [hqc]; rfl)
  have HP0 := HP n (by omega) w (Below.refl _ _)
  rw [← hqc] at HP0
  rw [← hm] at hl
  replace HP := Lib.hid HP
  replace HW := Lib.hid HW
  replace HP0 := Lib.hid HP0
  clear hm hqc hq h
  go_enter Tryz.func117, Tryz.ntmps117
  go_wp2_with fail
  refine HP0.out.mono ?_
  rintro e w1 ⟨rfl, k1, hw1⟩
  have hb1 : Below w.heap.size w w1 := by rw [hw1]; exact drewN_below w k1
  replace hw1 := Lib.hid hw1
  go_wp2_with fail
  go_loopg [6] (m + 20 - (at_ + n + 1)) (fun u v wr => ∃ i : Nat, u = m + 20 - (at_ + i) ∧ n + 1 ≤ i ∧ at_ + i ≤ m + 20 ∧ v = .int .i64 i ∧ (∃ q, wr = w.drewN q) ∧ Hid (quotedL (cs R) (at_ + n) = quoL qc (at_ + i) ((cs R).drop (at_ + i))))
  case atStart => exact ⟨n + 1, rfl, Nat.le_refl _, by omega, by go_num, ⟨k1, hw1.out⟩, Lib.hid HQ.out⟩
  case round =>
    obtain ⟨i, rfl, hi1, hi2, rfl, ⟨q, hq⟩, HT⟩ := hrel
    have hbr : Below w.heap.size w wr := by rw [hq]; exact drewN_below w q
    replace hq := Lib.hid hq
    obtain ⟨c1, c2, _, _, _, _⟩ := HW.out wr hbr
    rw [HN.out] at c1
    have q1 : IntKind.i64.wrap ((at_ : Int) + i) = (at_ : Int) + i := IntWalk.i64_in _ (by omega)
    have q2 : IntKind.i64.wrap ((at_ : Int) + i + 1) = (at_ : Int) + i + 1 := IntWalk.i64_in _ (by omega)
    have q3 : IntKind.i64.wrap ((i : Int) + 1) = (i : Int) + 1 := IntWalk.i64_in _ (by omega)
    by_cases hlt : at_ + i < m
    · have e1 : (at_ : Int) + i < m := by omega
      obtain ⟨x, hx⟩ : ∃ x : Int, x = (chAt (cs R) (at_ + i)).toNat := ⟨_, rfl⟩
      go_wp2_with fail
      go_quiet (fail)
      have hbq : Below w.heap.size w (wr.drewN nq) := below_drewN hbr nq
      have hwq : wr.drewN nq = w.drewN (q + nq) := by rw [hq.out, drewN_add]
      generalize wr.drewN nq = wq at *
      have HPi := HP.out i (by omega) wq hbq
      rw [← hx] at HPi
      replace HPi := Lib.hid HPi
      replace hwq := Lib.hid hwq
      go_wp2_with fail
      refine HPi.out.mono ?_
      rintro e w2 ⟨rfl, k2, hw2⟩
      have hb2 : Below w.heap.size w w2 := by rw [hw2]; exact below_drewN hbq k2
      have hw2' : w2 = w.drewN (q + nq + k2) := by rw [hw2, hwq.out, drewN_add]
      replace hw2 := Lib.hid hw2'
      clear hw2' c1 c2
      obtain ⟨c1, c2, _, _, _, _⟩ := HW.out w2 hb2
      rw [HN.out] at c1
      by_cases x10 : x = 10
      · have hc : chAt (cs R) (at_ + i) = 10 := (u8eq _ _).2 (by rw [← hx]; exact x10)
        have hres : Hid (closesL (cs R) at_ n = 0) := Lib.hid (by unfold closesL; rw [HT.out, quo_nl (by rw [HA.out]; exact hlt) hc]; rfl)
        subst x10
        clear hc
        replace hx := Lib.hid hx
        go_wp2
        go_ret
        exact ⟨by rw [hres.out]; rfl, _, hw2.out⟩
      · have y10 : (x == 10) = false := by simpa using x10
        by_cases x92 : x = 92
        · have hc : chAt (cs R) (at_ + i) = 92 := (u8eq _ _).2 (by rw [← hx]; exact x92)
          have hes := quo_esc hq92 (A := cs R) (j := at_ + i) (by rw [HA.out]; exact hlt) hc
          rw [HA.out] at hes
          subst x92
          clear hc
          replace hx := Lib.hid hx
          by_cases hlt1 : at_ + i + 1 < m
          · have e2 : (at_ : Int) + i + 1 < m := by omega
            obtain ⟨y, hy⟩ : ∃ y : Int, y = (chAt (cs R) (at_ + i + 1)).toNat := ⟨_, rfl⟩
            have HPj := fun nq2 => HP.out (i + 1) (by omega) (w2.drewN nq2) (below_drewN hb2 nq2)
            rw [show at_ + (i + 1) = at_ + i + 1 by omega, ← hy, show ((i + 1 : Nat) : Int) = (i : Int) + 1 by omega] at HPj
            replace HPj := Lib.hid HPj
            by_cases z10 : y = 10
            · have hc2 : chAt (cs R) (at_ + i + 1) = 10 := (u8eq _ _).2 (by rw [← hy]; exact z10)
              rw [if_pos ⟨hlt1, hc2⟩] at hes
              have hres : Hid (closesL (cs R) at_ n = 0) := Lib.hid (by unfold closesL; rw [HT.out, hes]; rfl)
              subst z10
              clear hc2 hes
              replace hy := Lib.hid hy
              go_wp2_with fail
              go_quiet (first | (go_at_call 106; exact Calls.quiet_of (HPj.out _)))
              go_wp2
              go_ret
              exact ⟨by rw [hres.out]; rfl, _, by rw [hw2.out, drewN_add]⟩
            · have hc2 : ¬ chAt (cs R) (at_ + i + 1) = 10 := by intro e; exact z10 (by rw [hy, e]; rfl)
              rw [if_neg (fun h => hc2 h.2)] at hes
              have z10' : (y == 10) = false := by simpa using z10
              have HT2 : Hid (quotedL (cs R) (at_ + n) = quoL qc (at_ + (i + 2)) ((cs R).drop (at_ + (i + 2)))) := Lib.hid (HT.out.trans hes)
              clear hc2 hes
              replace hy := Lib.hid hy
              go_wp2_with fail
              go_quiet (first | (go_at_call 106; exact Calls.quiet_of (HPj.out _)))
              go_wp2_with fail
              go_roundg (m + 20 - (at_ + (i + 2)))
              case measure => omega
              case rel => exact ⟨i + 2, rfl, by omega, by omega, by go_num, ⟨_, by rw [hw2.out, drewN_add]⟩, HT2⟩
          · have e2 : decide ((at_ : Int) + i + 1 < m) = false := decide_eq_false (by omega)
            rw [if_neg (fun h => hlt1 h.1)] at hes
            have HT2 : Hid (quotedL (cs R) (at_ + n) = quoL qc (at_ + (i + 2)) ((cs R).drop (at_ + (i + 2)))) := Lib.hid (HT.out.trans hes)
            clear hes
            go_wp2_with fail
            go_quiet (fail)
            go_wp2_with fail
            go_roundg (m + 20 - (at_ + (i + 2)))
            case measure => omega
            case rel => exact ⟨i + 2, rfl, by omega, by omega, by go_num, ⟨_, by rw [hw2.out, drewN_add]⟩, HT2⟩
        · have y92 : (x == 92) = false := by simpa using x92
          have hhit := quo_hit (q := qc) (A := cs R) (j := at_ + i) (by rw [HA.out]; exact hlt) (fun e => x10 (by rw [hx, e]; rfl)) (fun e => x92 (by rw [hx, e]; rfl))
          by_cases xq : x = qc.toNat
          · have hc : chAt (cs R) (at_ + i) = qc := (u8eq _ _).2 (by rw [← hx]; exact xq)
            rw [if_pos hc] at hhit
            have hres : Hid (closesL (cs R) at_ n = i + 1) := Lib.hid (by unfold closesL; rw [HT.out, hhit, if_neg (by omega)]; omega)
            have xqb : (x == (qc.toNat : Int)) = true := by simpa using xq
            clear hc hhit
            replace xq := Lib.hid xq
            replace hx := Lib.hid hx
            go_wp2
            go_ret
            exact ⟨by rw [hres.out]; rfl, _, hw2.out⟩
          · have hc : ¬ chAt (cs R) (at_ + i) = qc := by intro e; exact xq (by rw [hx, e])
            rw [if_neg hc] at hhit
            have HT2 : Hid (quotedL (cs R) (at_ + n) = quoL qc (at_ + (i + 1)) ((cs R).drop (at_ + (i + 1)))) := Lib.hid (HT.out.trans hhit)
            have xqb : (x == (qc.toNat : Int)) = false := by simpa using xq
            clear hc hhit
            replace hx := Lib.hid hx
            go_wp2_with fail
            go_roundg (m + 20 - (at_ + (i + 1)))
            case measure => omega
            case rel => exact ⟨i + 1, rfl, by omega, by omega, by go_num, ⟨_, hw2.out⟩, HT2⟩
    · have e1 : ¬ (at_ : Int) + i < m := by omega
      have hres : Hid (closesL (cs R) at_ n = 0) := Lib.hid (by unfold closesL; rw [HT.out, quo_end (by rw [HA.out]; omega)]; rfl)
      go_wp2_with fail
      go_quiet (fail)
      go_wp2
      go_ret
      exact ⟨by rw [hres.out]; rfl, _, by rw [hq.out, drewN_add]⟩
end Go.Proofs.YtfaoamdlknlgpaaGreat

/- oxbowref4's Lines: the last line. -/
namespace Go.Proofs.YtfaoamdlknlgpaaGreat
open Go.RowKit
set_option linter.unusedVariables false

theorem LnsAt.unsnoc {w : World} {S : Nat} {file : ByteArray} : ∀ {ls : List Ln} {l : Ln} {css : List (List Value)}, LnsAt w S file (ls ++ [l]) css → ∃ cs' c, css = cs' ++ [c] ∧ LnsAt w S file ls cs' ∧ LnAt w S file l c := by
  intro ls
  induction ls with
  | nil =>
    intro l css h
    cases h with
    | cons h r => cases r; exact ⟨[], _, rfl, .nil, h⟩
  | cons a ls ih =>
    intro l css h
    cases h with
    | cons h r =>
      obtain ⟨cs', c, rfl, h1, h2⟩ := ih r
      exact ⟨_ :: cs', c, rfl, .cons h h1, h2⟩

theorem finL_snoc (m : Nat) (ls : List Ln) (l : Ln) : finL m (ls ++ [l]) = ls ++ [⟨l.toks, l.f, m, l.op⟩] := by
  induction ls with
  | nil => rfl
  | cons a ls ih =>
    cases ls with
    | nil => rfl
    | cons b ls => simp only [List.cons_append, finL] at ih ⊢; rw [ih]

theorem lines_last {w : World} {B S g cap M : Nat} {file : ByteArray} {ls : List Ln} {lcs : List (List Value)} (ho : Own w B 101 4 (.slice (some ⟨g, 0, none⟩) (M + 1) cap) lcs) (hl : LnsAt w S file ls lcs) (hM : ls.length = M + 1) (m : Nat) :
    ∃ old lcs', w.cell? ⟨g, M * 4 + 2, none⟩ = some old ∧ w.frozen? ⟨g, M * 4 + 2, none⟩ = false ∧ Own (w.setCell ⟨g, M * 4 + 2, none⟩ (.int .i64 m)) B 101 4 (.slice (some ⟨g, 0, none⟩) (M + 1) cap) lcs' ∧ LnsAt (w.setCell ⟨g, M * 4 + 2, none⟩ (.int .i64 m)) S file (finL m ls) lcs' ∧ B ≤ g := by
  obtain ⟨ls', l, rfl⟩ : ∃ ls' l, ls = ls' ++ [l] := ⟨ls.dropLast, ls.getLast (by intro h; rw [h] at hM; simp at hM), (List.dropLast_concat_getLast _).symm⟩
  obtain ⟨cs', c, rfl, h1, h2⟩ := hl.unsnoc
  have hcl : cs'.length = M := by rw [h1.len]; simpa using hM
  obtain ⟨ao, k, rfl, hk, hrow⟩ := h2
  have hlen : (cs' ++ [[Value.slice ao l.toks.length k, .int .i64 l.f, .int .i64 l.t, .bool l.op]]).length = M + 1 := by simp [hcl]
  have ho1 := ho.1
  rw [hlen] at ho1
  have hfl : cs'.flatten.length = M * 4 := by rw [flatten_len (sz := 4) (fun c hc => ho.2 c (by simp [hc])), hcl]
  have hb := ho.ge g rfl
  obtain ⟨y, fz, hy⟩ := ho.size_lt g rfl
  have hkt : ∀ S', KeptTok S' w (w.setCell ⟨g, M * 4 + 2, none⟩ (.int .i64 m)) := fun S' => KeptTok.setCell hy (by decide) _ _
  refine ⟨.int .i64 l.t, cs' ++ [[.slice ao l.toks.length k, .int .i64 l.f, .int .i64 m, .bool l.op]], ?_, ho1.frozenAt _, ⟨?_, ?_⟩, ?_, hb⟩
  · rw [ho1.cellAt _ (by omega), List.flatten_append, List.getElem?_append_right (by omega), hfl]
    simp
  · have := (ho1.stored (M * 4 + 2) (.int .i64 m)).1
    rw [List.flatten_append, List.set_append_right _ _ (by omega), hfl] at this
    rw [show (cs' ++ [[Value.slice ao l.toks.length k, .int .i64 l.f, .int .i64 m, .bool l.op]]).length = M + 1 by simp [hcl], List.flatten_append]
    simpa using this
  · intro c hc
    rcases List.mem_append.1 hc with hc | hc
    · exact ho.2 c (by simp [hc])
    · simp at hc; subst hc; rfl
  · rw [finL_snoc]
    exact (h1.kept (hkt _)).snoc (LnAt.kept (ln := ⟨l.toks, l.f, m, l.op⟩) ⟨ao, k, rfl, hk, hrow⟩ (hkt _))

theorem KeptTok.fresh {S : Nat} (w : World) (o : Obj) : KeptTok S w (w.drew.alloc o) := by
  intro i _ x fz hx
  exact (Lib.alloc_old w.drew o i (Array.getElem?_eq_some_iff.1 hx).1).trans hx

theorem app_kept {w w2 : World} {c : Nat} {o o1 : Obj} {r : Option Nat} (h : w.heap[c]? = some o1) (hne : r ≠ some c) (hg : (w.drew.alloc o).grownBy w2 r) : w2.heap[c]? = some o1 := by
  have hlt : c < w.heap.size := lt_of_block h
  rw [hg.block c (by simp; exact Nat.lt_succ_of_lt hlt) (fun e => hne e.symm)]
  exact (Lib.alloc_old w.drew o c hlt).trans h

theorem LsAt.later {w0 w w' : World} {H : Nat} {file : ByteArray} {s : LS} {vo vd vn : Value} (h : LsAt w0 w H file s vo vd vn) (hb : Below w.heap.size w w') (hH : H ≤ w0.heap.size) : LsAt w0 w' H file s vo vd vn := by
  obtain ⟨⟨S, lcs, h1, h2, h3, h4, h5⟩, h6, h7, h8⟩ := h
  exact ⟨⟨S, lcs, h1, Nat.le_trans h2 hb.size, h3.below hb, h4.below hb, h5.kept (KeptTok.below (hb.mono h2))⟩, h6.below hb, (hb.block _ (lt_of_block h7)).trans h7, h8.trans (hb.mono (Nat.le_trans hH h8.size))⟩

theorem RowAt.sub {w : World} {sz b o : Nat} {css : List (List Value)} (h : RowAt w sz b o css) (i n : Nat) : RowAt w sz b (o + i * sz) ((css.drop i).take n) := by
  intro k cs hk j u hj
  have hk2 : css[i + k]? = some cs := by
    rw [List.getElem?_take] at hk
    split at hk
    · rw [List.getElem?_drop] at hk; exact hk
    · cases hk
  have := h (i + k) cs hk2 j u hj
  rw [show o + i * sz + k * sz + j = o + (i + k) * sz + j by rw [Nat.add_mul]; omega]
  exact this

theorem tok_kept {w wt w9 : World} {c : Nat} {o o1 : Obj} {r : Option Nat} (h : w.heap[c]? = some o1) (hbt : Below w.heap.size w wt) (hg : (wt.alloc o).grownBy w9 r) (hne : r ≠ some c) : w9.heap[c]? = some o1 := by
  have h1 := (hbt.block c (lt_of_block h)).trans h
  have hlt : c < wt.heap.size := lt_of_block h1
  rw [hg.block c (by simp; omega) (fun e => hne e.symm)]
  exact (Lib.alloc_old wt o c hlt).trans h1

/-- behind a token's append and the store of its value: all that lies in memory -/
theorem LsAt.token {w0 w wt w9 : World} {H : Nat} {file : ByteArray} {s : LS} {vo vd vn v9 : Value} {tk : Tk} {S : Nat} {lcs : List (List Value)} {o : Obj} {sp : Bool} {i : Nat} (hH : H ≤ w0.heap.size) (hS1 : H + 1 ≤ S) (hS2 : S ≤ w.heap.size) (hn : Own w S 34 8 vn (s.toks.map (tkC file))) (ho : Own w (H + 1) 101 4 vo lcs) (hl : LnsAt w S file s.out lcs) (hd : Own w (H + 1) 68 4 vd (s.diags.map (dgC file)))
    (hh : w.heap[H]? = some (.cells #[vn, .int .i64 s.from_, .int .i64 0, .bool false] 101 (0, 0))) (hb : Below H w0 w) (hbt : Below w.heap.size w wt) (h9 : Own w9 S 34 8 v9 (s.toks.map (tkC file) ++ [tkC file tk])) (hg : (wt.alloc o).grownBy w9 vn.ownBlock) :
    LsAt w0 (w9.setCell ⟨H, 0, none⟩ v9) H file ⟨i, s.toks ++ [tk], s.from_, sp, s.out, s.diags⟩ vo vd v9 := by
  have hne : vn.ownBlock ≠ some H := by intro e; have := hn.ge _ e; omega
  have hh9 := tok_kept hh hbt hg hne
  have hoth := others_app ((hn.below hbt).alloc o) hg
  have hsz : w.heap.size ≤ w9.heap.size := by have := hg.size; have := hbt.size; simp at *; omega
  have hs9 := setCell_eq_setRow w9 H 0 _ _ _ v9 hh9
  have hk : KeptTok S w w9 := by
    intro b hbS x fz hx
    exact tok_kept hx hbt hg (by intro e; have := hn.ge _ e; omega)
  refine ⟨⟨S, lcs, hS1, by simp [World.setCell]; omega, ?_, (own_kt0 ((ho.below hbt).alloc o) (by decide) hoth).setBelow (Nat.lt_succ_self _) _, (hl.kept hk).kept (KeptTok.setCell hh9 (by decide) _ _)⟩, (own_kt0 ((hd.below hbt).alloc o) (by decide) hoth).setBelow (Nat.lt_succ_self _) _, ?_, ?_⟩
  · rw [List.map_append]
    exact h9.setBelow (by omega) _
  · rw [hs9]
    exact setRow_heap _ _ _ _ _ _ hh9
  · exact (bapp ((hb.trans (hbt.mono (by have := hb.size; omega))).alloc (by have := hb.size; have := hbt.size; omega) _) (((hn.below hbt).alloc o).mono (by omega)) hg (by have := hb.size; have := hbt.size; simp; omega)).setCell (p := ⟨H, 0, none⟩) (Nat.le_refl _) _

theorem wrap_small {x : Int} (h : 0 ≤ x ∧ x ≤ 1000000000) : IntKind.i64.wrap x = x := by
  rw [IntKind.wrap_i64]
  omega

theorem com_open {A : List UInt8} {i : Nat} (h : (commentL A i).2 = true) : i + 1 < A.length := by
  unfold commentL at h
  split at h
  · cases h
  · split at h
    · cases h
    · split at h
      · cases h
      · rename_i h42
        rcases Nat.lt_or_ge (i + 1) A.length with h1 | h1
        · exact h1
        · rw [chAt_ge h1] at h42
          exact absurd (by decide) h42
end Go.Proofs.YtfaoamdlknlgpaaGreat
