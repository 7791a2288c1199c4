/- LexBytes: the plain law: spans in order, and what stands there. -/
import Derived.Test.YthbicbfdldpemaaPhSpec3
import Derived.Test.YthbicbfdldpemaaLw15
import Derived.Test.YthbicbfdldpemaaLexLinesSpec
namespace Go.Proofs.Ythbicbfdldpemaa
set_option linter.unusedVariables false

theorem Chain.all {N : Nat} : ∀ {l : List Rn} {p : Nat}, Chain N p l → (∀ r ∈ l, p ≤ r.f ∧ r.f ≤ r.t ∧ r.t ≤ N) ∧ l.Pairwise (fun a b => a.t ≤ b.f)
  | [], p, _ => ⟨by simp, .nil⟩
  | a :: l, p, h => by
    have ih := Chain.all h.2.2.2.2
    refine ⟨fun r hr => ?_, List.pairwise_cons.2 ⟨fun r hr => (ih.1 r hr).1, ih.2⟩⟩
    rcases List.mem_cons.1 hr with rfl | hr
    · exact ⟨h.1, h.2.1, h.2.2.1⟩
    · have := ih.1 r hr
      have h1 := h.1
      have h2 := h.2.1
      omega

theorem standL_strict {text : List UInt8} {r : Rn} (h : r ∈ standL text) : r.f < r.t := by
  have := plainL_mem _ _ 0 (Nat.le_refl _) r (splicedL_sub _ _ (Nat.le_refl _) r h)
  omega

theorem pick_mid {A M B : List Rn} {m0 mz : Rn} (hp : (A ++ (M ++ B)).Pairwise (fun a b => a.t ≤ b.f)) (hs : ∀ r ∈ A ++ (M ++ B), r.f < r.t) (h0 : M.head? = some m0) (hz : M.getLast? = some mz) : pickL (A ++ (M ++ B)) m0.f mz.t = M.map (·.c) ∧ m0.f < mz.t := by
  rw [List.pairwise_append] at hp
  obtain ⟨_, hp2, hAM⟩ := hp
  rw [List.pairwise_append] at hp2
  obtain ⟨hM, _, hMB⟩ := hp2
  have m0M : m0 ∈ M := List.mem_of_mem_head? h0
  have mzM : mz ∈ M := List.mem_of_getLast? hz
  have sA : ∀ r ∈ A, r.f < r.t := fun r hr => hs r (by simp [hr])
  have sM : ∀ r ∈ M, r.f < r.t := fun r hr => hs r (by simp [hr])
  have sB : ∀ r ∈ B, r.f < r.t := fun r hr => hs r (by simp [hr])
  have hlo : ∀ r ∈ M, m0.f ≤ r.f := by
    cases M with
    | nil => simp at h0
    | cons a M =>
      simp only [List.head?_cons, Option.some.injEq] at h0
      subst h0
      intro r hr
      rcases List.mem_cons.1 hr with rfl | hr
      · exact Nat.le_refl _
      · have := (List.pairwise_cons.1 hM).1 r hr
        have := sM a (by simp)
        omega
  have hhi : ∀ r ∈ M, r.t ≤ mz.t := by
    rcases List.eq_nil_or_concat M with hn | ⟨ini, a, hn⟩
    · rw [hn] at hz; simp at hz
    · rw [List.concat_eq_append] at hn
      subst hn
      rw [List.getLast?_concat] at hz
      simp only [Option.some.injEq] at hz
      subst hz
      intro r hr
      rw [List.pairwise_append] at hM
      rcases List.mem_append.1 hr with hr | hr
      · have := hM.2.2 r hr a (by simp)
        have := sM a (by simp)
        omega
      · simp only [List.mem_singleton] at hr; subst hr; exact Nat.le_refl _
  have hlt : m0.f < mz.t := by have := sM _ m0M; have := hhi _ m0M; omega
  refine ⟨?_, hlt⟩
  unfold pickL
  rw [List.filter_append, List.filter_append, List.filter_eq_nil_iff.2, List.filter_eq_self.2, List.filter_eq_nil_iff.2]
  · simp
  · intro r hr
    have h1 := hMB mz mzM r hr
    have := sB r hr
    have h2 : ¬ ((r.t : Int) ≤ (mz.t : Int)) := by omega
    simp [h2]
  · intro r hr
    have h1 := hlo r hr
    have h2 := hhi r hr
    have h3 : (m0.f : Int) ≤ (r.f : Int) := by omega
    have h4 : (r.t : Int) ≤ (mz.t : Int) := by omega
    simp [h3, h4]
  · intro r hr
    have h1 := hAM r hr m0 (by simp [m0M])
    have := sA r hr
    have h2 : ¬ ((m0.f : Int) ≤ (r.f : Int)) := by omega
    simp [h2]

theorem charsL_stand (text : List UInt8) : ∃ x, charsL text = standL text ++ x ∧ (x = [] ∨ x = [⟨10, text.length, text.length⟩]) := by
  unfold charsL
  split
  · exact ⟨_, rfl, .inr rfl⟩
  · exact ⟨[], by simp, .inl rfl⟩

theorem back_mid {text : List UInt8} {i e : Nat} (hie : i < e) (he : e ≤ (charsL text).length) (hc : chAt (cs (charsL text)) (e - 1) ≠ 10) :
    backL text (rF (charsL text) i) (rT (charsL text) (e - 1)) = ((cs (charsL text)).drop i).take (e - i) ∧ rF (charsL text) i < rT (charsL text) (e - 1) := by
  obtain ⟨x, hx, hx2⟩ := charsL_stand text
  have hel : e ≤ (standL text).length := by
    rcases hx2 with rfl | rfl
    · rw [hx] at he; simpa using he
    · rcases Nat.lt_or_ge (standL text).length e with h | h
      · exfalso
        apply hc
        rw [hx] at he
        simp only [List.length_append, List.length_singleton] at he
        have h1 : e - 1 = (standL text).length := by omega
        rw [hx, h1]
        simp [chAt, cs, List.getD_eq_getElem?_getD]
      · exact h
  have hg : ∀ k, k < e → (charsL text)[k]? = (standL text)[k]? := by
    intro k hk
    rw [hx, List.getElem?_append_left (by omega)]
  have hcs : ((cs (charsL text)).drop i).take (e - i) = (((standL text).drop i).take (e - i)).map (·.c) := by
    rw [hx]
    unfold cs
    rw [List.map_append, List.drop_append_of_le_length (by rw [List.length_map]; omega), List.take_append_of_le_length (by rw [List.length_drop, List.length_map]; omega), List.map_take, List.map_drop]
  have hsplit : standL text = (standL text).take i ++ (((standL text).drop i).take (e - i) ++ (standL text).drop e) := by
    have h1 : ((standL text).drop i).drop (e - i) = (standL text).drop e := by rw [List.drop_drop]; congr 1; omega
    rw [← h1, List.take_append_drop, List.take_append_drop]
  have hA := (standL_chain text).all.2
  have hS : ∀ r ∈ standL text, r.f < r.t := fun r hr => standL_strict hr
  have a0 : (((standL text).drop i).take (e - i)).head? = some ((standL text)[i]'(by omega)) := by
    rw [List.drop_eq_getElem_cons (by omega), show e - i = (e - i - 1) + 1 by omega, List.take_succ_cons]
    rfl
  have az : (((standL text).drop i).take (e - i)).getLast? = some ((standL text)[e - 1]'(by omega)) := by
    rw [List.getLast?_eq_getElem?, List.length_take, List.length_drop, Nat.min_eq_left (by omega), List.getElem?_take, if_pos (by omega), List.getElem?_drop, show i + (e - i - 1) = e - 1 by omega, List.getElem?_eq_getElem (by omega)]
  have hF : rF (charsL text) i = ((standL text)[i]'(by omega)).f := by unfold rF; rw [hg i hie, List.getElem?_eq_getElem (by omega)]; rfl
  have hT : rT (charsL text) (e - 1) = ((standL text)[e - 1]'(by omega)).t := by unfold rT; rw [hg (e - 1) (by omega), List.getElem?_eq_getElem (by omega)]; rfl
  rw [hsplit] at hA
  have hS2 : ∀ r ∈ (standL text).take i ++ (((standL text).drop i).take (e - i) ++ (standL text).drop e), r.f < r.t := by rw [← hsplit]; exact hS
  have := pick_mid hA hS2 a0 az
  rw [← hsplit] at this
  rw [hF, hT, hcs]
  exact this

/-! ## lines in order -/

def ToksOk (text : List UInt8) : Nat → List Tk → Nat → Prop
  | a, [], b => a ≤ b
  | a, t :: ts, b => a ≤ t.f ∧ t.f < t.t ∧ backL text t.f t.t = t.text ∧ ToksOk text t.t ts b

theorem ToksOk.mono {text : List UInt8} : ∀ {ts : List Tk} {a b c : Nat}, ToksOk text a ts b → b ≤ c → ToksOk text a ts c
  | [], a, b, c, h, hc => Nat.le_trans h hc
  | t :: ts, a, b, c, h, hc => ⟨h.1, h.2.1, h.2.2.1, h.2.2.2.mono hc⟩

theorem ToksOk.snoc {text : List UInt8} : ∀ {ts : List Tk} {a b : Nat} {t : Tk}, ToksOk text a ts b → b ≤ t.f → t.f < t.t → backL text t.f t.t = t.text → ToksOk text a (ts ++ [t]) t.t
  | [], a, b, t, h, h1, h2, h3 => ⟨Nat.le_trans h h1, h2, h3, Nat.le_refl _⟩
  | u :: ts, a, b, t, h, h1, h2, h3 => ⟨h.1, h.2.1, h.2.2.1, h.2.2.2.snoc h1 h2 h3⟩

theorem ToksOk.le {text : List UInt8} : ∀ {ts : List Tk} {a b : Nat}, ToksOk text a ts b → a ≤ b
  | [], a, b, h => h
  | t :: ts, a, b, h => by have := h.2.2.2.le; have h1 := h.1; have h2 := h.2.1; omega

def LnsOk (text : List UInt8) : Nat → List Ln → Nat → Prop
  | a, [], b => a = b
  | a, l :: ls, b => l.f = a ∧ a ≤ l.t ∧ ToksOk text a l.toks l.t ∧ (l.op = true → ls = []) ∧ LnsOk text l.t ls b

theorem LnsOk.snoc {text : List UInt8} : ∀ {ls : List Ln} {a b : Nat} {l : Ln}, LnsOk text a ls b → (∀ l ∈ ls, l.op = false) → l.f = b → ToksOk text b l.toks l.t → LnsOk text a (ls ++ [l]) l.t
  | [], a, b, l, h, _, h1, h2 => by
    have h : a = b := h
    subst h
    exact ⟨h1, h2.le, h2, fun _ => rfl, rfl⟩
  | m :: ls, a, b, l, h, ho, h1, h2 => ⟨h.1, h.2.1, h.2.2.1, (fun e => by rw [ho m (by simp)] at e; cases e), h.2.2.2.2.snoc (fun x hx => ho x (by simp [hx])) h1 h2⟩

theorem LnsOk.fin {text : List UInt8} (n : Nat) : ∀ {ls : List Ln} {a b : Nat}, LnsOk text a ls b → b ≤ n → ls ≠ [] → LnsOk text a (finL n ls) n
  | [], a, b, h, _, h1 => absurd rfl h1
  | [l], a, b, h, hb, _ => by
    have hb2 : l.t = b := h.2.2.2.2
    exact ⟨h.1, by have := h.2.1; simp only; omega, h.2.2.1.mono (by simp only; omega), fun _ => rfl, rfl⟩
  | l :: m :: ls, a, b, h, hb, _ => ⟨h.1, h.2.1, h.2.2.1, fun e => absurd (h.2.2.2.1 e) (by simp), h.2.2.2.2.fin n hb (by simp)⟩

structure BInv (text : List UInt8) (R : List Rn) (s : LS) : Prop where
  lns : LnsOk text 0 s.out s.from_
  ops : ∀ l ∈ s.out, l.op = false
  toks : ToksOk text s.from_ s.toks (atOf R s.i)
  some_ : s.i = 0 ∧ s.out = [] ∨ 0 < s.i ∧ (chAt (cs R) (s.i - 1) ≠ 10 ∨ s.out ≠ [])

theorem atOf_get {R : List Rn} {k : Nat} {r : Rn} (h : R[k]? = some r) : atOf R (k + 1) = rT R k := by
  rw [atOf_succ h]; simp [rT, h]

theorem atOf_le (text : List UInt8) {i : Nat} (hi : i < (charsL text).length) : atOf (charsL text) i ≤ rF (charsL text) i ∧ rF (charsL text) i ≤ rT (charsL text) i ∧ rT (charsL text) i ≤ text.length := by
  obtain ⟨r, hr⟩ : ∃ r, (charsL text)[i]? = some r := ⟨(charsL text)[i], by simp⟩
  have := charsL_at text hr
  simp only [rF, rT, hr, Option.map_some, Option.getD_some]
  omega

theorem atOf_mono (text : List UInt8) : ∀ (d i : Nat), i + d ≤ (charsL text).length → atOf (charsL text) i ≤ atOf (charsL text) (i + d)
  | 0, i, _ => Nat.le_refl _
  | d + 1, i, h => by
    have h1 := atOf_mono text d i (by omega)
    obtain ⟨r, hr⟩ : ∃ r, (charsL text)[i + d]? = some r := ⟨(charsL text)[i + d]'(by omega), by simp⟩
    have h2 := atOf_le text (i := i + d) (by omega)
    rw [show i + (d + 1) = (i + d) + 1 by omega, atOf_get hr]
    omega

theorem atOf_end (text : List UInt8) {i : Nat} (hi : i ≤ (charsL text).length) : atOf (charsL text) i ≤ text.length := by
  cases i with
  | zero => rw [atOf_zero]; omega
  | succ i =>
    obtain ⟨r, hr⟩ : ∃ r, (charsL text)[i]? = some r := ⟨(charsL text)[i]'(by omega), by simp⟩
    rw [atOf_get hr]
    exact (atOf_le text (by omega)).2.2

theorem step_ok {text : List UInt8} {s : LS} (hi : s.i < (charsL text).length) (h : BInv text (charsL text) s) : match lineStep (charsL text) text.length s with
    | .inl s' => BInv text (charsL text) s'
    | .inr r => LnsOk text 0 r.1 text.length ∧ r.1 ≠ [] := by
  obtain ⟨r, hr⟩ : ∃ r, (charsL text)[s.i]? = some r := ⟨(charsL text)[s.i]'hi, by simp⟩
  have ha := atOf_le text hi
  have hcl : s.i < (cs (charsL text)).length := by rw [cs_len]; exact hi
  have hcm := commentL_len hcl
  have hnl := nextL_len hcl
  rw [cs_len] at hcm hnl
  by_cases h10 : chAt (cs (charsL text)) s.i = 10
  · have he : lineStep (charsL text) text.length s = .inl ⟨s.i + 1, [], rT (charsL text) s.i, false, s.out ++ [⟨s.toks, s.from_, rT (charsL text) s.i, false⟩], s.diags⟩ := by unfold lineStep; rw [if_pos h10]
    rw [he]
    refine ⟨h.lns.snoc (l := ⟨s.toks, s.from_, rT (charsL text) s.i, false⟩) h.ops rfl (h.toks.mono (by simp only; omega)), ?_, ?_, .inr ⟨Nat.succ_pos _, .inr (by simp)⟩⟩
    · intro l hl
      rcases List.mem_append.1 hl with hl | hl
      · exact h.ops l hl
      · simp only [List.mem_singleton] at hl; subst hl; rfl
    · simp only
      rw [atOf_get hr]
      exact Nat.le_refl _
  · by_cases hw : whiteB (chAt (cs (charsL text)) s.i) = true
    · have he : lineStep (charsL text) text.length s = .inl ⟨s.i + 1, s.toks, s.from_, true, s.out, s.diags⟩ := by unfold lineStep; rw [if_neg h10, if_pos hw]
      rw [he]
      exact ⟨h.lns, h.ops, h.toks.mono (atOf_mono text 1 s.i (by omega)), .inr ⟨Nat.succ_pos _, .inl (by simpa using h10)⟩⟩
    · by_cases hc : s.i < (commentL (cs (charsL text)) s.i).1
      · by_cases ho : (commentL (cs (charsL text)) s.i).2 = true
        · have he : lineStep (charsL text) text.length s = .inr (s.out ++ [⟨s.toks, s.from_, text.length, true⟩], s.diags ++ [⟨1, rF (charsL text) s.i, rT (charsL text) (s.i + 1)⟩]) := by unfold lineStep; rw [if_neg h10, if_neg hw, if_pos hc, if_pos ho]
          rw [he]
          exact ⟨h.lns.snoc (l := ⟨s.toks, s.from_, text.length, true⟩) h.ops rfl (h.toks.mono (atOf_end text (by omega))), by simp⟩
        · have he : lineStep (charsL text) text.length s = .inl ⟨(commentL (cs (charsL text)) s.i).1, s.toks, s.from_, true, s.out, s.diags⟩ := by unfold lineStep; rw [if_neg h10, if_neg hw, if_pos hc, if_neg ho]
          rw [he]
          refine ⟨h.lns, h.ops, h.toks.mono ?_, .inr ⟨by simp only; omega, .inl (comment_tail hc (by simpa using ho))⟩⟩
          have := atOf_mono text ((commentL (cs (charsL text)) s.i).1 - s.i) s.i (by omega)
          rwa [show s.i + ((commentL (cs (charsL text)) s.i).1 - s.i) = (commentL (cs (charsL text)) s.i).1 by omega] at this
      · have ht := next_tail hcl h10
        have hb := back_mid hnl.1 hnl.2 ht
        obtain ⟨r2, hr2⟩ : ∃ r, (charsL text)[(nextL (cs (charsL text)) s.i).2.1 - 1]? = some r := ⟨(charsL text)[(nextL (cs (charsL text)) s.i).2.1 - 1]'(by omega), by simp⟩
        have he2 := atOf_get hr2
        rw [show (nextL (cs (charsL text)) s.i).2.1 - 1 + 1 = (nextL (cs (charsL text)) s.i).2.1 by omega] at he2
        obtain ⟨dg, he⟩ : ∃ dg, lineStep (charsL text) text.length s = .inl ⟨(nextL (cs (charsL text)) s.i).2.1, s.toks ++ [tokAt (charsL text) s], s.from_, false, s.out, dg⟩ := by unfold lineStep; rw [if_neg h10, if_neg hw, if_neg hc]; exact ⟨_, rfl⟩
        rw [he]
        refine ⟨h.lns, h.ops, ?_, .inr ⟨by simp only; omega, .inl ht⟩⟩
        simp only
        rw [he2]
        exact h.toks.snoc (t := tokAt (charsL text) s) ha.1 hb.2 hb.1

theorem run_ok {text : List UInt8} (hR : 0 < (charsL text).length → chAt (cs (charsL text)) ((charsL text).length - 1) = 10) : ∀ (k : Nat) (s : LS), s.i ≤ (charsL text).length → (charsL text).length < k + s.i → BInv text (charsL text) s → LnsOk text 0 (linesRun (charsL text) text.length k s).1 text.length ∧ (((linesRun (charsL text) text.length k s).1 = []) ↔ text = [])
  | 0, s, hi, hk, h => by omega
  | k + 1, s, hi, hk, h => by
    unfold linesRun
    split
    · rename_i hlt
      have hs := step_ok hlt h
      split
      · rename_i s' he
        rw [he] at hs
        have := lineStep_i hlt he
        exact run_ok hR k s' (by omega) (by omega) hs
      · rename_i r he
        rw [he] at hs
        refine ⟨hs.1, fun e => absurd e hs.2, fun e => ?_⟩
        rw [(charsL_nil text).2 e] at hlt
        simp at hlt
    · rename_i hlt
      rcases h.some_ with ⟨h0, ho⟩ | ⟨h0, h1⟩
      · have hnil : text = [] := (charsL_nil text).1 (List.eq_nil_of_length_eq_zero (by omega))
        subst hnil
        rw [ho]
        exact ⟨rfl, by simp [finL]⟩
      · have hie : s.i = (charsL text).length := by omega
        have ho : s.out ≠ [] := by
          rcases h1 with h1 | h1
          · exact absurd (by rw [hie]; exact hR (by omega)) h1
          · exact h1
        refine ⟨h.lns.fin _ (Nat.le_trans h.toks.le (atOf_end text hi)) ho, fun e => ?_, fun e => ?_⟩
        · exfalso
          apply ho
          have := finL_len (m := text.length) s.out
          simp only at e
          rw [e] at this
          exact List.eq_nil_of_length_eq_zero this.symm
        · rw [(charsL_nil text).2 e] at hie
          simp at hie
          omega

theorem linesL_ok (text : List UInt8) : LnsOk text 0 (linesL text).1 text.length ∧ ((linesL text).1 = [] ↔ text = []) := by
  refine run_ok ?_ _ _ (Nat.zero_le _) (by simp) ⟨rfl, by simp, ?_, .inl ⟨rfl, rfl⟩⟩
  · intro h
    obtain ⟨ini, r, h1, h2⟩ := charsL_last text (by intro e; rw [(charsL_nil _).2 e] at h; simp at h)
    rw [h1]
    simp [chAt, cs, h2, List.getD_eq_getElem?_getD]
  · rw [atOf_zero]; exact Nat.le_refl _
end Go.Proofs.Ythbicbfdldpemaa
