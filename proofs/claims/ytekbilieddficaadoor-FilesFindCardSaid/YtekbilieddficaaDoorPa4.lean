/- Paths: the document's Valid; an append of a whole slice at a step of a region that draws its order. -/
import Derived.Test.YtekbilieddficaaDoorPa3
namespace Go.Proofs.YtekbilieddficaaDoor
open Go.RowKit
set_option linter.unusedVariables false

theorem partsL_len : ∀ (p : List UInt8), ∀ q ∈ partsL p, q.length ≤ p.length := by
  intro p
  induction p with
  | nil => simp [partsL]
  | cons c cs ih =>
    intro q hq
    simp only [partsL] at hq
    split at hq
    · rcases List.mem_cons.1 hq with rfl | hq
      · simp
      · have := ih q hq; simp; omega
    · cases hp : partsL cs with
      | nil => exact (partsL_ne cs hp).elim
      | cons p ps =>
        rw [hp] at hq ih
        rcases List.mem_cons.1 hq with rfl | hq
        · have := ih p (by simp); simp; omega
        · have := ih q (by simp [hq]); simp; omega

theorem partsL_count : ∀ (p : List UInt8), (partsL p).length ≤ p.length + 1 := by
  intro p
  induction p with
  | nil => simp [partsL]
  | cons c cs ih =>
    simp only [partsL]
    split
    · simp; omega
    · cases hp : partsL cs with
      | nil => simp
      | cons q qs => rw [hp] at ih; simp at ih ⊢; omega

theorem txs_at {ps : List ByteArray} {L : List (List UInt8)} (h : txs ps = L) {k : Nat} {p : ByteArray} (hp : ps[k]? = some p) : L[k]? = some p.data.toList := by
  rw [← h]; unfold txs; simp [hp]

theorem txs_len {ps : List ByteArray} {L : List (List UInt8)} (h : txs ps = L) : ps.length = L.length := by rw [← h]; unfold txs; simp

set_option maxRecDepth 100000 in
set_option maxHeartbeats 4000000 in
theorem rvalid_any (s : ByteArray) (hs : s.size ≤ 100000) (w : World) : Calls Tryd.prog 24 #[.string s] w fun e w' => e = .returned (.bool (decide (ValidP s.data.toList))) ∧ Below w.heap.size w w' := by
  obtain ⟨R, hR⟩ : ∃ R, R = decide (ValidP s.data.toList) := ⟨_, rfl⟩
  have HR : Hid (R = decide (ValidP s.data.toList)) := Lib.hid hR
  rw [← hR]
  clear hR
  have HS : Hid (s.data.toList.length = s.size) := Lib.hid (Lib.size_eq s).symm
  by_cases h80 : s.size ≤ 80
  · have e80 : ¬ (80 : Int) < (s.size : Int) := by omega
    have HPa := Lib.hid (parts_any s (by omega) w)
    go_enter Tryd.func24, Tryd.ntmps24
    go_wp2_with fail
    refine HPa.out.mono ?_
    rintro e w1 ⟨⟨v, ps, rfl, hown, hps⟩, hb⟩
    obtain ⟨n, hn⟩ : ∃ n, n = ps.length := ⟨_, rfl⟩
    have HN : Hid (ps.length = n) := Lib.hid hn.symm
    have hn8 : n ≤ 81 := by
      have h1 := partsL_count s.data.toList
      rw [← txs_len hps, HS.out] at h1
      omega
    obtain ⟨ao, cap, rfl, hcap, _, _, _⟩ := hown.rown (n := n) (by unfold strs; rw [List.length_map, hn])
    have hrow := hown.here
    have HK : Hid (∀ (k : Nat) (p : ByteArray), ps[k]? = some p → p.data.toList ∈ partsL s.data.toList ∧ p.size ≤ 80) := Lib.hid (by
      intro k p hp
      have h1 := txs_at hps hp
      have h2 := List.mem_of_getElem? h1
      refine ⟨h2, ?_⟩
      have h3 := partsL_len _ _ h2
      rw [← Lib.size_eq, HS.out] at h3
      omega)
    have HAll : Hid ((∀ (k : Nat) (p : ByteArray), k < n → ps[k]? = some p → PartOk p.data.toList) → R = true) := Lib.hid (by
      intro h
      rw [HR.out, decide_eq_true_eq]
      refine ⟨by rw [HS.out]; exact h80, ?_⟩
      intro q hq
      rw [← hps] at hq
      unfold txs at hq
      obtain ⟨p, hp, rfl⟩ := List.mem_map.1 hq
      obtain ⟨j, hj, rfl⟩ := List.mem_iff_getElem.1 hp
      exact h j _ (by omega) (List.getElem?_eq_getElem hj))
    clear hown hn hps
    go_wp2_with fail
    go_loopg [4] n (fun u v wr => ∃ k : Nat, u = n - k ∧ k ≤ n ∧ v = .int .i64 k ∧ wr = w1 ∧ Hid (∀ (j : Nat) (p : ByteArray), j < k → ps[j]? = some p → PartOk p.data.toList))
    case atStart => exact ⟨0, rfl, Nat.zero_le _, rfl, rfl, Lib.hid (by intro j p h; omega)⟩
    case round =>
      obtain ⟨k, rfl, hk, rfl, hwr, hok⟩ := hrel
      replace hwr := hwr.symm
      subst hwr
      by_cases hkn : k < n
      · have f1 : (k : Int) < (n : Int) := by omega
        obtain ⟨p, hp⟩ : ∃ p, ps[k]? = some p := ⟨ps[k]'(by rw [HN.out]; exact hkn), by simp⟩
        obtain ⟨rb, o, rfl, hat⟩ := hrow (by intro h; unfold strs at h; simp at h; subst h; simp at hp)
        have x0 := str_cell hat hp
        have HPt := part_any p (by have := (HK.out k p hp).2; omega) w
        have HPr := rpart_any p (by have := (HK.out k p hp).2; omega) w1
        obtain ⟨b, hbb⟩ : ∃ b, b = decide (PartOk p.data.toList) := ⟨_, rfl⟩
        rw [← hbb] at HPr
        replace HPr := Lib.hid HPr
        cases b with
        | false =>
          have hR0 : R = false := by
            rw [HR.out, decide_eq_false_iff_not]
            intro h
            exact of_decide_eq_false hbb.symm (h.2 _ (HK.out k p hp).1)
          have HR0 := Lib.hid hR0
          clear hbb hp hat HPt hR0
          go_wp2_with fail
          refine HPr.out.mono ?_
          rintro e w' ⟨rfl, hw'⟩
          replace hw' := hw'.symm
          subst hw'
          go_wp2
          go_ret
          exact ⟨by rw [HR0.out]; rfl, hb⟩
        | true =>
          have hnx : Hid (∀ (j : Nat) (p : ByteArray), j < k + 1 → ps[j]? = some p → PartOk p.data.toList) := Lib.hid (by
            intro j q hj hq
            by_cases h : j = k
            · subst h
              rw [hp] at hq
              cases hq
              exact of_decide_eq_true hbb.symm
            · exact hok.out j q (by omega) hq)
          clear hbb hp hat HPt hok
          go_wp2_with fail
          refine HPr.out.mono ?_
          rintro e w' ⟨rfl, hw'⟩
          replace hw' := hw'.symm
          subst hw'
          go_wp2_with fail
          go_roundg (n - (k + 1))
          case measure => omega
          case rel => exact ⟨k + 1, rfl, by omega, by go_num, rfl, hnx⟩
      · have f1 : ¬ (k : Int) < (n : Int) := by omega
        have HR1 := Lib.hid (HAll.out (fun j p hj => hok.out j p (by omega)))
        go_wp2
        go_ret
        exact ⟨by rw [HR1.out]; rfl, hb⟩
  · have e80 : (80 : Int) < (s.size : Int) := by omega
    have HR0 : Hid (R = false) := Lib.hid (by
      rw [HR.out, decide_eq_false_iff_not]
      intro h
      have := h.1
      rw [HS.out] at this
      omega)
    go_enter Tryd.func24, Tryd.ntmps24
    go_wp2
    go_ret
    exact ⟨by rw [HR0.out]; rfl, Below.refl _ _⟩

theorem rowAt_flat {w : World} {sz b o : Nat} {css : List (List Value)} (hl : ∀ cs ∈ css, cs.length = sz) (hat : RowAt w sz b o css) : ∀ j u, css.flatten[j]? = some u → w.cell? ⟨b, o + j, none⟩ = some u := by
  induction css generalizing o with
  | nil => intro j u h; simp at h
  | cons c cs ih =>
    intro j u hj
    have hc := hl c (by simp)
    rw [List.flatten_cons] at hj
    by_cases h : j < sz
    · rw [List.getElem?_append_left (by omega)] at hj
      have := hat 0 c rfl j u hj
      simpa using this
    · rw [List.getElem?_append_right (by omega), hc] at hj
      have h2 : RowAt w sz b (o + sz) cs := by
        intro i cs' hi j' u' hj'
        have := hat (i + 1) cs' (by simpa using hi) j' u' hj'
        rw [← this, Nat.add_mul, Nat.one_mul]
        congr 2
        omega
      have := ih (fun x hx => hl x (by simp [hx])) h2 (j - sz) u hj
      rw [show o + sz + (j - sz) = o + j by omega] at this
      exact this

/-- the length is given by itself -/
theorem step_appendN {P : Program} {w : World} {ops : Array Oper} {o : Oper} {a : Act} {K : Act → World → Prop} {Q : Exit → Act → World → Prop} {Z : Prop} {t e : TypeId} {z : Value} {size bytes : Nat} (E : EI P t e z size bytes)
    (hgd : o.guard = none) {s x : Operand} (ho : o.op = .call { callee := .builtin .append, args := #[s, x], argTypes := #[t, t] })
    {B : Nat} {v : Value} {css : List (List Value)} (hown : Own w B e size v css) (hs : a.eval s = v)
    {ao : Option Addr} {n c : Nat} {css2 : List (List Value)} (hx : a.eval x = .slice ao n c) (hn2 : css2.length = n) (hz : ao = none → c = 0) (hrow : Row w size ao css2) (hl : ∀ cs ∈ css2, cs.length = size) (h1 : ∀ cs ∈ css2, ∀ u ∈ cs, u.oneCell' = true)
    (hn : css.length + n ≤ 1000000000) (hbytes : bytes ≤ 1000) (hbase : B ≤ w.heap.size)
    (h : ∀ v' w', Own w' B e size v' (css ++ css2) → w.grownBy w' v.ownBlock → K (a.put o.dst v') w') :
    if Region.wanted o (yielded ops a.tmps) = true then Oper.wp P o a w K Q else Z := by
  obtain ⟨i, hi, hz0, hz1, hz2⟩ := info_parts E.info
  have hw : Region.wanted o (yielded ops a.tmps) = true := by simp [Region.wanted, hgd]
  rw [if_pos hw]
  have hb : (css.length + n) * bytes ≤ 140737488355328 := by
    calc (css.length + n) * bytes ≤ 1000000000 * 1000 := Nat.mul_le_mul hn hbytes
      _ ≤ 140737488355328 := by decide
  have hown2 : ∀ {v' w'}, w'.ownsRow B e size v' (css.length + n) (css.flatten ++ css2.flatten) → Own w' B e size v' (css ++ css2) := by
    intro v' w' h2
    refine ⟨by rw [List.length_append, hn2, List.flatten_append]; exact h2, ?_⟩
    intro cs hcs
    rcases List.mem_append.1 hcs with hcs | hcs
    · exact hown.2 cs hcs
    · exact hl cs hcs
  cases ao with
  | none =>
    have he : css2 = [] := by
      by_cases h0 : css2 = []
      · exact h0
      · obtain ⟨b, o, e, _⟩ := hrow h0
        cases e
    subst he
    obtain rfl := hz rfl
    obtain rfl : n = 0 := hn2.symm
    have hrun := run_append_owned_none (P := P) (w := w) B t o.type e i size E.under hi v _ _ hown.1
    unfold Oper.wp
    simp [execOp, ho, resolve, invoke, builtin, hs, hx, hrun, Result.andThen]
    exact h v w (by simpa using hown) ⟨rfl, rfl, rfl, Nat.le_refl _, fun _ _ _ => rfl⟩
  | some ad =>
    refine wp_append_own w s x t ho B e i z size bytes E.under hi hz0 hz1 hz2 E.zs E.pos v css.length css.flatten hs hown.1 ad n c css2.flatten hx (by rw [flatten_len hl, hn2]) ?_ ?_ (by unfold maxLen; omega) hb hbase ?_
    · intro j u hj
      by_cases h0 : css2 = []
      · subst h0; simp at hj
      · obtain ⟨b, off, e, hat⟩ := hrow h0
        simp only [Option.some.injEq] at e
        subst e
        rw [Addr.add_lit]
        exact rowAt_flat hl hat j u hj
    · intro u hu
      obtain ⟨cs, hcs, hu⟩ := List.mem_flatten.1 hu
      exact h1 cs hcs u hu
    · intro v' w' h2 h3 _
      exact h v' w' (hown2 h2) h3

end Go.Proofs.YtekbilieddficaaDoor
