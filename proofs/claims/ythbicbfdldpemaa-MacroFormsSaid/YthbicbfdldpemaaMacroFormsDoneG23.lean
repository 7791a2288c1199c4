/- Texts of this seat's proofs, laid into one file. -/
import Derived.Test.YthbicbfdldpemaaMacroFormsDoneG22
import Derived.Test.YthbicbfdldpemaaMacroFormsDoneG21
import Derived.Deep.RegionLaw
import Derived.WalkSpells
import Derived.Deep.Cut
/- macro.Parse: the walk. -/
namespace Go.Proofs.Ythbicbfdldpemaa
open Go.RowKit
set_option linter.unusedVariables false

/-- what Parse gives -/
def ParsePost (T : List (Tm × Value)) (B : Nat) (r : Mac ⊕ Bad) (e : Ending) (w' : World) : Prop :=
  match r with
  | .inl m => ∃ (psv bov : Value) (T' : List (Tm × Value)), e = .returned (.tuple #[.agg (mcC m.name m.fn m.va psv bov m.file m.f m.t).toArray, .slice none 0 0]) ∧ Own w' B 9 1 psv (m.params.map fun p => [.string p]) ∧ Own w' B 43 8 bov (T'.map tvC) ∧ T'.map (·.1) = m.body ∧ (∀ p ∈ T', ∃ css, Own w' B 126 5 p.2 css) ∧ ((∀ p ∈ T, p.2 = .slice none 0 0) → ∀ p ∈ T', p.2 = .slice none 0 0)
  | .inr x => ∃ vd, e = .returned (.tuple #[.agg (mcC .empty false false (.slice none 0 0) (.slice none 0 0) .empty 0 0).toArray, vd]) ∧ Own w' B 38 4 vd [dgV x.code x.file x.f x.t]

def mc0 : List Value := [.string ⟨#[]⟩, .bool false, .bool false, .slice none 0 0, .slice none 0 0, .string ⟨#[]⟩, .int .i64 0, .int .i64 0]

theorem paramsL_len : ∀ (n : Nat) (l : List Tm) (va : Bool) (ps : List ByteArray) (r : List Tm) (va' : Bool) (ps' : List ByteArray), l.length ≤ n → paramsL l va ps = some (r, va', ps') → ps'.length ≤ ps.length + l.length := by
  intro n
  induction n with
  | zero => intro l va ps r va' ps' hl h; have := List.eq_nil_of_length_eq_zero (by omega : l.length = 0); subst this; simp [paramsL] at h
  | succ n ih =>
    intro l va ps r va' ps' hl h
    match l, hl, h with
    | [], _, h => simp [paramsL] at h
    | [_], _, h => simp [paramsL] at h
    | a :: b :: l, hl, h =>
      simp only [List.length_cons] at hl
      have ih' := fun va ps => ih l va ps r va' ps' (by omega)
      simp only [paramsL] at h
      repeat' split at h
      all_goals first
        | (simp only [reduceCtorEq] at h; done)
        | (simp only [Option.some.injEq, Prod.mk.injEq] at h; obtain ⟨_, _, rfl⟩ := h; simp only [List.length_append, List.length_cons, List.length_nil]; omega)
        | (have := ih' _ _ h; simp at this ⊢; omega)

theorem paramsTop_len {l r : List Tm} {va : Bool} {ps : List ByteArray} (h : paramsTop l = some (r, va, ps)) : ps.length ≤ l.length := by
  match l, h with
  | a :: l, h =>
    simp only [paramsTop] at h
    split at h
    · simp only [Option.some.injEq, Prod.mk.injEq] at h; obtain ⟨_, _, rfl⟩ := h; simp
    · have := paramsL_len _ _ _ _ _ _ _ (Nat.le_refl _) h
      simpa using this

/-- what holds ahead of the body -/
def PMid (T : List (Tm × Value)) (n : Nat) (w : World) (tk : Tm) (tb : Array Value) (PT : Mac ⊕ Bad) (s0 s7 : Value) (wx : World) : Prop :=
  Below w.heap.size w wx ∧ wx.heap[w.heap.size]? = some (.cells mc0.toArray 29 (0, 0)) ∧ wx.heap[w.heap.size + 1]? = some (.cells tb 43 (0, 0)) ∧
  ((s7 = .bool false ∧ PT = .inr ⟨5, tk.file, tk.f, tk.t⟩) ∨
   (s7 = .bool true ∧ ∃ (fn va : Bool) (ps : List ByteArray) (psv : Value) (Tr : List (Tm × Value)) (ak : Option Addr) (C : Nat), s0 = .slice ak Tr.length C ∧ Tr.length ≤ C ∧ Tr.length ≤ n ∧ ps.length ≤ n ∧ (∀ p ∈ Tr, p ∈ T) ∧ wx.heap[w.heap.size + 2]? = some (.cells (mcC tk.text fn va psv (.slice none 0 0) tk.file tk.f tk.t).toArray 29 (0, 0)) ∧ Own wx (w.heap.size + 3) 9 1 psv (ps.map fun p => [.string p]) ∧ (∀ w', Below (w.heap.size + 2) wx w' → Row w' 8 ak (Tr.map tvC)) ∧ PT = bodyL ⟨tk.text, fn, va, ps, unsp (Tr.map (·.1)), tk.file, tk.f, tk.t⟩))

theorem own_unsp {w : World} {B g cap : Nat} {t : Tm} {v : Value} {R : List (Tm × Value)} (ho : Own w B 43 8 (.slice (some ⟨g, 0, none⟩) (R.length + 1) cap) (tvC (t, v) :: R.map tvC)) :
    w.cell? ⟨g, 2, none⟩ = some (.bool t.sp) ∧ w.frozen? ⟨g, 2, none⟩ = false ∧ Own (w.setCell ⟨g, 2, none⟩ (.bool false)) B 43 8 (.slice (some ⟨g, 0, none⟩) (R.length + 1) cap) (tvC ({ t with sp := false }, v) :: R.map tvC) ∧ B ≤ g := by
  have ho1 := ho.1
  rw [show (tvC (t, v) :: R.map tvC).length = R.length + 1 by simp] at ho1
  refine ⟨?_, ho1.frozenAt _, ⟨?_, ?_⟩, ho.ge g rfl⟩
  · have := ho1.cellAt 2 (by omega)
    rw [this]; rfl
  · have := (ho1.stored 2 (.bool false)).1
    rw [show (tvC ({ t with sp := false }, v) :: R.map tvC).length = R.length + 1 by simp]
    exact this
  · intro c hc
    rcases List.mem_cons.1 hc with hc | hc
    · subst hc; rfl
    · exact ho.2 c (List.mem_cons_of_mem _ hc)

/-- the definition, its body laid: behind the store of the first token's space -/
structure BodyMid (T Tr T'' : List (Tm × Value)) (w : World) (tk : Tm) (fn va : Bool) (ps : List ByteArray) (psv bv : Value) (wx : World) : Prop where
  below : Below w.heap.size w wx
  res : wx.heap[w.heap.size]? = some (.cells mc0.toArray 29 (0, 0))
  mac : wx.heap[w.heap.size + 2]? = some (.cells (mcC tk.text fn va psv bv tk.file tk.f tk.t).toArray 29 (0, 0))
  params : Own wx (w.heap.size + 3) 9 1 psv (ps.map fun p => [.string p])
  body : Own wx (w.heap.size + 3) 43 8 bv (T''.map tvC)
  same : T''.map (·.1) = unsp (Tr.map (·.1))
  sites : ∀ p ∈ T'', ∃ css, Own wx (w.heap.size + 3) 126 5 p.2 css
  nils : (∀ p ∈ T, p.2 = .slice none 0 0) → ∀ p ∈ T'', p.2 = .slice none 0 0

theorem info_mac : (Try.prog.info? 29).map (·.size) = some 8 := by kernel_rfl

set_option maxHeartbeats 2000000 in
set_option maxRecDepth 100000 in
theorem mParse_any (T : List (Tm × Value)) (ao : Option Addr) (cap : Nat) (hn : T.length ≤ 1000000) (hcap : T.length ≤ cap) (w : World) (hrow : Row w 8 ao (T.map tvC)) (hs : ∀ p ∈ T, ∃ css, SiteIn w p.2 css) :
    Calls Try.prog 14 #[.slice ao T.length cap] w fun e w' => Below w.heap.size w w' ∧ ParsePost T w.heap.size (parseL (T.map (·.1))) e w' := by
  obtain ⟨n, hnn⟩ : ∃ n, n = T.length := ⟨_, rfl⟩
  have HN : Hid (T.length = n) := Lib.hid hnn.symm
  rw [← hnn] at hn hcap ⊢
  have HS := Lib.hid hs
  obtain ⟨PT, hPT⟩ : ∃ PT, PT = parseL (T.map (·.1)) := ⟨_, rfl⟩
  rw [← hPT]
  have HPT : Hid (parseL (T.map (·.1)) = PT) := Lib.hid hPT.symm
  clear hs hnn hPT
  go_enter Try.func14, Try.ntmps14
  by_cases h0 : n = 0
  · have hT : T = [] := List.eq_nil_of_length_eq_zero (HN.out.trans h0)
    subst h0
    have HP : Hid (PT = .inr ⟨4, .empty, 0, 0⟩) := Lib.hid (by rw [← HPT.out, hT]; rfl)
    clear hT
    go_wp2_with fail
    refine (mFails_any 4 ⟨#[]⟩ 0 0 _).mono ?_
    rintro e w2 ⟨vd, rfl, hd, hb2⟩
    obtain ⟨vao, vcap, rfl, _, _, _, _⟩ := hd.rown (n := 1) rfl
    have hr2 := (hb2.block w.heap.size (by simp)).trans (heap_alloc_new w _)
    unfold mcC at *
    go_wp2_with (refine wpList_store_row rfl 29 (.tmp 2) (.tmp 16) rfl w.heap.size _ rfl rfl 29 _ hr2 info_mac rfl (by simp [Value.oneCell']) ?_)
    have hr3 := setRow_heap _ _ _ #[Value.string .empty, .bool false, .bool false, .slice none 0 0, .slice none 0 0, .string .empty, .int .i64 0, .int .i64 0] _ _ hr2
    obtain ⟨m0, m1, m2, m3, m4, m5, m6, m7⟩ := cells8 hr3
    refine bodyPost_ret (v := .tuple #[.agg (mcC .empty false false (.slice none 0 0) (.slice none 0 0) .empty 0 0).toArray, .slice vao 1 vcap]) (by simp [results, Try.results14, go_sem, m0, m1, m2, m3, m4, m5, m6, m7]; rfl) rfl ⟨Below.row (((Below.refl _ w).alloc (Nat.le_refl _) _).trans (hb2.mono (by simp))) (Nat.le_refl _) _, ?_⟩
    rw [HP.out]
    exact ⟨_, rfl, (hd.rowBelow (by simp) _).mono (by simp)⟩
  · obtain ⟨⟨tk, v⟩, T1, hT⟩ : ∃ p T', T = p :: T' := by cases hT : T with | nil => (have := HN.out; rw [hT] at this; exact absurd this.symm h0) | cons p T' => exact ⟨p, T', rfl⟩
    obtain ⟨rb, o, rfl, hat⟩ := hrow (by rw [hT]; simp)
    rw [hT] at hat
    obtain ⟨css, hsi⟩ := HS.out (tk, v) (by rw [hT]; simp)
    obtain ⟨sao, scap, hv, _⟩ := hsi
    simp only at hv
    subst hv
    have ho : ∀ o, Below w.heap.size w (w.alloc o) := fun o => (Below.refl _ w).alloc (Nat.le_refl _) o
    have HAT : Hid (∀ w', Below w.heap.size w w' → RowAt w' 8 rb (o + 8) (T1.map tvC)) := Lib.hid (fun w' hw => (hat.below hw).drop 1)
    obtain ⟨t0, t1, t2, t3, t4, t5, t6, t7⟩ := tok8 (hat.below (ho (.cells #[.string ⟨#[]⟩, .bool false, .bool false, .slice none 0 0, .slice none 0 0, .string ⟨#[]⟩, .int .i64 0, .int .i64 0] 29)))
    have hn1 : 0 < n := by omega
    have hn0 : (0 : Int) < n := by omega
    have hnb : ((n : Int) == 0) = false := by simpa using h0
    obtain ⟨W2, hW2⟩ : ∃ W2, W2 = (w.alloc (.cells #[.string ⟨#[]⟩, .bool false, .bool false, .slice none 0 0, .slice none 0 0, .string ⟨#[]⟩, .int .i64 0, .int .i64 0] 29)).alloc (.cells #[.int .i64 tk.kind, .string tk.text, .bool tk.sp, .string tk.file, .int .i64 tk.f, .int .i64 tk.t, .bool tk.made, .slice sao css.length scap] 43) := ⟨_, rfl⟩
    have hb2 : Below w.heap.size w W2 := by rw [hW2]; exact (ho _).alloc (by simp) _
    have hr2 : W2.heap[w.heap.size]? = some (.cells #[.string ⟨#[]⟩, .bool false, .bool false, .slice none 0 0, .slice none 0 0, .string ⟨#[]⟩, .int .i64 0, .int .i64 0] 29 (0, 0)) := by rw [hW2]; exact (Lib.alloc_old _ _ _ (by simp)).trans (heap_alloc_new w _)
    have ht2 : W2.heap[w.heap.size + 1]? = some (.cells #[.int .i64 tk.kind, .string tk.text, .bool tk.sp, .string tk.file, .int .i64 tk.f, .int .i64 tk.t, .bool tk.made, .slice sao css.length scap] 43 (0, 0)) := by rw [hW2]; have := heap_alloc_new (w.alloc (.cells #[.string ⟨#[]⟩, .bool false, .bool false, .slice none 0 0, .slice none 0 0, .string ⟨#[]⟩, .int .i64 0, .int .i64 0] 29)) (.cells #[.int .i64 tk.kind, .string tk.text, .bool tk.sp, .string tk.file, .int .i64 tk.f, .int .i64 tk.t, .bool tk.made, .slice sao css.length scap] 43); simpa using this
    have hsz2 : W2.heap.size = w.heap.size + 2 := by rw [hW2]; simp
    replace hT := Lib.hid hT
    clear hat hrow
    go_upto_region 5 with fail
    rw [← hW2]
    replace hW2 := Lib.hid hW2
    clear t0 t1 t2 t3 t4 t5 t6 t7
    obtain ⟨t0, t1, t2, t3, t4, t5, t6, t7⟩ := cells8 ht2
    by_cases hk : tk.kind = 1
    · rw [hk] at t0
      have hPT1 : Hid (PT = if fixedP tk.text then .inr ⟨5, tk.file, tk.f, tk.t⟩ else match T1.map (·.1) with
        | p :: r =>
          if isP p (bs [40]) && !p.sp then
            match paramsTop r with
            | none => .inr ⟨5, tk.file, tk.f, tk.t⟩
            | some (b, va, ps) => bodyL ⟨tk.text, true, va, ps, unsp b, tk.file, tk.f, tk.t⟩
          else bodyL ⟨tk.text, false, false, [], unsp (p :: r), tk.file, tk.f, tk.t⟩
        | [] => bodyL ⟨tk.text, false, false, [], [], tk.file, tk.f, tk.t⟩) := Lib.hid (by rw [← HPT.out, hT.out]; simp [parseL, hk]; rfl)
      have HL1 : Hid (T1.length = n - 1) := Lib.hid (by have := HN.out; rw [hT.out] at this; simp at this; omega)
      replace hk := Lib.hid hk
      obtain ⟨W3, hW3⟩ : ∃ W3, W3 = W2.alloc (.cells #[.string tk.text, .bool false, .bool false, .slice none 0 0, .slice none 0 0, .string tk.file, .int .i64 tk.f, .int .i64 tk.t] 29) := ⟨_, rfl⟩
      have hb3 : Below w.heap.size w W3 := by rw [hW3]; exact hb2.alloc hb2.size _
      have hr3 : W3.heap[w.heap.size]? = some (.cells #[.string ⟨#[]⟩, .bool false, .bool false, .slice none 0 0, .slice none 0 0, .string ⟨#[]⟩, .int .i64 0, .int .i64 0] 29 (0, 0)) := by rw [hW3]; exact (Lib.alloc_old _ _ _ (by omega)).trans hr2
      have ht3 : W3.heap[w.heap.size + 1]? = some (.cells #[.int .i64 tk.kind, .string tk.text, .bool tk.sp, .string tk.file, .int .i64 tk.f, .int .i64 tk.t, .bool tk.made, .slice sao css.length scap] 43 (0, 0)) := by rw [hW3]; exact (Lib.alloc_old _ _ _ (by omega)).trans ht2
      have hm3 : W3.heap[w.heap.size + 2]? = some (.cells #[.string tk.text, .bool false, .bool false, .slice none 0 0, .slice none 0 0, .string tk.file, .int .i64 tk.f, .int .i64 tk.t] 29 (0, 0)) := by rw [hW3, ← hsz2]; exact heap_alloc_new W2 _
      have hsz3 : W3.heap.size = w.heap.size + 3 := by rw [hW3]; simp [hsz2]
      go_upto_region 8 with fail
      rw [← hW3]
      replace hW3 := Lib.hid hW3
      clear t0 t1 t2 t3 t4 t5 t6 t7 hr2 ht2
      go_cut [0] from 35 to 36 (fun s wx => ∃ ak C, s = .slice ak (n - 1) C ∧ n - 1 ≤ C ∧ wx = W3 ∧ Hid (∀ w', Below w.heap.size w w' → Row w' 8 ak (T1.map tvC)))
      case first =>
        go_wp2_with fail
        · obtain rfl : cap = 1 := by assumption
          go_meet
          refine ⟨some ⟨rb, o, none⟩, 0, rfl, by omega, rfl, Lib.hid (fun w' hw h => absurd ?_ h)⟩
          have := HL1.out
          rw [List.map_eq_nil_iff]
          exact List.eq_nil_of_length_eq_zero (by omega)
        · go_meet
          exact ⟨some ⟨rb, o + 8, none⟩, cap - 1, rfl, by omega, rfl, Lib.hid (fun w' hw _ => ⟨rb, o + 8, rfl, HAT.out w' hw⟩)⟩
      case rest =>
        obtain ⟨ak, C, rfl, hC, hw3, HR1⟩ := hcut
        have hw3' := hw3.symm
        clear hw3
        subst hw3'
        obtain ⟨t0, t1, t2, t3, t4, t5, t6, t7⟩ := cells8 ht3
        obtain ⟨x, hx⟩ : ∃ x, x = fixedP tk.text := ⟨_, rfl⟩
        have HFx := fun w => mFixed_any tk.text w
        simp only [← hx] at HFx
        obtain ⟨m, hm⟩ : ∃ m, m = n - 1 := ⟨_, rfl⟩
        obtain ⟨bb, hbb⟩ : ∃ bb, bb = (!x && match T1.map (·.1) with | p :: _ => isP p (bs [40]) && !p.sp | [] => false) := ⟨_, rfl⟩
        rw [← hm] at HL1 hC ⊢
        replace hm := Lib.hid hm
        replace hbb := Lib.hid hbb
        replace hx := Lib.hid hx
        replace HFx := Lib.hid HFx
        go_upto_region 10 with (go_at_call 41; refine (HFx.out _).mono ?_; rintro e w' ⟨rfl, hw⟩; replace hw := hw.symm; subst hw)
        go_cut [59] from 41 to 59 (fun s wx => s = .bool bb ∧ Below W3.heap.size W3 wx)
        case first =>
          cases x with
          | true =>
            have hb : bb = false := by rw [hbb.out]; rfl
            replace hbb := Lib.hid hbb
            replace hb := Lib.hid hb
            go_wp2_with fail
            go_meet
            case rel => exact ⟨by rw [hb.out], Below.refl _ _⟩
          | false =>
            cases T1 with
            | nil =>
              have hm0 : m = 0 := by rw [← HL1.out]; rfl
              have hb : bb = false := by rw [hbb.out]; rfl
              replace hbb := Lib.hid hbb
              replace hb := Lib.hid hb
              subst hm0
              go_wp2_with fail
              go_meet
              case rel => exact ⟨by rw [hb.out], Below.refl _ _⟩
            | cons p1 T2 =>
              obtain ⟨rb1, o1, rfl, hat1⟩ := HR1.out W3 hb3 (by simp)
              obtain ⟨s0, s1, s2, s3, s4, s5, s6, s7⟩ := tok8 hat1
              have hm1 : 0 < m := by rw [← HL1.out]; simp
              have hm2 : (0 : Int) < m := by omega
              have HI := mIs_any p1.1 p1.2 (bs [40]) W3
              obtain ⟨y, hy⟩ : ∃ y, y = isP p1.1 (bs [40]) := ⟨_, rfl⟩
              have hb : bb = (y && !p1.1.sp) := by rw [hbb.out, hy]; rfl
              rw [← hy] at HI
              unfold tmC at HI
              replace HI := Lib.hid HI
              replace hbb := Lib.hid hbb
              replace hb := Lib.hid hb
              replace hy := Lib.hid hy
              replace hat1 := Lib.hid hat1
              go_wp2_with fail
              refine HI.out.mono ?_
              rintro e w4 ⟨rfl, hb4⟩
              obtain ⟨q0, q1, q2, q3, q4, q5, q6, q7⟩ := tok8 (hat1.out.below hb4)
              cases y with
              | true =>
                go_wp2_with fail
                go_meet
                case rel => exact ⟨by rw [hb.out]; rfl, hb4⟩
              | false =>
                go_wp2_with fail
                go_meet
                case rel => exact ⟨by rw [hb.out]; rfl, hb4⟩
        case rest =>
          obtain ⟨rfl, hbc⟩ := hcut
          have hbW : Below w.heap.size w wc := hb3.trans (hbc.mono (by omega))
          have hrW := (hbc.block w.heap.size (by omega)).trans hr3
          have htW := (hbc.block (w.heap.size + 1) (by omega)).trans ht3
          have hmW := (hbc.block (w.heap.size + 2) (by omega)).trans hm3
          clear t0 t1 t2 t3 t4 t5 t6 t7 hr3 ht3 hm3 hb3 hbc
          obtain ⟨m0, m1, m2, m3, m4, m5, m6, m7⟩ := cells8 hmW
          have fm := fun j => Lib.frozen_of_heap hmW j
          go_upto_if 59 with fail
          go_cut [0, 7] from 60 to 66 (fun s0 s7 wx => PMid T n w tk #[.int .i64 tk.kind, .string tk.text, .bool tk.sp, .string tk.file, .int .i64 tk.f, .int .i64 tk.t, .bool tk.made, .slice sao css.length scap] PT s0 s7 wx)
          case first =>
            cases bb with
            | false =>
              go_wp2_with fail
              go_meet
              case rel =>
                refine ⟨hbW, hrW, htW, ?_⟩
                cases x with
                | true => exact .inl ⟨rfl, by rw [hPT1.out, ← hx.out]; rfl⟩
                | false =>
                  refine .inr ⟨rfl, false, false, [], .slice none 0 0, T1, ak, C, by rw [HL1.out], by rw [HL1.out]; exact hC, by rw [HL1.out]; have := hm.out; omega, Nat.zero_le _, fun p hp => by rw [hT.out]; exact List.mem_cons_of_mem _ hp, hmW, Own.nil _ _ _ _, fun w' hw => HR1.out w' (hbW.trans (hw.mono (by omega))), ?_⟩
                  rw [hPT1.out, ← hx.out]
                  have hb := hbb.out
                  cases T1 with
                  | nil => rfl
                  | cons p1 T2 =>
                    simp only [List.map_cons, Bool.not_false, Bool.true_and] at hb ⊢
                    rw [← hb]
                    rfl
            | true =>
              have hxf : x = false := by cases x with | false => rfl | true => exact absurd hbb.out (by simp)
              replace hxf := Lib.hid hxf
              cases T1 with
              | nil => exact absurd hbb.out (by simp)
              | cons p1 T2 =>
                obtain ⟨rb1, o1, rfl, _⟩ := HR1.out wc hbW (by simp)
                have HR2 : Hid (∀ w', Below (w.heap.size + 2) wc w' → RowAt w' 8 rb1 (o1 + 8) (T2.map tvC)) := Lib.hid (by
                  intro w' hw
                  obtain ⟨rb', ro', e', hat'⟩ := HR1.out w' (hbW.trans (hw.mono (by omega))) (by simp)
                  simp at e'
                  obtain ⟨rfl, rfl⟩ := e'
                  exact hat'.drop 1)
                have HL2 : Hid (T2.length = m - 1) := Lib.hid (by have := HL1.out; simp at this; omega)
                have hm1 : 0 < m := by rw [← HL1.out]; simp
                have hm2 : (0 : Int) < m := by omega
                have hm5 := mc_set1 hmW (.bool true)
                have HP2 : Hid (PT = match paramsTop (T2.map (·.1)) with
                    | none => .inr ⟨5, tk.file, tk.f, tk.t⟩
                    | some (b, va, ps) => bodyL ⟨tk.text, true, va, ps, unsp b, tk.file, tk.f, tk.t⟩) := Lib.hid (by
                  have hb := hbb.out
                  rw [hPT1.out, ← hx.out, hxf.out]
                  simp only [hxf.out, List.map_cons, Bool.not_false, Bool.true_and] at hb ⊢
                  rw [← hb]
                  rfl)
                have HPA := fun (ao : Option Addr) (cp : Nat) (hc : T2.length ≤ cp) (hr : ∀ w', Below (w.heap.size + 2) (wc.setCell ⟨w.heap.size + 2, 1, none⟩ (.bool true)) w' → Row w' 8 ao (T2.map tvC)) => mParams_any T2 ao cp (w.heap.size + 2) tk.text tk.file tk.f tk.t (by rw [HL2.out]; have := hm.out; omega) hc (wc.setCell ⟨w.heap.size + 2, 1, none⟩ (.bool true)) hr hm5
                obtain ⟨PP, hPP⟩ : ∃ PP, PP = paramsTop (T2.map (·.1)) := ⟨_, rfl⟩
                rw [HL2.out, ← hPP] at HPA
                rw [← hPP] at HP2
                replace hPP := Lib.hid hPP
                replace HPA := Lib.hid HPA
                have hbs : Below w.heap.size w (wc.setCell ⟨w.heap.size + 2, 1, none⟩ (.bool true)) := hbW.setCell (p := ⟨w.heap.size + 2, 1, none⟩) (by simp) _
                have hrs : (wc.setCell ⟨w.heap.size + 2, 1, none⟩ (.bool true)).heap[w.heap.size]? = _ := (Below.heap_setCell wc ⟨w.heap.size + 2, 1, none⟩ (.bool true) w.heap.size (by simp)).trans hrW
                have hts : (wc.setCell ⟨w.heap.size + 2, 1, none⟩ (.bool true)).heap[w.heap.size + 1]? = _ := (Below.heap_setCell wc ⟨w.heap.size + 2, 1, none⟩ (.bool true) (w.heap.size + 1) (by simp)).trans htW
                have FIN : Hid (∀ e w6, Below (w.heap.size + 2) (wc.setCell ⟨w.heap.size + 2, 1, none⟩ (.bool true)) w6 ∧ ParPost T2 (w.heap.size + 2) tk.text tk.file tk.f tk.t (wc.setCell ⟨w.heap.size + 2, 1, none⟩ (.bool true)) PP e w6 → ∃ s0 s7, e = .returned (.tuple #[s0, s7]) ∧ PMid T n w tk #[.int .i64 tk.kind, .string tk.text, .bool tk.sp, .string tk.file, .int .i64 tk.f, .int .i64 tk.t, .bool tk.made, .slice sao css.length scap] PT s0 s7 w6) := Lib.hid (by
                  rintro e w6 ⟨hb6, hp⟩
                  cases PP with
                  | none =>
                    exact ⟨_, _, hp, hbs.trans (hb6.mono (by omega)), (hb6.block _ (by omega)).trans hrs, (hb6.block _ (by omega)).trans hts, .inl ⟨rfl, HP2.out⟩⟩
                  | some q =>
                    obtain ⟨r, va, ps⟩ := q
                    obtain ⟨k, ao', cap', psv, rfl, hk1, hk2, hr, hrow', hown', hm6⟩ := hp
                    have hlen : (T2.drop k).length = T2.length - k := by simp
                    refine ⟨_, _, rfl, hbs.trans (hb6.mono (by omega)), (hb6.block _ (by omega)).trans hrs, (hb6.block _ (by omega)).trans hts, .inr ⟨rfl, true, va, ps, psv, T2.drop k, ao', cap', by rw [hlen], by rw [hlen]; exact hk2, by rw [hlen, HL2.out]; have := hm.out; omega, ?_, ?_, hm6, hown', fun w' hw => hrow' w' (hb6.trans hw), ?_⟩⟩
                    · have := paramsTop_len hPP.out.symm
                      rw [List.length_map, HL2.out] at this
                      have := hm.out
                      omega
                    · intro p hp
                      rw [hT.out]
                      exact List.mem_cons_of_mem _ (List.mem_cons_of_mem _ (List.mem_of_mem_drop hp))
                    · rw [HP2.out, hr])
                clear hbs hrs hts hm5
                go_wp2_with fail
                · obtain rfl : C = 1 := by assumption
                  refine (HPA.out _ _ (by omega) (fun w' hw h => absurd ?_ h)).mono ?_
                  · rw [List.map_eq_nil_iff]
                    exact List.eq_nil_of_length_eq_zero (by rw [HL2.out]; omega)
                  · intro e w6 hh
                    obtain ⟨s0, s7, rfl, hmid⟩ := FIN.out e w6 hh
                    go_wp2_with fail
                    go_meet
                    case rel => exact hmid
                · refine (HPA.out _ _ (by omega) (fun w' hw _ => ⟨rb1, o1 + 8, rfl, HR2.out w' (((Below.refl _ wc).setCell (p := ⟨w.heap.size + 2, 1, none⟩) (Nat.le_refl _) _).trans hw)⟩)).mono ?_
                  intro e w6 hh
                  obtain ⟨s0, s7, rfl, hmid⟩ := FIN.out e w6 hh
                  go_wp2_with fail
                  go_meet
                  case rel => exact hmid
          case rest =>
            clear hPT1 HR1 hm hbb HFx fm m0 m1 m2 m3 m4 m5 m6 m7 HL1 hbW hrW htW hmW
            obtain ⟨hbX, hrX, htX, hor⟩ := hcut
            unfold mc0 at hrX
            obtain ⟨t0, t1, t2, t3, t4, t5, t6, t7⟩ := cells8 htX
            rcases hor with ⟨rfl, hP⟩ | ⟨rfl, fn, va, ps, psv, Tr, aq, Cq, rfl, hCq, hTr, hps, hmem, hmX, hownP, HRq, HPq⟩
            · have HP : Hid (PT = .inr ⟨5, tk.file, tk.f, tk.t⟩) := Lib.hid hP
              have hszX := lt_of_block htX
              clear hP
              go_wp2_with fail
              refine (mFails_any 5 tk.file tk.f tk.t _).mono ?_
              rintro e w9 ⟨vd, rfl, hd, hb9⟩
              obtain ⟨vao, vcap, rfl, _, _, _, _⟩ := hd.rown (n := 1) rfl
              have hr9 := (hb9.block w.heap.size (by omega)).trans hrX
              unfold mcC at *
              go_wp2_with (refine wpList_store_row rfl 29 (.tmp 2) (.tmp 73) rfl w.heap.size _ rfl rfl 29 _ hr9 info_mac rfl (by simp [Value.oneCell']) ?_)
              have hr3 := setRow_heap _ _ _ #[Value.string .empty, .bool false, .bool false, .slice none 0 0, .slice none 0 0, .string .empty, .int .i64 0, .int .i64 0] _ _ hr9
              obtain ⟨m0, m1, m2, m3, m4, m5, m6, m7⟩ := cells8 hr3
              refine bodyPost_ret (v := .tuple #[.agg (mcC .empty false false (.slice none 0 0) (.slice none 0 0) .empty 0 0).toArray, .slice vao 1 vcap]) (by simp [results, Try.results14, go_sem, m0, m1, m2, m3, m4, m5, m6, m7]; rfl) rfl ⟨Below.row (hbX.trans (hb9.mono (by omega))) (Nat.le_refl _) _, ?_⟩
              rw [HP.out]
              exact ⟨_, rfl, (hd.rowBelow (by omega) _).mono (by omega)⟩
            · have hOwn := mOwn_any Tr aq Cq (by omega) hCq wc (HRq wc (Below.refl _ _)) (fun p hp => let ⟨css, h⟩ := HS.out p (hmem p hp); ⟨css, h.below (hbX.mono (Nat.le_refl _))⟩)
              have hlX := lt_of_block hmX
              replace HPq := Lib.hid HPq
              replace hOwn := Lib.hid hOwn
              replace HRq := Lib.hid HRq
              replace hmem := Lib.hid hmem
              go_wp2_with fail
              refine hOwn.out.mono ?_
              rintro e w4 ⟨bv, T', rfl, hJ, hTl, hb4⟩
              obtain ⟨N, hN⟩ : ∃ N, T'.length = N := ⟨_, rfl⟩
              have hm4 := (hb4.block _ hlX).trans hmX
              unfold mcC at hm4
              have hr4 := (hb4.block w.heap.size (by omega)).trans hrX
              have hbY := hbX.trans (hb4.mono hbX.size)
              have hownP4 := hownP.below hb4
              obtain ⟨bao, bcap, rfl, hbcap, _, _, _⟩ := hJ.own.rown (n := N) (by simp [hN])
              have hm5 := mc_set4 hm4 (.slice bao N bcap)
              have hr5 : (w4.setCell ⟨w.heap.size + 2, 4, none⟩ (.slice bao N bcap)).heap[w.heap.size]? = _ := (Below.heap_setCell w4 ⟨w.heap.size + 2, 4, none⟩ (.slice bao N bcap) w.heap.size (by simp)).trans hr4
              have hownP5 := hownP4.setBelow (b := w.heap.size + 2) (j := 4) (by omega) (.slice bao N bcap)
              have hownB5 := (hJ.own.setBelow (b := w.heap.size + 2) (j := 4) hlX (.slice bao N bcap)).mono (B' := w.heap.size + 3) (by omega)
              have hS5 : Hid (∀ p ∈ T', ∃ css, Own (w4.setCell ⟨w.heap.size + 2, 4, none⟩ (.slice bao N bcap)) (w.heap.size + 3) 126 5 p.2 css) := Lib.hid (fun p hp => let ⟨css, h⟩ := hJ.sites p hp; ⟨css, (h.setBelow (b := w.heap.size + 2) (j := 4) hlX (.slice bao N bcap)).mono (B' := w.heap.size + 3) (by omega)⟩)
              have hb5 : Below w.heap.size w (w4.setCell ⟨w.heap.size + 2, 4, none⟩ (.slice bao N bcap)) := hbY.setCell (p := ⟨w.heap.size + 2, 4, none⟩) (by simp) _
              have hN5 : Hid ((∀ p ∈ T, p.2 = .slice none 0 0) → ∀ p ∈ T', p.2 = .slice none 0 0) := Lib.hid (fun h => hJ.nils fun p hp => h p (hmem.out p hp))
              have hE5 : Hid (T'.map (·.1) = Tr.map (·.1)) := Lib.hid (by have := hJ.same; rw [hTl, List.take_length] at this; exact this)
              have HNB : Hid (T'.length = N) := Lib.hid hN
              clear hN
              obtain ⟨m0, m1, m2, m3, m4, m5, m6, m7⟩ := cells8 hm4
              have fm := fun j => Lib.frozen_of_heap hm4 j
              clear hJ hr4 hownP4 hbY hownP t0 t1 t2 t3 t4 t5 t6 t7 htX hrX hmX hbX hOwn HRq
              go_upto_if 81 with fail
              clear m0 m1 m2 m3 m4 m5 m6 m7 fm hb4 hm4
              generalize w4.setCell ⟨w.heap.size + 2, 4, none⟩ (.slice bao N bcap) = W5 at *
              obtain ⟨m0, m1, m2, m3, m4, m5, m6, m7⟩ := cells8 hm5
              have hl5 := lt_of_block hm5
              go_cut [] from 82 to 85 (fun wx => ∃ T'' : List (Tm × Value), T''.length = T'.length ∧ BodyMid T Tr T'' w tk fn va ps psv (.slice bao N bcap) wx)
              case first =>
                cases T' with
                | nil =>
                  obtain rfl : N = 0 := HNB.out.symm
                  go_wp2_with fail
                  go_meet
                  case rel =>
                    refine ⟨[], rfl, hb5, hr5, hm5, hownP5, hownB5, ?_, by simp, by simp⟩
                    have := hE5.out
                    simp only [List.map_nil] at this
                    rw [← this]; rfl
                | cons p R =>
                  obtain ⟨tb, vb⟩ := p
                  obtain ⟨g, cg, hg, _⟩ := hownB5.cons_at (by simp)
                  obtain rfl : R.length + 1 = N := HNB.out
                  simp only [List.length_map, List.map_cons, List.length_cons, Value.slice.injEq] at hg
                  obtain ⟨rfl, _, rfl⟩ := hg
                  obtain ⟨c2, f2, hown6, hgB⟩ := own_unsp hownB5
                  obtain ⟨yb, fzb, hyb⟩ := hownB5.size_lt g rfl
                  have hpos : (0 : Int) < ((R.length + 1 : Nat) : Int) := by omega
                  go_wp2_with fail
                  go_meet
                  case rel =>
                    refine ⟨({ tb with sp := false }, vb) :: R, rfl, hb5.setCell (p := ⟨g, 2, none⟩) (by simp; omega) _, ?_, ?_, hownP5.setType hyb (by decide) _ _, hown6, ?_, ?_, ?_⟩
                    · exact (Below.heap_setCell W5 ⟨g, 2, none⟩ (.bool false) w.heap.size (by simp; omega)).trans hr5
                    · exact (Below.heap_setCell W5 ⟨g, 2, none⟩ (.bool false) (w.heap.size + 2) (by simp; omega)).trans hm5
                    · rw [← hE5.out]; rfl
                    · intro p hp
                      obtain ⟨q, hq, hq2⟩ : ∃ q ∈ (tb, vb) :: R, q.2 = p.2 := by
                        rcases List.mem_cons.1 hp with rfl | hp
                        · exact ⟨(tb, vb), by simp, rfl⟩
                        · exact ⟨p, by simp [hp], rfl⟩
                      obtain ⟨cs', h⟩ := hS5.out q hq
                      rw [hq2] at h
                      exact ⟨cs', h.setType hyb (by decide) _ _⟩
                    · intro h p hp
                      rcases List.mem_cons.1 hp with rfl | hp
                      · exact hN5.out h (tb, vb) (by simp)
                      · exact hN5.out h p (by simp [hp])
              case rest =>
                obtain ⟨T'', hTl2, hM⟩ := hcut
                have hNn : N ≤ n := by have := HNB.out; omega
                rw [HNB.out] at hTl2
                have HNC : Hid (T''.length = N) := Lib.hid hTl2
                have HPB : Hid (PT = match firstBad fn va ps (T''.map (·.1)) 0 ((T''.map (·.1)).drop 0) with
                  | some t => .inr ⟨5, t.file, t.f, t.t⟩
                  | none => .inl ⟨tk.text, fn, va, ps, T''.map (·.1), tk.file, tk.f, tk.t⟩) := Lib.hid (by rw [HPq.out, ← hM.same]; rfl)
                obtain ⟨pao, pcap, rfl, _, _, _, _⟩ := hM.params.rown (n := ps.length) (by simp)
                obtain ⟨hbM, hrM, hmM, hpM, hbdM, _, hsM, hnM⟩ := hM
                unfold mcC at hmM
                unfold mc0 at hrM
                replace hsM := Lib.hid hsM
                replace hnM := Lib.hid hnM
                have hlM := lt_of_block hmM
                clear hTl2 hTl m0 m1 m2 m3 m4 m5 m6 m7 hm5 hl5 hb5 hr5 hownP5 hownB5 hS5 hN5 hE5 HPq HNB
                obtain ⟨m0, m1, m2, m3, m4, m5, m6, m7⟩ := cells8 hmM
                go_wp2
                go_loopg [89] N (fun u i wr => ∃ k : Nat, u = N - k ∧ k ≤ N ∧ i = .int .i64 k ∧ Below wc.heap.size wc wr ∧ Hid (PT = match firstBad fn va ps (T''.map (·.1)) k ((T''.map (·.1)).drop k) with
                  | some t => .inr ⟨5, t.file, t.f, t.t⟩
                  | none => .inl ⟨tk.text, fn, va, ps, T''.map (·.1), tk.file, tk.f, tk.t⟩))
                case atStart => exact ⟨0, rfl, Nat.zero_le _, rfl, Below.refl _ _, HPB⟩
                case round =>
                  obtain ⟨k, rfl, hk, rfl, hb, HPk⟩ := hrel
                  by_cases hlt : k < N
                  · obtain ⟨⟨t, v⟩, hp⟩ : ∃ p, T''[k]? = some p := ⟨T''[k]'(by rw [HNC.out]; exact hlt), by simp⟩
                    obtain ⟨rb2, o2, rfl, hat2⟩ := (hbdM.below hb).here (by intro h; simp at h; subst h; simp at hp)
                    obtain ⟨cs2, hos⟩ := hsM.out (t, v) (List.mem_of_getElem? hp)
                    obtain ⟨sa, sc, hv, _⟩ := hos.rown (n := cs2.length) rfl
                    simp only at hv
                    subst hv
                    obtain ⟨t0, t1, t2, t3, t4, t5, t6, t7⟩ := tok8 (tok_at hat2 hp)
                    have HB := fun w' (h : Below wc.heap.size wc w') => mBad_any T'' k t sa cs2.length sc hp (w.heap.size + 2) tk.text fn va tk.file tk.f tk.t ps pao (some ⟨rb2, o2, none⟩) pcap bcap (0, 0) (by omega) (by rw [HNC.out]; omega) (by rw [HNC.out]; exact hbcap) w' (hpM.below h).here (hbdM.below h).here (by rw [HNC.out]; exact (h.block _ hlM).trans hmM)
                    obtain ⟨y, hy⟩ : ∃ y, y = badAt fn va ps (T''.map (·.1)) k t := ⟨_, rfl⟩
                    rw [← hy] at HB
                    replace HB := Lib.hid HB
                    have HPk2 : Hid (PT = match (if y = true then some t else firstBad fn va ps (T''.map (·.1)) (k + 1) ((T''.map (·.1)).drop (k + 1))) with
                      | some t => .inr ⟨5, t.file, t.f, t.t⟩
                      | none => .inl ⟨tk.text, fn, va, ps, T''.map (·.1), tk.file, tk.f, tk.t⟩) := Lib.hid (by
                        rw [HPk.out, hy]
                        have e : (T''.map (·.1)).drop k = t :: (T''.map (·.1)).drop (k + 1) := by
                          have h1 : (T''.map (·.1))[k]? = some t := by simp [hp]
                          rw [List.drop_eq_getElem_cons (List.getElem?_eq_some_iff.1 h1).1, (List.getElem?_eq_some_iff.1 h1).2]
                        rw [e]
                        rfl)
                    replace hy := Lib.hid hy
                    replace hp := Lib.hid hp
                    clear HPk hat2 hos
                    go_wp2_with fail
                    have hbz : Below wc.heap.size wc (wr.alloc (.cells #[.int .i64 t.kind, .string t.text, .bool t.sp, .string t.file, .int .i64 t.f, .int .i64 t.t, .bool t.made, .slice sa cs2.length sc] 43)) := hb.alloc hb.size _
                    refine (HB.out _ hbz).mono ?_
                    rintro e w7 ⟨rfl, hb7⟩
                    have hbr7 := hbz.trans (hb7.mono hbz.size)
                    clear t0 t1 t2 t3 t4 t5 t6 t7
                    obtain ⟨t0, t1, t2, t3, t4, t5, t6, t7⟩ := cells8 ((hb7.block wr.heap.size (by simp)).trans (heap_alloc_new wr _))
                    cases y with
                    | true =>
                      have HP : Hid (PT = .inr ⟨5, t.file, t.f, t.t⟩) := Lib.hid (HPk2.out.trans (by simp))
                      have hrX7 := (hbr7.block w.heap.size (by omega)).trans hrM
                      have hbX7 := hbM.trans (hbr7.mono hbM.size)
                      have hszX7 := hbr7.size
                      go_wp2_with fail
                      refine (mFails_any 5 t.file t.f t.t _).mono ?_
                      rintro e w9 ⟨vd, rfl, hd, hb9⟩
                      obtain ⟨vao, vcap, rfl, _, _, _, _⟩ := hd.rown (n := 1) rfl
                      have hr9 := (hb9.block w.heap.size (by omega)).trans hrX7
                      unfold mcC at *
                      go_wp2_with (refine wpList_store_row rfl 29 (.tmp 2) (.tmp 100) rfl w.heap.size _ rfl rfl 29 _ hr9 info_mac rfl (by simp [Value.oneCell']) ?_)
                      have hr3 := setRow_heap _ _ _ #[Value.string .empty, .bool false, .bool false, .slice none 0 0, .slice none 0 0, .string .empty, .int .i64 0, .int .i64 0] _ _ hr9
                      obtain ⟨m0, m1, m2, m3, m4, m5, m6, m7⟩ := cells8 hr3
                      refine bodyPost_ret (v := .tuple #[.agg (mcC .empty false false (.slice none 0 0) (.slice none 0 0) .empty 0 0).toArray, .slice vao 1 vcap]) (by simp [results, Try.results14, go_sem, m0, m1, m2, m3, m4, m5, m6, m7]; rfl) rfl ⟨Below.row (hbX7.trans (hb9.mono (by omega))) (Nat.le_refl _) _, ?_⟩
                      rw [HP.out]
                      exact ⟨_, rfl, (hd.rowBelow (by omega) _).mono (by omega)⟩
                    | false =>
                      have HPk3 : Hid (PT = match firstBad fn va ps (T''.map (·.1)) (k + 1) ((T''.map (·.1)).drop (k + 1)) with
                        | some t => .inr ⟨5, t.file, t.f, t.t⟩
                        | none => .inl ⟨tk.text, fn, va, ps, T''.map (·.1), tk.file, tk.f, tk.t⟩) := Lib.hid (HPk2.out.trans (by simp))
                      go_wp2_with fail
                      go_roundg (N - (k + 1))
                      case measure => omega
                      case rel => exact ⟨k + 1, rfl, by omega, by go_num, hbr7, HPk3⟩
                  · have hkN : k = N := by omega
                    have HP : Hid (PT = .inl ⟨tk.text, fn, va, ps, T''.map (·.1), tk.file, tk.f, tk.t⟩) := Lib.hid (by
                      rw [HPk.out, List.drop_eq_nil_of_le (by rw [List.length_map, HNC.out]; omega)]
                      rfl)
                    have hm7 := (hb.block _ hlM).trans hmM
                    have hr7 := (hb.block w.heap.size (by omega)).trans hrM
                    have hbX7 := hbM.trans (hb.mono hbM.size)
                    clear m0 m1 m2 m3 m4 m5 m6 m7
                    obtain ⟨m0, m1, m2, m3, m4, m5, m6, m7⟩ := cells8 hm7
                    go_wp2_with (refine wpList_store_row rfl 29 (.tmp 2) (.tmp 103) rfl w.heap.size _ rfl rfl 29 _ hr7 info_mac rfl (by simp [Value.oneCell']) ?_)
                    have hr8 := setRow_heap _ _ _ #[Value.string tk.text, .bool fn, .bool va, .slice pao ps.length pcap, .slice bao N bcap, .string tk.file, .int .i64 tk.f, .int .i64 tk.t] _ _ hr7
                    clear m0 m1 m2 m3 m4 m5 m6 m7
                    obtain ⟨m0, m1, m2, m3, m4, m5, m6, m7⟩ := cells8 hr8
                    refine bodyPost_ret (v := .tuple #[.agg (mcC tk.text fn va (.slice pao ps.length pcap) (.slice bao N bcap) tk.file tk.f tk.t).toArray, .slice none 0 0]) (by simp [results, Try.results14, go_sem, m0, m1, m2, m3, m4, m5, m6, m7]; rfl) rfl ⟨Below.row hbX7 (Nat.le_refl _) _, ?_⟩
                    rw [HP.out]
                    exact ⟨_, _, T'', rfl, ((hpM.below hb).rowBelow (by omega) _).mono (by omega), ((hbdM.below hb).rowBelow (by omega) _).mono (by omega), rfl, fun p hp => let ⟨css, h⟩ := hsM.out p hp; ⟨css, ((h.below hb).rowBelow (by omega) _).mono (by omega)⟩, hnM.out⟩
    · have hkb : (tk.kind == 1) = false := by simpa using hk
      have HP : Hid (PT = .inr ⟨4, tk.file, tk.f, tk.t⟩) := Lib.hid (by rw [← HPT.out, hT.out]; simp [parseL, hk])
      replace hk := Lib.hid hk
      go_wp2_with fail
      refine (mFails_any 4 tk.file tk.f tk.t _).mono ?_
      rintro e w9 ⟨vd, rfl, hd, hb9⟩
      obtain ⟨vao, vcap, rfl, _, _, _, _⟩ := hd.rown (n := 1) rfl
      have hr9 := (hb9.block w.heap.size (by omega)).trans hr2
      unfold mcC at *
      go_wp2_with (refine wpList_store_row rfl 29 (.tmp 2) (.tmp 28) rfl w.heap.size _ rfl rfl 29 _ hr9 info_mac rfl (by simp [Value.oneCell']) ?_)
      have hr3 := setRow_heap _ _ _ #[Value.string .empty, .bool false, .bool false, .slice none 0 0, .slice none 0 0, .string .empty, .int .i64 0, .int .i64 0] _ _ hr9
      obtain ⟨m0, m1, m2, m3, m4, m5, m6, m7⟩ := cells8 hr3
      refine bodyPost_ret (v := .tuple #[.agg (mcC .empty false false (.slice none 0 0) (.slice none 0 0) .empty 0 0).toArray, .slice vao 1 vcap]) (by simp [results, Try.results14, go_sem, m0, m1, m2, m3, m4, m5, m6, m7]; rfl) rfl ⟨Below.row (hb2.trans (hb9.mono (by omega))) (Nat.le_refl _) _, ?_⟩
      rw [HP.out]
      exact ⟨_, rfl, (hd.rowBelow (by omega) _).mono (by omega)⟩
end Go.Proofs.Ythbicbfdldpemaa

/- macro's tables: New, Look, own. -/
namespace Go.Proofs.Ythbicbfdldpemaa
open Go.RowKit
set_option linter.unusedVariables false

theorem mCloneStr_any (xs : List ByteArray) (ao : Option Addr) (cap : Nat) (hx : xs.length ≤ 1000000) (h0 : ao = none → xs = [] ∧ cap = 0) (w : World) (hr : Row w 1 ao (xs.map fun p => [.string p])) :
    Calls Try.prog 91 #[.slice ao xs.length cap] w fun e w' => ∃ v', e = .returned v' ∧ Own w' w.heap.size 9 1 v' (xs.map fun p => [.string p]) ∧ Below w.heap.size w w' := by
  have hfl : ∀ zs : List ByteArray, (zs.map fun p => [Value.string p]).flatten = zs.map Value.string := by intro zs; induction zs with | nil => rfl | cons z zs ih => simp [ih]
  cases ao with
  | none =>
    obtain ⟨rfl, rfl⟩ := h0 rfl
    refine (Try.slices_Clone_string_nil 0 0 w).mono ?_
    rintro e w' ⟨rfl, rfl⟩
    exact ⟨_, rfl, Own.nil _ _ _ _, Below.refl _ _⟩
  | some a =>
    cases xs with
    | nil =>
      refine (Try.slices_Clone_string_zero a cap w).mono ?_
      rintro e w' ⟨v', rfl, h1, _, h2⟩
      exact ⟨v', rfl, ⟨by simpa using h1, by simp⟩, h2⟩
    | cons x xs =>
      obtain ⟨b, o, e, hat⟩ := hr (by simp)
      injection e with e
      subst e
      refine (Try.slices_Clone_string b o (x :: xs).length cap (x :: xs) w (Nat.le_refl _) (by omega) (fun j hj => by
        have := hat.cell (i := j) (cs := [.string ((x :: xs).getD j ByteArray.empty)]) (by rw [List.getElem?_map, List.getElem?_eq_getElem hj]; simp [List.getD_eq_getElem?_getD, List.getElem?_eq_getElem hj]) (j := 0) (u := .string ((x :: xs).getD j ByteArray.empty)) rfl
        simpa using this)).mono ?_
      rintro e w' ⟨v', rfl, h1, _, h2⟩
      rw [List.take_length] at h1
      exact ⟨v', rfl, ⟨by rw [hfl, List.length_map]; exact h1, by simp⟩, h2⟩

/-- a definition's parts in memory of the call's own -/
structure MacOwn (w : World) (B : Nat) (m : Mac) (psv bov : Value) : Prop where
  ps : Own w B 9 1 psv (m.params.map fun p => [.string p])
  body : ∃ T : List (Tm × Value), Own w B 43 8 bov (T.map tvC) ∧ T.map (·.1) = m.body ∧ ∀ p ∈ T, p.2 = .slice none 0 0

theorem MacOwn.mono {w : World} {B B' : Nat} {m : Mac} {psv bov : Value} (h : MacOwn w B m psv bov) (hB : B' ≤ B) : MacOwn w B' m psv bov :=
  let ⟨h1, T, h2, h3⟩ := h; ⟨h1.mono hB, T, h2.mono hB, h3⟩
theorem MacOwn.rowBelow {w : World} {B b : Nat} {m : Mac} {psv bov : Value} (h : MacOwn w B m psv bov) (hb : b < B) (cs : Array Value) : MacOwn (w.setRow b cs) B m psv bov :=
  let ⟨h1, T, h2, h3⟩ := h; ⟨h1.rowBelow hb cs, T, h2.rowBelow hb cs, h3⟩
theorem MacOwn.below {w w' : World} {B : Nat} {m : Mac} {psv bov : Value} (h : MacOwn w B m psv bov) (hb : Below w.heap.size w w') : MacOwn w' B m psv bov :=
  let ⟨h1, T, h2, h3⟩ := h; ⟨h1.below hb, T, h2.below hb, h3⟩

theorem MacAt.of_own {w : World} {B C : Nat} {m : Mac} {psv bov : Value} {T : List (Tm × Value)} (h1 : Own w B 9 1 psv (m.params.map fun p => [.string p])) (h2 : Own w C 43 8 bov (T.map tvC)) (h3 : T.map (·.1) = m.body) (h4 : ∀ p ∈ T, p.2 = .slice none 0 0) (l1 : m.params.length ≤ 1000000) (l2 : m.body.length ≤ 1000000) : MacAt w m psv bov := by
  have hTl : T.length = m.body.length := by rw [← h3]; simp
  obtain ⟨ao, cap, rfl, _, _, hr, h0⟩ := h1.rown (n := m.params.length) (by simp)
  obtain ⟨bo, cb, rfl, hc, _, hrb, _⟩ := h2.rown (n := m.body.length) (by simp [hTl])
  exact ⟨⟨ao, cap, rfl, hr, l1, fun e => ⟨by simpa using (h0 e).1, (h0 e).2⟩⟩, ⟨bo, cb, T, rfl, hc, l2, h3, hrb, h4⟩⟩

theorem MacOwn.at {w : World} {B : Nat} {m : Mac} {psv bov : Value} (h : MacOwn w B m psv bov) (l1 : m.params.length ≤ 1000000) (l2 : m.body.length ≤ 1000000) : MacAt w m psv bov :=
  let ⟨h1, T, h2, h3, h4⟩ := h; MacAt.of_own h1 h2 h3 h4 l1 l2

set_option maxRecDepth 100000 in
theorem mOwnMac_any (m : Mac) (psv bov : Value) (w : World) (h : MacAt w m psv bov) :
    Calls Try.prog 63 #[.agg (mcC m.name m.fn m.va psv bov m.file m.f m.t).toArray] w fun e w' => ∃ psv' bov', e = .returned (.agg (mcC m.name m.fn m.va psv' bov' m.file m.f m.t).toArray) ∧ MacOwn w' w.heap.size m psv' bov' ∧ Below w.heap.size w w' := by
  obtain ⟨⟨pao, pcp, rfl, hpr, hpl, hp0⟩, ⟨bao, bcp, T, rfl, hbc, hbl, hbs, hbr, hbi⟩⟩ := h
  have hTl : T.length = m.body.length := by rw [← hbs]; simp
  have HC := fun w' (h : Below w.heap.size w w') => mCloneStr_any m.params pao pcp hpl hp0 w' (hpr.below h)
  have HO := fun w' (h : Below w.heap.size w w') => mOwn_any T bao bcp (by omega) (by omega) w' (hbr.below h) (fun p hp => ⟨[], by rw [hbi p hp]; exact SiteIn.nil _⟩)
  rw [hTl] at HO
  obtain ⟨np, hnp⟩ : ∃ n, n = m.params.length := ⟨_, rfl⟩
  obtain ⟨nb, hnb⟩ : ∃ n, n = m.body.length := ⟨_, rfl⟩
  rw [← hnp] at HC ⊢
  rw [← hnb] at HO ⊢
  replace HC := Lib.hid HC
  replace HO := Lib.hid HO
  replace hnp := Lib.hid hnp
  replace hnb := Lib.hid hnb
  unfold mcC
  go_enter Try.func63, Try.ntmps63
  obtain ⟨W0, hW0⟩ : ∃ W0, W0 = (w.alloc (.cells #[.string m.name, .bool m.fn, .bool m.va, .slice pao np pcp, .slice bao nb bcp, .string m.file, .int .i64 m.f, .int .i64 m.t] 29)).alloc (.cells #[.string ⟨#[]⟩, .bool false, .bool false, .slice none 0 0, .slice none 0 0, .string ⟨#[]⟩, .int .i64 0, .int .i64 0] 29) := ⟨_, rfl⟩
  have hB0 : Below w.heap.size w W0 := by rw [hW0]; exact ((Below.refl _ w).alloc (Nat.le_refl _) _).alloc (by simp) _
  have hm0 : W0.heap[w.heap.size]? = some (.cells #[.string m.name, .bool m.fn, .bool m.va, .slice pao np pcp, .slice bao nb bcp, .string m.file, .int .i64 m.f, .int .i64 m.t] 29 (0, 0)) := by rw [hW0]; exact (Lib.alloc_old _ _ _ (by simp)).trans (heap_alloc_new w _)
  have hr0 : W0.heap[w.heap.size + 1]? = some (.cells #[.string ⟨#[]⟩, .bool false, .bool false, .slice none 0 0, .slice none 0 0, .string ⟨#[]⟩, .int .i64 0, .int .i64 0] 29 (0, 0)) := by rw [hW0]; have := heap_alloc_new (w.alloc (.cells #[.string m.name, .bool m.fn, .bool m.va, .slice pao np pcp, .slice bao nb bcp, .string m.file, .int .i64 m.f, .int .i64 m.t] 29)) (.cells #[.string ⟨#[]⟩, .bool false, .bool false, .slice none 0 0, .slice none 0 0, .string ⟨#[]⟩, .int .i64 0, .int .i64 0] 29); simpa using this
  have hs0 : W0.heap.size = w.heap.size + 2 := by rw [hW0]; simp
  go_upto_region 1 with fail
  rw [← hW0]
  replace hW0 := Lib.hid hW0
  obtain ⟨m0, m1, m2, m3, m4, m5, m6, m7⟩ := cells8 hm0
  go_cut [] from 3 to 10 (fun wx => ∃ (pao' : Option Addr) (pcp' : Nat) (bao' : Option Addr) (bcp' : Nat), (Own wx (w.heap.size + 2) 9 1 (.slice pao' np pcp') (m.params.map fun p => [.string p]) ∧ ∃ T' : List (Tm × Value), Own wx (w.heap.size + 2) 43 8 (.slice bao' nb bcp') (T'.map tvC) ∧ T'.map (·.1) = m.body ∧ ∀ p ∈ T', p.2 = .slice none 0 0) ∧ Below w.heap.size w wx ∧ wx.heap[w.heap.size]? = some (.cells #[.string m.name, .bool m.fn, .bool m.va, .slice pao' np pcp', .slice bao' nb bcp', .string m.file, .int .i64 m.f, .int .i64 m.t] 29 (0, 0)) ∧ wx.heap[w.heap.size + 1]? = some (.cells #[.string ⟨#[]⟩, .bool false, .bool false, .slice none 0 0, .slice none 0 0, .string ⟨#[]⟩, .int .i64 0, .int .i64 0] 29 (0, 0)))
  case first =>
    go_region_law (first
      | (go_simp; go_at_call 91; refine (HC.out W0.drew hB0.drew).mono ?_; rintro e w1 ⟨v1, rfl, ho1, hb1⟩; obtain ⟨qao, qcp, rfl, _, _, _, _⟩ := ho1.rown (n := np) (by rw [hnp.out]; simp); have hm1 := (hb1.block w.heap.size (by simp; omega)).trans hm0; have hr1 := (hb1.block (w.heap.size + 1) (by simp; omega)).trans hr0; have hA1 := hB0.drew.trans (hb1.mono (by simp; omega)); have f1 := fun j => Lib.frozen_of_heap hm1 j; obtain ⟨n0, n1, n2, n3, n4, n5, n6, n7⟩ := cells8 hm1)
      | (go_simp; go_at_call 44; refine (HO.out w1 hA1).mono ?_; rintro e w2 ⟨bv, T', rfl, hJ, hTl', hb2⟩; obtain ⟨rao, rcp, rfl, hrc, _, _, _⟩ := hJ.own.rown (n := nb) (by rw [List.length_map, hTl']); have hm2 := (hb2.block w.heap.size (by have := hA1.size; have := lt_of_block hm1; omega)).trans hm1; have hr2 := (hb2.block (w.heap.size + 1) (by have := lt_of_block hr1; omega)).trans hr1; have hA2 := hA1.trans (hb2.mono hA1.size); have f2 := fun j => Lib.frozen_of_heap hm2 j; obtain ⟨x0, x1, x2, x3, x4, x5, x6, x7⟩ := cells8 hm2))
    all_goals
      go_wp2_with fail
      go_meet
      case rel =>
        have hl1 := lt_of_block hr1
        have hl2 := lt_of_block hr2
        have hb2' : Below w.heap.size w w2 := hA2
        refine ⟨qao, qcp, rao, rcp, ⟨?_, T', ?_, ?_, hJ.nils hbi⟩, (hA2.setCell (p := ⟨w.heap.size, 3, none⟩) (Nat.le_refl _) _).setCell (p := ⟨w.heap.size, 4, none⟩) (Nat.le_refl _) _, ?_, ?_⟩
        · exact (((ho1.below hb2).setBelow (b := w.heap.size) (j := 3) (by simp; omega) _).setBelow (b := w.heap.size) (j := 4) (by simp; omega) _).mono (by simp; omega)
        · exact ((hJ.own.setBelow (b := w.heap.size) (j := 3) (by omega) _).setBelow (b := w.heap.size) (j := 4) (by omega) _).mono (by omega)
        · have h2 := hJ.same
          rw [hTl', List.take_of_length_le (by rw [hTl, hnb.out]; exact Nat.le_refl _)] at h2
          exact h2.trans hbs
        · exact mc_set4 (mc_set3 hm2 _) _
        · exact (Below.heap_setCell _ ⟨w.heap.size, 4, none⟩ _ (w.heap.size + 1) (by simp)).trans ((Below.heap_setCell _ ⟨w.heap.size, 3, none⟩ _ (w.heap.size + 1) (by simp)).trans hr2)
  case rest =>
    obtain ⟨pao', pcp', bao', bcp', ⟨hP, T', hT1, hT2, hT3⟩, hbW, hmW, hrW⟩ := hcut
    clear m0 m1 m2 m3 m4 m5 m6 m7 hm0 hr0
    obtain ⟨m0, m1, m2, m3, m4, m5, m6, m7⟩ := cells8 hmW
    go_wp2_with (refine wpList_store_row rfl 29 (.tmp 2) (.tmp 11) rfl (w.heap.size + 1) _ rfl rfl 29 _ hrW info_mac rfl (by simp [Value.oneCell']) ?_)
    have hr3 := setRow_heap _ _ _ #[Value.string m.name, .bool m.fn, .bool m.va, .slice pao' np pcp', .slice bao' nb bcp', .string m.file, .int .i64 m.f, .int .i64 m.t] _ _ hrW
    clear m0 m1 m2 m3 m4 m5 m6 m7
    obtain ⟨m0, m1, m2, m3, m4, m5, m6, m7⟩ := cells8 hr3
    refine bodyPost_ret (v := .agg (mcC m.name m.fn m.va (.slice pao' np pcp') (.slice bao' nb bcp') m.file m.f m.t).toArray) (by simp [results, Try.results63, go_sem, m0, m1, m2, m3, m4, m5, m6, m7]; rfl) rfl ⟨_, _, rfl, ⟨(hP.rowBelow (by omega) _).mono (by omega), T', (hT1.rowBelow (by omega) _).mono (by omega), hT2, hT3⟩, Below.row hbW (by omega) _⟩
end Go.Proofs.Ythbicbfdldpemaa
