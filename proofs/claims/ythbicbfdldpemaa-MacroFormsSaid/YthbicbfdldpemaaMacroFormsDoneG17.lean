/- Texts of this seat's proofs, laid into one file. -/
import Derived.Test.YthbicbfdldpemaaMacroFormsDoneG8
import Derived.BigQuiet
import Derived.Deep.RegionHeld3
/- Are tokens the same? -/
namespace Go.Proofs.Ythbicbfdldpemaa
open Go.RowKit
set_option linter.unusedVariables false

set_option maxHeartbeats 1000000 in
set_option maxRecDepth 100000 in
theorem sameToken_any (file : ByteArray) (t : Tk) (w : World) :
    Calls Try.prog 82 #[.agg (tkC file t).toArray, .agg (tkC file t).toArray] w fun e w' => e = .returned (.bool true) ∧ Below w.heap.size w w' := by
  unfold tkC
  go_enter Try.func82, Try.ntmps82
  have hB : ∀ o o', Below w.heap.size w ((w.alloc o).alloc o') := fun o o' => ((Below.refl _ w).alloc (Nat.le_refl _) o).alloc (by simp) o'
  go_wp2_with fail
  go_loopg [5] 0 (fun u i wr => i = .int .i64 0 ∧ wr = ((w.alloc (.cells #[.int .i64 t.kind, .string ⟨t.text.toArray⟩, .bool t.space, .string file, .int .i64 t.f, .int .i64 t.t, .bool false, .slice none 0 0] 43)).alloc (.cells #[.int .i64 t.kind, .string ⟨t.text.toArray⟩, .bool t.space, .string file, .int .i64 t.f, .int .i64 t.t, .bool false, .slice none 0 0] 43)))
  case atStart => exact ⟨rfl, rfl⟩
  case round =>
    obtain ⟨rfl, rfl⟩ := hrel
    go_wp2
    go_ret
    exact ⟨rfl, hB _ _⟩

theorem tk_cells {w : World} {b o k : Nat} {file : ByteArray} {l : List Tk} {t : Tk} (hat : RowAt w 8 b o (l.map (tkC file))) (hp : l[k]? = some t) :
    w.cell? ⟨b, o + k * 8, none⟩ = some (.int .i64 t.kind) ∧ w.cell? ⟨b, o + k * 8 + 1, none⟩ = some (.string ⟨t.text.toArray⟩) ∧ w.cell? ⟨b, o + k * 8 + 2, none⟩ = some (.bool t.space) ∧ w.cell? ⟨b, o + k * 8 + 3, none⟩ = some (.string file) ∧ w.cell? ⟨b, o + k * 8 + 4, none⟩ = some (.int .i64 t.f) ∧ w.cell? ⟨b, o + k * 8 + 5, none⟩ = some (.int .i64 t.t) ∧ w.cell? ⟨b, o + k * 8 + 6, none⟩ = some (.bool false) ∧ w.cell? ⟨b, o + k * 8 + 7, none⟩ = some (.slice none 0 0) := by
  have h := hat k (tkC file t) (by simp [hp])
  exact ⟨h 0 _ rfl, h 1 _ rfl, h 2 _ rfl, h 3 _ rfl, h 4 _ rfl, h 5 _ rfl, h 6 _ rfl, h 7 _ rfl⟩

set_option maxHeartbeats 1000000 in
set_option maxRecDepth 100000 in
theorem sameTokens_any (file : ByteArray) (l : List Tk) (a1 a2 : Option Addr) (c d : Nat) (hl : l.length ≤ 1000000) (hc : l.length ≤ c) (hd : l.length ≤ d) (w : World) (h1 : Row w 8 a1 (l.map (tkC file))) (h2 : Row w 8 a2 (l.map (tkC file))) :
    Calls Try.prog 57 #[.slice a1 l.length c, .slice a2 l.length d] w fun e w' => e = .returned (.bool true) ∧ Below w.heap.size w w' := by
  have HS := fun (t : Tk) (w : World) => sameToken_any file t w
  unfold tkC at HS
  replace HS := Lib.hid HS
  obtain ⟨n, hn⟩ : ∃ n, n = l.length := ⟨_, rfl⟩
  have HN : Hid (l.length = n) := Lib.hid hn.symm
  rw [← hn] at hl hc hd ⊢
  clear hn
  go_enter Try.func57, Try.ntmps57
  go_wp2_with fail
  go_loopg [5] n (fun u i wr => ∃ k : Nat, u = n - k ∧ k ≤ n ∧ i = .int .i64 k ∧ Below w.heap.size w wr)
  case atStart => exact ⟨0, rfl, Nat.zero_le _, rfl, Below.refl _ _⟩
  case round =>
    obtain ⟨k, rfl, hk, rfl, hb⟩ := hrel
    by_cases hlt : k < n
    · obtain ⟨t, hp⟩ : ∃ p, l[k]? = some p := ⟨l[k]'(by rw [HN.out]; exact hlt), by simp⟩
      obtain ⟨rb, o, rfl, hat⟩ := (h1.below hb) (by intro h; simp at h; subst h; simp at hp)
      obtain ⟨rb2, o2, rfl, hat2⟩ := (h2.below hb) (by intro h; simp at h; subst h; simp at hp)
      obtain ⟨t0, t1, t2, t3, t4, t5, t6, t7⟩ := tk_cells hat hp
      obtain ⟨s0, s1, s2, s3, s4, s5, s6, s7⟩ := tk_cells hat2 hp
      have e1 : (k : Int) < n := by omega
      clear hat hat2 hp
      go_upto_region 17 with fail
      go_region_law (first
        | (go_simp; go_at_call 82; refine (HS.out t _).mono ?_; rintro e wt ⟨rfl, hbt0⟩))
      all_goals
        have hb2 := hb.trans (((Below.refl _ wr).drew.trans hbt0).mono hb.size)
        go_wp2_with fail
        go_roundg (n - (k + 1))
        case measure => omega
        case rel => exact ⟨k + 1, rfl, by omega, by go_num, hb2⟩
    · have e1 : ¬ (k : Int) < n := by omega
      go_wp2
      go_ret
      exact ⟨rfl, hb⟩

theorem dg_cells {w : World} {b o k : Nat} {file : ByteArray} {l : List Dg} {t : Dg} (hat : RowAt w 4 b o (l.map (dgC file))) (hp : l[k]? = some t) :
    w.cell? ⟨b, o + k * 4, none⟩ = some (.int .i64 t.code) ∧ w.cell? ⟨b, o + k * 4 + 1, none⟩ = some (.string file) ∧ w.cell? ⟨b, o + k * 4 + 2, none⟩ = some (.int .i64 t.f) ∧ w.cell? ⟨b, o + k * 4 + 3, none⟩ = some (.int .i64 t.t) := by
  have h := hat k (dgC file t) (by simp [hp])
  exact ⟨h 0 _ rfl, h 1 _ rfl, h 2 _ rfl, h 3 _ rfl⟩

theorem drewN_below' (w : World) (k : Nat) : Below w.heap.size w (w.drewN k) := by
  induction k with
  | zero => exact Below.refl _ _
  | succ k ih => exact ih.drew

set_option maxHeartbeats 1000000 in
set_option maxRecDepth 100000 in
theorem sameDiags_any (file : ByteArray) (l : List Dg) (a1 a2 : Option Addr) (c d : Nat) (hl : l.length ≤ 1000000) (hc : l.length ≤ c) (hd : l.length ≤ d) (w : World) (h1 : Row w 4 a1 (l.map (dgC file))) (h2 : Row w 4 a2 (l.map (dgC file))) :
    Calls Try.prog 27 #[.slice a1 l.length c, .slice a2 l.length d] w fun e w' => e = .returned (.bool true) ∧ Below w.heap.size w w' := by
  obtain ⟨n, hn⟩ : ∃ n, n = l.length := ⟨_, rfl⟩
  have HN : Hid (l.length = n) := Lib.hid hn.symm
  rw [← hn] at hl hc hd ⊢
  clear hn
  go_enter Try.func27, Try.ntmps27
  go_wp2_with fail
  go_loopg [5] n (fun u i wr => ∃ k : Nat, u = n - k ∧ k ≤ n ∧ i = .int .i64 k ∧ Below w.heap.size w wr)
  case atStart => exact ⟨0, rfl, Nat.zero_le _, rfl, Below.refl _ _⟩
  case round =>
    obtain ⟨k, rfl, hk, rfl, hb⟩ := hrel
    by_cases hlt : k < n
    · obtain ⟨t, hp⟩ : ∃ p, l[k]? = some p := ⟨l[k]'(by rw [HN.out]; exact hlt), by simp⟩
      obtain ⟨rb, o, rfl, hat⟩ := (h1.below hb) (by intro h; simp at h; subst h; simp at hp)
      obtain ⟨rb2, o2, rfl, hat2⟩ := (h2.below hb) (by intro h; simp at h; subst h; simp at hp)
      obtain ⟨t0, t1, t2, t3⟩ := dg_cells hat hp
      obtain ⟨s0, s1, s2, s3⟩ := dg_cells hat2 hp
      have e1 : (k : Int) < n := by omega
      clear hat hat2 hp
      go_wp2_with fail
      go_quiet (fail)
      have hb2 := hb.trans ((drewN_below' wr nq).mono hb.size)
      go_wp2_with fail
      go_roundg (n - (k + 1))
      case measure => omega
      case rel => exact ⟨k + 1, rfl, by omega, by go_num, hb2⟩
    · have e1 : ¬ (k : Int) < n := by omega
      go_wp2
      go_ret
      exact ⟨rfl, hb⟩
end Go.Proofs.Ythbicbfdldpemaa

/- Are lines the same? -/
namespace Go.Proofs.Ythbicbfdldpemaa
open Go.RowKit
set_option linter.unusedVariables false

theorem LnAt.row {w : World} {S : Nat} {file : ByteArray} {ln : Ln} {c : List Value} (h : LnAt w S file ln c) : ∃ ao cap, c = [.slice ao ln.toks.length cap, .int .i64 ln.f, .int .i64 ln.t, .bool ln.op] ∧ ln.toks.length ≤ cap ∧ Row w 8 ao (ln.toks.map (tkC file)) := by
  obtain ⟨ao, cap, e, h1, h2⟩ := h
  refine ⟨ao, cap, e, h1, fun hne => ?_⟩
  obtain ⟨b, o, x, fz, e1, _, _, hr⟩ := h2 (by intro h; rw [h] at hne; exact hne rfl)
  exact ⟨b, o, e1, hr⟩

theorem LnsAt.get {w : World} {S : Nat} {file : ByteArray} {ls : List Ln} {css : List (List Value)} (h : LnsAt w S file ls css) {k : Nat} {ln : Ln} (hk : ls[k]? = some ln) : ∃ c, css[k]? = some c ∧ LnAt w S file ln c := by
  induction h generalizing k with
  | nil => simp at hk
  | cons h r ih =>
    cases k with
    | zero => simp only [List.getElem?_cons_zero, Option.some.injEq] at hk; subst hk; exact ⟨_, rfl, h⟩
    | succ k => simp only [List.getElem?_cons_succ] at hk ⊢; exact ih hk

theorem ln_cells {w : World} {b o k : Nat} {css : List (List Value)} {a0 a1 a2 a3 : Value} (hat : RowAt w 4 b o css) (hp : css[k]? = some [a0, a1, a2, a3]) :
    w.cell? ⟨b, o + k * 4, none⟩ = some a0 ∧ w.cell? ⟨b, o + k * 4 + 1, none⟩ = some a1 ∧ w.cell? ⟨b, o + k * 4 + 2, none⟩ = some a2 ∧ w.cell? ⟨b, o + k * 4 + 3, none⟩ = some a3 := by
  have h := hat k _ hp
  exact ⟨h 0 _ rfl, h 1 _ rfl, h 2 _ rfl, h 3 _ rfl⟩

set_option maxHeartbeats 4000000 in
set_option maxRecDepth 100000 in
theorem sameLines_any (file : ByteArray) (ls : List Ln) (a1 a2 : Option Addr) (c d S : Nat) (css dss : List (List Value)) (hl : ls.length ≤ 1000000) (hc : ls.length ≤ c) (hd : ls.length ≤ d) (ht : ∀ l ∈ ls, l.toks.length ≤ 1000000) (w : World) (hS : S ≤ w.heap.size) (hA : LnsAt w S file ls css) (hB : LnsAt w S file ls dss) (h1 : Row w 4 a1 css) (h2 : Row w 4 a2 dss) :
    Calls Try.prog 25 #[.slice a1 ls.length c, .slice a2 ls.length d] w fun e w' => e = .returned (.bool true) ∧ Below w.heap.size w w' := by
  obtain ⟨n, hn⟩ : ∃ n, n = ls.length := ⟨_, rfl⟩
  have HN : Hid (ls.length = n) := Lib.hid hn.symm
  rw [← hn] at hl hc hd ⊢
  clear hn
  go_enter Try.func25, Try.ntmps25
  go_wp2_with fail
  go_loopg [5] n (fun u i wr => ∃ k : Nat, u = n - k ∧ k ≤ n ∧ i = .int .i64 k ∧ Below w.heap.size w wr)
  case atStart => exact ⟨0, rfl, Nat.zero_le _, rfl, Below.refl _ _⟩
  case round =>
    obtain ⟨k, rfl, hk, rfl, hb⟩ := hrel
    by_cases hlt : k < n
    · obtain ⟨ln, hp⟩ : ∃ p, ls[k]? = some p := ⟨ls[k]'(by rw [HN.out]; exact hlt), by simp⟩
      obtain ⟨cA, hcA, hAt⟩ := (hA.kept (KeptTok.below (hb.mono hS))).get hp
      obtain ⟨cB, hcB, hBt⟩ := (hB.kept (KeptTok.below (hb.mono hS))).get hp
      obtain ⟨ao, ac, rfl, hac, hAr⟩ := hAt.row
      obtain ⟨bo, bc, rfl, hbc, hBr⟩ := hBt.row
      obtain ⟨rb, o, rfl, hat⟩ := (h1.below hb) (by intro h; subst h; simp at hcA)
      obtain ⟨rb2, o2, rfl, hat2⟩ := (h2.below hb) (by intro h; subst h; simp at hcB)
      obtain ⟨t0, t1, t2, t3⟩ := ln_cells hat hcA
      obtain ⟨s0, s1, s2, s3⟩ := ln_cells hat2 hcB
      have e1 : (k : Int) < n := by omega
      have HT : Hid (∀ wx, Below wr.heap.size wr wx → Calls Try.prog 57 #[.slice ao ln.toks.length ac, .slice bo ln.toks.length bc] wx fun e w' => e = .returned (.bool true) ∧ Below wr.heap.size wr w') := Lib.hid (by
        intro wx hx
        refine (sameTokens_any file ln.toks ao bo ac bc (ht _ (List.mem_of_getElem? hp)) hac hbc wx (hAr.below hx) (hBr.below hx)).mono ?_
        rintro e w' ⟨rfl, hw'⟩
        exact ⟨rfl, hx.trans (hw'.mono hx.size)⟩)
      have hfacts : Hid (∀ wx, Below wr.heap.size wr wx → wx.cell? ⟨rb, o + k * 4, none⟩ = some (.slice ao ln.toks.length ac) ∧ wx.cell? ⟨rb, o + k * 4 + 1, none⟩ = some (.int .i64 ln.f) ∧ wx.cell? ⟨rb, o + k * 4 + 2, none⟩ = some (.int .i64 ln.t) ∧ wx.cell? ⟨rb, o + k * 4 + 3, none⟩ = some (.bool ln.op) ∧ wx.cell? ⟨rb2, o2 + k * 4, none⟩ = some (.slice bo ln.toks.length bc) ∧ wx.cell? ⟨rb2, o2 + k * 4 + 1, none⟩ = some (.int .i64 ln.f) ∧ wx.cell? ⟨rb2, o2 + k * 4 + 2, none⟩ = some (.int .i64 ln.t) ∧ wx.cell? ⟨rb2, o2 + k * 4 + 3, none⟩ = some (.bool ln.op)) := Lib.hid (fun wx hx => ⟨kept_cell hx t0, kept_cell hx t1, kept_cell hx t2, kept_cell hx t3, kept_cell hx s0, kept_cell hx s1, kept_cell hx s2, kept_cell hx s3⟩)
      clear hat hat2 hp hAt hBt hAr hBr hcA hcB
      have hb0 := (Below.refl wr.heap.size wr).drew
      obtain ⟨x0, x1, x2, x3, x4, x5, x6, x7⟩ := hfacts.out _ hb0
      go_upto_region 17 with fail
      go_cut [67] from 17 to 67 (fun v wx => v = .bool false ∧ Below wr.heap.size wr wx)
      case first =>
        go_region_held3 (fun x : World => x.cell? ⟨rb, o + k * 4, none⟩ = some (.slice ao ln.toks.length ac) ∧ x.cell? ⟨rb, o + k * 4 + 1, none⟩ = some (.int .i64 ln.f) ∧ x.cell? ⟨rb, o + k * 4 + 2, none⟩ = some (.int .i64 ln.t) ∧ x.cell? ⟨rb, o + k * 4 + 3, none⟩ = some (.bool ln.op) ∧ x.cell? ⟨rb2, o2 + k * 4, none⟩ = some (.slice bo ln.toks.length bc) ∧ x.cell? ⟨rb2, o2 + k * 4 + 1, none⟩ = some (.int .i64 ln.f) ∧ x.cell? ⟨rb2, o2 + k * 4 + 2, none⟩ = some (.int .i64 ln.t) ∧ x.cell? ⟨rb2, o2 + k * 4 + 3, none⟩ = some (.bool ln.op)) (first | with_reducible exact ⟨x0, x1, x2, x3, x4, x5, x6, x7⟩ | with_reducible exact hfacts.out _ hb5) (first | (go_at_call 57; refine (HT.out _ (by assumption)).mono ?_; rintro e w5 ⟨rfl, hb5⟩))
        all_goals
          go_wp2_with fail
          go_meet
          case rel => exact ⟨rfl, hb5⟩
      case rest =>
        obtain ⟨rfl, hb5⟩ := hcut
        go_wp2_with fail
        go_roundg (n - (k + 1))
        case measure => omega
        case rel => exact ⟨k + 1, rfl, by omega, by go_num, hb.trans (hb5.mono hb.size)⟩
    · have e1 : ¬ (k : Int) < n := by omega
      go_wp2
      go_ret
      exact ⟨rfl, hb⟩
end Go.Proofs.Ythbicbfdldpemaa
