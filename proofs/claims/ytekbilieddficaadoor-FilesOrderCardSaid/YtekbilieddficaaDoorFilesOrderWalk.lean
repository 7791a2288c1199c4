/- FilesOrder: the walk. -/
import Derived.Test.YtekbilieddficaaDoorFoSpec2
namespace Go.Proofs.YtekbilieddficaaDoor
open Go.RowKit
set_option linter.unusedVariables false

theorem dirsFrom_len : ∀ m i, (dirsFrom i m).length = m
  | 0, _ => rfl
  | m + 1, i => by show (dirsFrom (i + 1) m).length + 1 = m + 1; rw [dirsFrom_len m (i + 1)]
theorem dirsFrom_snoc : ∀ m i, dirsFrom i (m + 1) = dirsFrom i m ++ [dirB (i + m)]
  | 0, i => rfl
  | m + 1, i => by
    show dirB i :: dirsFrom (i + 1) (m + 1) = (dirB i :: dirsFrom (i + 1) m) ++ [dirB (i + (m + 1))]
    rw [dirsFrom_snoc m (i + 1), List.cons_append]
    rw [show i + 1 + m = i + (m + 1) by omega]

theorem dirs_mem : ∀ m i d, d ∈ dirsFrom i m → ∃ j, j < i + m ∧ d = dirB j
  | 0, _, _, h => by simp [dirsFrom] at h
  | m + 1, i, d, h => by
    rcases List.mem_cons.1 (show d ∈ dirB i :: dirsFrom (i + 1) m from h) with rfl | h
    · exact ⟨i, by omega, rfl⟩
    · obtain ⟨j, h1, h2⟩ := dirs_mem m (i + 1) d h
      exact ⟨j, by omega, h2⟩
theorem dirs_at : ∀ m i k, k < m → (dirsFrom i m)[k]? = some (dirB (i + k))
  | 0, _, _, h => by omega
  | m + 1, i, 0, _ => rfl
  | m + 1, i, k + 1, h => by
    show (dirsFrom (i + 1) m)[k]? = _
    rw [dirs_at m (i + 1) k (by omega), show i + 1 + k = i + (k + 1) by omega]
theorem dirs_may {m : Nat} (h : m ≤ 8) : mayD (dirsFrom 0 m) = true := mayD_true (by rw [dirsFrom_len]; omega) fun d hd => by
  obtain ⟨j, h1, rfl⟩ := dirs_mem m 0 d hd
  exact badB_ok (dir_ok j (by omega))
theorem boolRow_cell {w : World} {b o k : Nat} {A : List Bool} {s : Bool} (h : RowAt w 1 b o (A.map fun p => [.bool p])) (hk : A[k]? = some s) : w.cell? ⟨b, o + k, none⟩ = some (.bool s) := by
  have h1 : (A.map fun p => [Value.bool p])[k]? = some [.bool s] := by rw [List.getElem?_map, hk]; rfl
  have := h.cell h1 (j := 0) (u := .bool s) rfl
  simpa using this
theorem cat_y (j : Nat) : dirB j ++ (⟨#[47, 120, 47, 121, 46, 104]⟩ : ByteArray) = yB j := rfl

theorem byte_at {i : Nat} (hi : i < 8) : ((UInt8.ofNat (48 + i)).toNat : Int) = 48 + (i : Int) := by
  have : (UInt8.ofNat (48 + i)).toNat = 48 + i := by simp [UInt8.toNat_ofNat']; omega
  rw [this]
  push_cast
  rfl

theorem conv_byte {i : Nat} (hi : i < 8) (w : World) : (convert 41 9 (.slice (some ⟨w.heap.size, 0, none⟩) 1 1)).run Tryd.prog (w.alloc (.cells #[.int .u8 (48 + (i : Int))] 5)) = .ok (.string ⟨#[UInt8.ofNat (48 + i)]⟩) (w.alloc (.cells #[.int .u8 (48 + (i : Int))] 5)) :=
  run_convert_bytes_back (P := Tryd.prog) (w.alloc (.cells #[.int .u8 (48 + (i : Int))] 5)) 41 9 5 ⟨w.heap.size, 0, none⟩ 1 [UInt8.ofNat (48 + i)] Tryd.underlying41 Tryd.underlying5 Tryd.underlying9 (by
    intro j hj
    obtain rfl : j = 0 := by simpa using hj
    have := Lib.cell_of_heap (heap_alloc_new w (.cells #[.int .u8 (48 + (i : Int))] 5)) 0
    simp only [List.getElem_cons_zero, byte_at hi]
    exact this)

set_option maxRecDepth 100000 in
set_option maxHeartbeats 2000000 in
theorem filesOrder_walk (H : List Bool) (bo : Option Addr) (bc : Nat) (hbc : H.length ≤ bc) (beside quote : Bool) (w : World) (hrow : Row w 1 bo (H.map fun b => [.bool b])) :
    Calls Tryd.prog 4 #[.slice bo H.length bc, .bool beside, .bool quote] w fun e w' => e = .returned (.bool true) ∧ Below w.heap.size w w' := by
  obtain ⟨n, hn⟩ : ∃ n, n = H.length := ⟨_, rfl⟩
  have HN : Hid (H.length = n) := Lib.hid hn.symm
  rw [← hn] at hbc ⊢
  clear hn
  replace hrow := Lib.hid hrow
  by_cases h8 : n ≤ 8
  · have h8' : ¬ (8 : Int) < (n : Int) := by omega
    have hsum : ∀ c : UInt8, (⟨#[100]⟩ : ByteArray).size + (⟨#[c]⟩ : ByteArray).size ≤ 9223372036854775807 := fun c => by show 1 + 1 ≤ 9223372036854775807; omega
    go_enter Tryd.func4, Tryd.ntmps4
    go_wp2_with fail
    go_loopg [7, 8] n (fun q v7 v8 wx => ∃ i : Nat, q = n - i ∧ i ≤ n ∧ v8 = .int .i64 i ∧ Hid (Own wx w.heap.size 9 1 v7 (strsB (dirsFrom 0 i))) ∧ Hid (Below w.heap.size w wx))
    case atStart => exact ⟨0, rfl, Nat.zero_le _, rfl, Lib.hid (Own.nil _ _ _ _), Lib.hid (Below.refl _ _)⟩
    case round =>
      obtain ⟨i, hq, hi, rfl, ho, hb⟩ := hrel
      replace hq := hq.symm
      subst hq
      by_cases hin : i < n
      · have hin' : (i : Int) < n := by omega
        have f4 : Hid (n - (i + 1) < n - i) := Lib.hid (by omega)
        have g1 : IntKind.i64.wrap ((i : Int) + 1) = (i : Int) + 1 := IntWalk.i64_in _ (by omega)
        have g2 : IntKind.i64.wrap (48 + (i : Int)) = 48 + (i : Int) := IntWalk.i64_in _ (by omega)
        have g3 : IntKind.u8.wrap (48 + (i : Int)) = 48 + (i : Int) := by
          simp [IntKind.wrap, IntKind.signed, IntKind.bits]
          omega
        have hcv := conv_byte (i := i) (by omega) wr
        obtain ⟨ch, hch⟩ : ∃ c, c = UInt8.ofNat (48 + i) := ⟨_, rfl⟩
        rw [← hch] at hcv
        replace hch := Lib.hid hch
        have hs2 := hsum ch
        clear hsum
        have hOw : Hid (Own (wr.alloc (.cells #[.int .u8 (48 + (i : Int))] 5)) w.heap.size 9 1 u7 (strsB (dirsFrom 0 i))) := Lib.hid (ho.out.alloc _)
        have hBw : Hid (w.heap.size ≤ (wr.alloc (.cells #[.int .u8 (48 + (i : Int))] 5)).heap.size) := Lib.hid (by have := hb.out.size; simp; omega)
        have hlen : Hid ((strsB (dirsFrom 0 i)).length + 1 ≤ 1000000000) := Lib.hid (by unfold strsB; rw [List.length_map, dirsFrom_len]; omega)
        go_wp2_with (at_builtin; go_must (refine wpList_append1 E9 rfl rfl hOw.out rfl rfl (news := [.string ((⟨#[100]⟩ : ByteArray) ++ (⟨#[ch]⟩ : ByteArray))]) (by simp) rfl (by simp [Value.oneCell']) hlen.out (by decide) hBw.out ?_); intro v9 w9 hown9 hg9; have hb9 := Lib.hid (bapp (hb.out.alloc hb.out.size _) hOw.out hg9 hBw.out); replace hown9 := Lib.hid hown9; clear hg9)
        go_roundg (n - (i + 1))
        case measure => exact f4.out
        case rel => exact ⟨i + 1, rfl, by omega, rfl, Lib.hid (by
          rw [dirsFrom_snoc, Nat.zero_add]
          have h1 : (⟨#[100]⟩ : ByteArray) ++ ⟨#[ch]⟩ = dirB i := by rw [hch.out]; rfl
          have h2 := hown9.out
          rw [h1] at h2
          simpa [strsB] using h2), hb9⟩
      · obtain rfl : i = n := by omega
        have hin' : ¬ (i : Int) < (i : Int) := by omega
        clear hsum
        obtain ⟨lo, lc, rfl, hlc, hlm, _, hlz⟩ := ho.out.rown (n := i) (by unfold strsB; rw [List.length_map, dirsFrom_len])
        have HN1 := Lib.hid (by
          have h1 := new_yes (D := dirsFrom 0 i) (fun d hd => by
            obtain ⟨j, _, rfl⟩ := dirs_mem i 0 d hd
            show 2 ≤ 100000
            omega) lo lc (by rw [dirsFrom_len]; exact hlc) (fun e => ⟨by have := (hlz e).1; simpa [strsB] using this, (hlz e).2⟩) wr ho.out.here (dirs_may h8)
          rw [dirsFrom_len] at h1
          exact h1)
        have hrd := Lib.hid ho.out.here
        obtain ⟨B, hB⟩ : ∃ B, B = wr.heap.size := ⟨_, rfl⟩
        have hwB : Hid (w.heap.size ≤ B) := Lib.hid (by rw [hB]; exact hb.out.size)
        rw [← hB] at HN1
        have hBr := Lib.hid (show ∀ x, Below B wr x → Row x 1 lo (strsB (dirsFrom 0 i)) ∧ B ≤ x.heap.size ∧ Below w.heap.size w x from fun x hx => ⟨hrd.out.below (by rw [← hB]; exact hx), by rw [hB]; exact hx.size, hb.out.trans (hx.mono (by rw [hB]; exact hb.out.size))⟩)
        replace hB := Lib.hid hB
        clear hlz ho
        go_wp2_with fail
        refine HN1.out.mono ?_
        rintro e w1 ⟨g, fm, vm, dv, rfl, f1, b1⟩
        have C1 := Lib.hid (create_yes w1 f1 ((hBr.out w1 b1).2.1) sSrcA ⟨#[]⟩ (by decide) srcA_valid rfl (by decide) (by decide) (by decide))
        replace b1 := Lib.hid b1
        clear f1 HN1
        go_wp2_with fail
        refine C1.out.mono ?_
        rintro e w2 ⟨rfl, p1, t1, q1, _, f2, c2⟩
        have b2 := Lib.hid (b1.out.trans c2)
        have hk0 := Lib.hid (HN.out ▸ keys_start p1 t1 H : Keys H i ([] ++ [(sSrcA, p1, t1)]))
        have hv0 : Hid (∀ m, countOf (bumpV [] sSrcA q1) m ≤ 1) := Lib.hid (fun m => by have := count_bump [] sSrcA m q1; have h0 : countOf [] m = 0 := rfl; omega)
        replace f2 := Lib.hid f2
        have g5 : IntKind.i64.wrap ((i : Int) - 1) = (i : Int) - 1 := IntWalk.i64_in _ (by omega)
        clear c2 C1
        go_wp2_with fail
        go_loopg [11, 12] i (fun q v11 v12 wx => ∃ (j : Nat) (F : List (ByteArray × Nat × RT)) (V : List (ByteArray × Nat × Int)), q = j ∧ j ≤ i ∧ v12 = .int .i64 ((j : Int) - 1) ∧ v11 = .string (firstY j (H.drop j)) ∧ Hid (FAt wx B g fm vm dv (dirsFrom 0 i) F V) ∧ Hid (Keys H j F) ∧ Hid (F.length + j ≤ i + 1 ∧ 1 ≤ F.length) ∧ Hid (∀ m, countOf V m ≤ F.length) ∧ Hid (Below B wr wx))
        case atStart => exact ⟨i, _, _, rfl, Nat.le_refl _, rfl, by rw [List.drop_eq_nil_of_le (by rw [HN.out]; exact Nat.le_refl _)]; rfl, f2, hk0, Lib.hid (by simp; omega), hv0, b2⟩
        case round =>
          obtain ⟨j, F, V, hq, hj, rfl, rfl, hf, hK, hFl, hV, hbw⟩ := hrel
          replace hq := hq.symm
          subst hq
          obtain ⟨hrD, hsB, hbW⟩ := hBr.out wr hbw.out
          cases j with
          | succ j =>
            have e12 : (((j + 1 : Nat) : Int) - 1) = (j : Int) := by omega
            rw [e12]
            have hj0 : (0 : Int) ≤ (j : Int) := by omega
            have hji : (j : Int) < (i : Int) := by omega
            have g6 : IntKind.i64.wrap ((j : Int) - 1) = (j : Int) - 1 := IntWalk.i64_in _ (by omega)
            have f4 : Hid (j < j + 1) := Lib.hid (by omega)
            obtain ⟨hb', hHj⟩ : ∃ x, H[j]? = some x := ⟨_, List.getElem?_eq_getElem (by rw [HN.out]; omega)⟩
            obtain ⟨rb, ro, rfl, hat⟩ := hrow.out (by intro e; simp at e; subst e; simp at hHj)
            have y0 := boolRow_cell hat hHj
            have y1 : wr.cell? ⟨rb, ro + j, none⟩ = some (.bool hb') := (hbW.cell (cell_lt y0)).trans y0
            obtain ⟨db, dd, rfl, hdt⟩ := hrD (by intro e; have := congrArg List.length e; unfold strsB at this; rw [List.length_map, dirsFrom_len] at this; simp at this; omega)
            have y2 := strRow_cell hdt (dirs_at i 0 j (by omega))
            rw [Nat.zero_add] at y2
            have hHj' := Lib.hid hHj
            clear y0 hat hdt hrD hHj
            cases hb' with
            | false =>
              go_wp2_with fail
              go_roundg j
              case measure => exact f4.out
              case rel => exact ⟨j, F, V, rfl, by omega, rfl, by rw [firstY_drop hHj'.out]; rfl, hf, Lib.hid (keys_skip hK.out hHj'.out), Lib.hid (by have := hFl.out; omega), hV, hbw⟩
            | true =>
              have hsz : (dirB j).size + (⟨#[47, 120, 47, 121, 46, 104]⟩ : ByteArray).size ≤ 9223372036854775807 := by show 2 + 6 ≤ _; omega
              have HCr := create_yes wr hf.out hsB (yB j) ⟨#[]⟩ (by show 8 ≤ 80; omega) (y_valid j (by omega)) (keys_new (by rw [HN.out]; exact h8) hK.out (by omega)) (by have := hFl.out; omega) (by decide) (by have := hV.out (yB j); have := hFl.out; omega)
              rw [← cat_y j] at HCr
              replace HCr := Lib.hid HCr
              go_wp2_with fail
              refine HCr.out.mono ?_
              rintro e w3 ⟨rfl, p3, t3, q3, _, f3, c3⟩
              rw [cat_y j] at f3
              have hf3 := Lib.hid f3
              have hb3 := Lib.hid (hbw.out.trans c3)
              clear f3 c3
              go_wp2_with fail
              go_roundg j
              case measure => exact f4.out
              case rel => exact ⟨j, _, _, rfl, by omega, rfl, by rw [firstY_drop hHj'.out]; rfl, hf3, Lib.hid (keys_more hK.out hHj'.out), Lib.hid (by have := hFl.out; rw [List.length_append, List.length_singleton]; omega), Lib.hid (fun m => by have h1 := count_bump V (yB j) m q3; have h2 := hV.out m; rw [List.length_append, List.length_singleton]; push_cast; omega), hb3⟩
          | zero =>
            have e12 : ¬ (0 : Int) ≤ (((0 : Nat) : Int) - 1) := by omega
            rw [List.drop_zero]
            have hbW0 : Hid (∀ x, Below B _ x → Below w.heap.size w x) := Lib.hid (fun x hx => (hBr.out x hx).2.2)
            have hd0 : Hid (DirOf sSrcA.data.toList sSrc.data.toList) := Lib.hid (dir_app (a := [115, 114, 99]) (b := [97, 46, 99]) (by decide))
            have hDb : (dirsFrom 0 i).length ≤ 100 ∧ ∀ d ∈ dirsFrom 0 i, d.size ≤ 1000 := ⟨by rw [dirsFrom_len]; omega, fun d hd => by
              obtain ⟨j, _, rfl⟩ := dirs_mem i 0 d hd
              show 2 ≤ 1000
              omega⟩
            cases beside with
            | false =>
              have hKE := Lib.hid (keysEnd_no hK.out)
              clear hV hK
              cases quote with
              | false =>
                have e1 := end_found (H := H) (by rw [HN.out]; exact h8) false hKE.out joinS_xy join_xy
                have e2 := end_found (H := H) (by rw [HN.out]; exact h8) false hKE.out joinS_zxy join_zxy
                have e3 := end_none (H := H) (by rw [HN.out]; exact h8) false hKE.out
                rw [HN.out] at e1 e2 e3
                rw [show wantB H false false = firstY 0 H from rfl] at e1 e2
                have G1 := fun (W0 : World) (hW0 : Below wr.heap.size wr W0) => find_any W0 (hf.out.moved hW0) hDb sSrcA nXy (by decide) (by decide) false sSrc hd0.out (by decide)
                have G2 := fun (W0 : World) (hW0 : Below wr.heap.size wr W0) => find_any W0 (hf.out.moved hW0) hDb sSrcA nZxy (by decide) (by decide) false sSrc hd0.out (by decide)
                have G3 := fun (W0 : World) (hW0 : Below wr.heap.size wr W0) => find_any W0 (hf.out.moved hW0) hDb sSrcA nY (by decide) (by decide) false sSrc hd0.out (by decide)
                rw [e1] at G1
                rw [e2] at G2
                rw [e3] at G3
                clear e1 e2 e3
                generalize firstY 0 H = W at G1 G2 ⊢
                have HG3 := Lib.hid G3
                clear G3
                by_cases hWe : W = ⟨#[]⟩
                all_goals
                  first
                    | (subst hWe; rw [if_pos rfl] at G1 G2; have hWn : True := trivial)
                    | (rw [if_neg hWe] at G1 G2; have hWn : W.toList.isEmpty = false := by (cases hx : W.toList with | nil => exact absurd (str_lit (by rw [← Lib.toList_data, hx])) hWe | cons c l => rfl))
                  unfold findV at G1 G2
                  have HG1 := Lib.hid (G1 _ (Below.refl _ _))
                  replace G2 := Lib.hid G2
                  clear G1
                  try (replace hWe := Lib.hid hWe)
                  go_wp2_with fail
                  refine HG1.out.mono ?_
                  rintro e w6 ⟨rfl, c6⟩
                  have HG2 := Lib.hid (G2.out w6 c6)
                  replace c6 := Lib.hid c6
                  go_wp2_with fail
                  refine HG2.out.mono ?_
                  rintro e w7 ⟨rfl, c7⟩
                  have c67 := c6.out.trans (c7.mono c6.out.size)
                  have HG4 := HG3.out w7 c67
                  unfold findV at HG4
                  replace HG4 := Lib.hid HG4
                  replace c67 := Lib.hid c67
                  clear c7
                  go_wp2_with fail
                  refine HG4.out.mono ?_
                  rintro e w8 ⟨rfl, c8⟩
                  have c68 := Lib.hid (c67.out.trans (c8.mono c67.out.size))
                  have HA := Lib.hid (awake_any w8)
                  clear c8
                  go_wp2_with fail
                  refine HA.out.mono ?_
                  rintro e w9 ⟨rfl, c9⟩
                  replace c9 := Lib.hid c9
                  go_wp2
                  go_ret
                  have hz1 := hbw.out
                  have hz2 : Below w.heap.size w wr := hbW0.out _ hz1
                  have hz3 : Below w.heap.size w w8 := hz2.trans (c68.out.mono hz2.size)
                  exact ⟨rfl, hz3.trans (c9.out.mono hz3.size)⟩
              | true =>
                have e1 := end_found (H := H) (by rw [HN.out]; exact h8) true hKE.out joinS_xy join_xy
                have e2 := end_found (H := H) (by rw [HN.out]; exact h8) true hKE.out joinS_zxy join_zxy
                have e3 := end_none (H := H) (by rw [HN.out]; exact h8) true hKE.out
                rw [HN.out] at e1 e2 e3
                rw [show wantB H false true = firstY 0 H from rfl] at e1 e2
                have G1 := fun (W0 : World) (hW0 : Below wr.heap.size wr W0) => find_any W0 (hf.out.moved hW0) hDb sSrcA nXy (by decide) (by decide) true sSrc hd0.out (by decide)
                have G2 := fun (W0 : World) (hW0 : Below wr.heap.size wr W0) => find_any W0 (hf.out.moved hW0) hDb sSrcA nZxy (by decide) (by decide) true sSrc hd0.out (by decide)
                have G3 := fun (W0 : World) (hW0 : Below wr.heap.size wr W0) => find_any W0 (hf.out.moved hW0) hDb sSrcA nY (by decide) (by decide) true sSrc hd0.out (by decide)
                rw [e1] at G1
                rw [e2] at G2
                rw [e3] at G3
                clear e1 e2 e3
                generalize firstY 0 H = W at G1 G2 ⊢
                have HG3 := Lib.hid G3
                clear G3
                by_cases hWe : W = ⟨#[]⟩
                all_goals
                  first
                    | (subst hWe; rw [if_pos rfl] at G1 G2; have hWn : True := trivial)
                    | (rw [if_neg hWe] at G1 G2; have hWn : W.toList.isEmpty = false := by (cases hx : W.toList with | nil => exact absurd (str_lit (by rw [← Lib.toList_data, hx])) hWe | cons c l => rfl))
                  unfold findV at G1 G2
                  have HG1 := Lib.hid (G1 _ (Below.refl _ _))
                  replace G2 := Lib.hid G2
                  clear G1
                  try (replace hWe := Lib.hid hWe)
                  go_wp2_with fail
                  refine HG1.out.mono ?_
                  rintro e w6 ⟨rfl, c6⟩
                  have HG2 := Lib.hid (G2.out w6 c6)
                  replace c6 := Lib.hid c6
                  go_wp2_with fail
                  refine HG2.out.mono ?_
                  rintro e w7 ⟨rfl, c7⟩
                  have c67 := c6.out.trans (c7.mono c6.out.size)
                  have HG4 := HG3.out w7 c67
                  unfold findV at HG4
                  replace HG4 := Lib.hid HG4
                  replace c67 := Lib.hid c67
                  clear c7
                  go_wp2_with fail
                  refine HG4.out.mono ?_
                  rintro e w8 ⟨rfl, c8⟩
                  have c68 := Lib.hid (c67.out.trans (c8.mono c67.out.size))
                  have HA := Lib.hid (awake_any w8)
                  clear c8
                  go_wp2_with fail
                  refine HA.out.mono ?_
                  rintro e w9 ⟨rfl, c9⟩
                  replace c9 := Lib.hid c9
                  go_wp2
                  go_ret
                  have hz1 := hbw.out
                  have hz2 : Below w.heap.size w wr := hbW0.out _ hz1
                  have hz3 : Below w.heap.size w w8 := hz2.trans (c68.out.mono hz2.size)
                  exact ⟨rfl, hz3.trans (c9.out.mono hz3.size)⟩
            | true =>
              have HCr := Lib.hid (create_yes wr hf.out hsB sSrcY ⟨#[]⟩ (by decide) srcY_valid (keys_noY (by rw [HN.out]; exact h8) hK.out) (by have := hFl.out; omega) (by decide) (by have := hV.out sSrcY; have := hFl.out; omega))
              go_upto_if 74 with fail
              go_wp2_with fail
              refine HCr.out.mono ?_
              rintro e w3 ⟨rfl, p3, t3, q3, _, f3, c3⟩
              have hf3 := Lib.hid f3
              have hb3 := Lib.hid (hbw.out.trans c3)
              have hKE := Lib.hid (keysEnd_yes (b := p3) (t := t3) hK.out)
              clear f3 c3 hV hK HCr
              cases quote with
              | false =>
                have e1 := end_found (H := H) (by rw [HN.out]; exact h8) false hKE.out joinS_xy join_xy
                have e2 := end_found (H := H) (by rw [HN.out]; exact h8) false hKE.out joinS_zxy join_zxy
                have e3 := end_none (H := H) (by rw [HN.out]; exact h8) false hKE.out
                rw [HN.out] at e1 e2 e3
                rw [show wantB H true false = firstY 0 H from rfl] at e1 e2
                have G1 := fun (W0 : World) (hW0 : Below w3.heap.size w3 W0) => find_any W0 (hf3.out.moved hW0) hDb sSrcA nXy (by decide) (by decide) false sSrc hd0.out (by decide)
                have G2 := fun (W0 : World) (hW0 : Below w3.heap.size w3 W0) => find_any W0 (hf3.out.moved hW0) hDb sSrcA nZxy (by decide) (by decide) false sSrc hd0.out (by decide)
                have G3 := fun (W0 : World) (hW0 : Below w3.heap.size w3 W0) => find_any W0 (hf3.out.moved hW0) hDb sSrcA nY (by decide) (by decide) false sSrc hd0.out (by decide)
                rw [e1] at G1
                rw [e2] at G2
                rw [e3] at G3
                clear e1 e2 e3
                generalize firstY 0 H = W at G1 G2 ⊢
                have HG3 := Lib.hid G3
                clear G3
                by_cases hWe : W = ⟨#[]⟩
                all_goals
                  first
                    | (subst hWe; rw [if_pos rfl] at G1 G2; have hWn : True := trivial)
                    | (rw [if_neg hWe] at G1 G2; have hWn : W.toList.isEmpty = false := by (cases hx : W.toList with | nil => exact absurd (str_lit (by rw [← Lib.toList_data, hx])) hWe | cons c l => rfl))
                  unfold findV at G1 G2
                  have HG1 := Lib.hid (G1 _ (Below.refl _ _))
                  replace G2 := Lib.hid G2
                  clear G1
                  try (replace hWe := Lib.hid hWe)
                  go_wp2_with fail
                  refine HG1.out.mono ?_
                  rintro e w6 ⟨rfl, c6⟩
                  have HG2 := Lib.hid (G2.out w6 c6)
                  replace c6 := Lib.hid c6
                  go_wp2_with fail
                  refine HG2.out.mono ?_
                  rintro e w7 ⟨rfl, c7⟩
                  have c67 := c6.out.trans (c7.mono c6.out.size)
                  have HG4 := HG3.out w7 c67
                  unfold findV at HG4
                  replace HG4 := Lib.hid HG4
                  replace c67 := Lib.hid c67
                  clear c7
                  go_wp2_with fail
                  refine HG4.out.mono ?_
                  rintro e w8 ⟨rfl, c8⟩
                  have c68 := Lib.hid (c67.out.trans (c8.mono c67.out.size))
                  have HA := Lib.hid (awake_any w8)
                  clear c8
                  go_wp2_with fail
                  refine HA.out.mono ?_
                  rintro e w9 ⟨rfl, c9⟩
                  replace c9 := Lib.hid c9
                  go_wp2
                  go_ret
                  have hz1 := hb3.out
                  have hz2 : Below w.heap.size w w3 := hbW0.out _ hz1
                  have hz3 : Below w.heap.size w w8 := hz2.trans (c68.out.mono hz2.size)
                  exact ⟨rfl, hz3.trans (c9.out.mono hz3.size)⟩
              | true =>
                have e1 := end_found (H := H) (by rw [HN.out]; exact h8) true hKE.out joinS_xy join_xy
                have e2 := end_found (H := H) (by rw [HN.out]; exact h8) true hKE.out joinS_zxy join_zxy
                have e3 := end_none (H := H) (by rw [HN.out]; exact h8) true hKE.out
                rw [HN.out] at e1 e2 e3
                rw [show wantB H true true = sSrcY from rfl] at e1 e2
                have G1 := fun (W0 : World) (hW0 : Below w3.heap.size w3 W0) => find_any W0 (hf3.out.moved hW0) hDb sSrcA nXy (by decide) (by decide) true sSrc hd0.out (by decide)
                have G2 := fun (W0 : World) (hW0 : Below w3.heap.size w3 W0) => find_any W0 (hf3.out.moved hW0) hDb sSrcA nZxy (by decide) (by decide) true sSrc hd0.out (by decide)
                have G3 := fun (W0 : World) (hW0 : Below w3.heap.size w3 W0) => find_any W0 (hf3.out.moved hW0) hDb sSrcA nY (by decide) (by decide) true sSrc hd0.out (by decide)
                rw [e1] at G1
                rw [e2] at G2
                rw [e3] at G3
                clear e1 e2 e3
                have HG3 := Lib.hid G3
                clear G3
                rw [if_neg (by decide)] at G1 G2
                unfold findV at G1 G2
                have HG1 := Lib.hid (G1 _ (Below.refl _ _))
                replace G2 := Lib.hid G2
                clear G1
                go_wp2_with fail
                refine HG1.out.mono ?_
                rintro e w6 ⟨rfl, c6⟩
                have HG2 := Lib.hid (G2.out w6 c6)
                replace c6 := Lib.hid c6
                go_wp2_with fail
                refine HG2.out.mono ?_
                rintro e w7 ⟨rfl, c7⟩
                have c67 := c6.out.trans (c7.mono c6.out.size)
                have HG4 := HG3.out w7 c67
                unfold findV at HG4
                replace HG4 := Lib.hid HG4
                replace c67 := Lib.hid c67
                clear c7
                go_wp2_with fail
                refine HG4.out.mono ?_
                rintro e w8 ⟨rfl, c8⟩
                have c68 := Lib.hid (c67.out.trans (c8.mono c67.out.size))
                have HA := Lib.hid (awake_any w8)
                clear c8
                go_wp2_with fail
                refine HA.out.mono ?_
                rintro e w9 ⟨rfl, c9⟩
                replace c9 := Lib.hid c9
                go_wp2
                go_ret
                have hz1 := hb3.out
                have hz2 : Below w.heap.size w w3 := hbW0.out _ hz1
                have hz3 : Below w.heap.size w w8 := hz2.trans (c68.out.mono hz2.size)
                exact ⟨rfl, hz3.trans (c9.out.mono hz3.size)⟩
  · have h8' : (8 : Int) < (n : Int) := by omega
    have HA := Lib.hid (awake_any w)
    go_enter Tryd.func4, Tryd.ntmps4
    go_wp2_with fail
    refine HA.out.mono ?_
    rintro e w' ⟨rfl, hb⟩
    replace hb := Lib.hid hb
    go_wp2
    go_ret
    exact ⟨rfl, hb.out⟩
end Go.Proofs.YtekbilieddficaaDoor
