/- Texts of this seat's proofs, laid into one file. -/
import Derived.Test.YtllbbacnakoomaaGreatDoorD3
import Derived.Test.YtllbbacnakoomaaGreatDoorD13
import Derived.Deep.RegionWith
set_option maxRecDepth 100000
set_option maxHeartbeats 16000000
namespace Go.Proofs.YtllbbacnakoomaaGreatDoor
def declareFormsL : List (List UInt8) := [([59] : List UInt8), ([97,59] : List UInt8), ([123,32,125] : List UInt8), ([123,32,97,59,32,59,32,125] : List UInt8), ([120,58,32,97,59] : List UInt8), ([99,97,115,101,32,49,58,32,97,59] : List UInt8), ([100,101,102,97,117,108,116,58,32,59] : List UInt8), ([105,102,32,40,97,41,32,98,59] : List UInt8), ([115,119,105,116,99,104,32,40,97,41,32,98,59] : List UInt8), ([119,104,105,108,101,32,40,97,41,32,59] : List UInt8), ([100,111,32,97,59,32,119,104,105,108,101,32,40,98,41,59] : List UInt8), ([102,111,114,32,40,97,59,32,98,59,32,99,41,32,100,59] : List UInt8), ([102,111,114,32,40,105,110,116,32,105,32,61,32,48,59,59,41,32,59] : List UInt8), ([103,111,116,111,32,120,59] : List UInt8), ([99,111,110,116,105,110,117,101,59] : List UInt8), ([98,114,101,97,107,59] : List UInt8), ([114,101,116,117,114,110,59] : List UInt8), ([114,101,116,117,114,110,32,97,44,32,98,59] : List UInt8), ([123,32,105,110,116,32,97,59,32,125] : List UInt8), ([123,32,105,110,116,32,97,32,61,32,49,44,32,42,98,59,32,125] : List UInt8), ([123,32,105,110,116,32,97,91,93,32,61,32,123,32,91,49,93,32,61,32,50,44,32,46,120,32,61,32,123,32,51,32,125,32,125,59,32,125] : List UInt8), ([123,32,115,116,114,117,99,116,32,83,32,123,32,105,110,116,32,97,32,58,32,51,44,32,58,32,48,59,32,125,32,115,59,32,125] : List UInt8), ([123,32,101,110,117,109,32,69,32,123,32,65,32,125,32,101,59,32,125] : List UInt8), ([123,32,95,83,116,97,116,105,99,95,97,115,115,101,114,116,40,49,44,32,34,109,34,41,59,32,125] : List UInt8), ([123,32,115,116,97,116,105,99,32,99,111,110,115,116,32,105,110,116,32,120,59,32,125] : List UInt8)]
def declareFormsW : List (List UInt8) := [([40,101,109,112,116,121,41] : List UInt8), ([40,101,120,112,114,32,40,110,97,109,101,32,97,41,41] : List UInt8), ([40,98,108,111,99,107,41] : List UInt8), ([40,98,108,111,99,107,32,40,101,120,112,114,32,40,110,97,109,101,32,97,41,41,32,40,101,109,112,116,121,41,41] : List UInt8), ([40,108,97,98,101,108,32,120,32,40,101,120,112,114,32,40,110,97,109,101,32,97,41,41,41] : List UInt8), ([40,99,97,115,101,32,40,105,110,116,32,49,41,32,40,101,120,112,114,32,40,110,97,109,101,32,97,41,41,41] : List UInt8), ([40,100,101,102,97,117,108,116,32,40,101,109,112,116,121,41,41] : List UInt8), ([40,105,102,32,40,110,97,109,101,32,97,41,32,40,101,120,112,114,32,40,110,97,109,101,32,98,41,41,41] : List UInt8), ([40,115,119,105,116,99,104,32,40,110,97,109,101,32,97,41,32,40,101,120,112,114,32,40,110,97,109,101,32,98,41,41,41] : List UInt8), ([40,119,104,105,108,101,32,40,110,97,109,101,32,97,41,32,40,101,109,112,116,121,41,41] : List UInt8), ([40,100,111,32,40,101,120,112,114,32,40,110,97,109,101,32,97,41,41,32,40,110,97,109,101,32,98,41,41] : List UInt8), ([40,102,111,114,32,40,110,97,109,101,32,97,41,32,40,110,97,109,101,32,98,41,32,40,110,97,109,101,32,99,41,32,40,101,120,112,114,32,40,110,97,109,101,32,100,41,41,41] : List UInt8), ([40,102,111,114,32,40,100,101,99,108,97,114,101,32,40,115,112,101,99,115,32,40,116,121,112,101,32,105,110,116,41,41,32,40,105,110,105,116,32,40,110,97,109,101,32,105,41,32,40,105,110,116,32,48,41,41,41,32,40,110,111,110,101,41,32,40,110,111,110,101,41,32,40,101,109,112,116,121,41,41] : List UInt8), ([40,103,111,116,111,32,120,41] : List UInt8), ([40,99,111,110,116,105,110,117,101,41] : List UInt8), ([40,98,114,101,97,107,41] : List UInt8), ([40,114,101,116,117,114,110,41] : List UInt8), ([40,114,101,116,117,114,110,32,40,99,111,109,109,97,32,40,110,97,109,101,32,97,41,32,40,110,97,109,101,32,98,41,41,41] : List UInt8), ([40,98,108,111,99,107,32,40,100,101,99,108,97,114,101,32,40,115,112,101,99,115,32,40,116,121,112,101,32,105,110,116,41,41,32,40,110,97,109,101,32,97,41,41,41] : List UInt8), ([40,98,108,111,99,107,32,40,100,101,99,108,97,114,101,32,40,115,112,101,99,115,32,40,116,121,112,101,32,105,110,116,41,41,32,40,105,110,105,116,32,40,110,97,109,101,32,97,41,32,40,105,110,116,32,49,41,41,32,40,112,111,105,110,116,101,114,32,40,110,97,109,101,32,98,41,41,41,41] : List UInt8), ([40,98,108,111,99,107,32,40,100,101,99,108,97,114,101,32,40,115,112,101,99,115,32,40,116,121,112,101,32,105,110,116,41,41,32,40,105,110,105,116,32,40,97,114,114,97,121,32,40,110,97,109,101,32,97,41,41,32,40,105,110,105,116,115,32,40,97,116,32,40,105,110,100,101,120,32,40,105,110,116,32,49,41,41,32,40,105,110,116,32,50,41,41,32,40,97,116,32,40,102,105,101,108,100,32,120,41,32,40,105,110,105,116,115,32,40,105,110,116,32,51,41,41,41,41,41,41,41] : List UInt8), ([40,98,108,111,99,107,32,40,100,101,99,108,97,114,101,32,40,115,112,101,99,115,32,40,115,116,114,117,99,116,32,83,32,40,109,101,109,98,101,114,32,40,115,112,101,99,115,32,40,116,121,112,101,32,105,110,116,41,41,32,40,98,105,116,115,32,40,110,97,109,101,32,97,41,32,40,105,110,116,32,51,41,41,32,40,98,105,116,115,32,40,105,110,116,32,48,41,41,41,41,41,32,40,110,97,109,101,32,115,41,41,41] : List UInt8), ([40,98,108,111,99,107,32,40,100,101,99,108,97,114,101,32,40,115,112,101,99,115,32,40,101,110,117,109,32,69,32,40,101,110,117,109,101,114,97,116,111,114,32,65,41,41,41,32,40,110,97,109,101,32,101,41,41,41] : List UInt8), ([40,98,108,111,99,107,32,40,97,115,115,101,114,116,32,40,105,110,116,32,49,41,32,40,115,116,114,105,110,103,32,34,109,34,41,41,41] : List UInt8), ([40,98,108,111,99,107,32,40,100,101,99,108,97,114,101,32,40,115,112,101,99,115,32,40,115,116,111,114,97,103,101,32,115,116,97,116,105,99,41,32,40,113,117,97,108,105,102,105,101,114,32,99,111,110,115,116,41,32,40,116,121,112,101,32,105,110,116,41,41,32,40,110,97,109,101,32,120,41,41,41] : List UInt8)]
theorem dforms_all : ((declareFormsL.zip declareFormsW).all fun p => writB p.1 [] p.2) = true := by kernel_rfl
end Go.Proofs.YtllbbacnakoomaaGreatDoor
namespace Go.Proofs.YtllbbacnakoomaaGreatDoor
open Go.RowKit
set_option linter.unusedVariables false
theorem declareForms_walk (k : Int) (w0 : (Lit.int .i64 k).wf = true) (w : World) (hsp : SpTab w) :
 Calls Tryz.prog 10 #[.int .i64 k] w fun e w' => e = .returned (.bool true) ∧ Below w.heap.size w w' := by
 obtain ⟨i, hi, he, hr1, hr2⟩ := tmod_at k 25 (by omega)
 have hA := Hd (fun (y : World) (hy : Below w.heap.size w y) => awake21_any y (hsp.below hy))
 have g : IntKind.i64.wrap (k.tmod 25 + 25) = k.tmod 25 + 25 := IntWalk.i64_in _ (by simp only [Int.cast_ofNat_Int] at hr1 hr2; omega)
 have he' : (k.tmod 25 + 25).tmod 25 = (i : Int) := he
 go_enter Tryz.func10, Tryz.ntmps10
 go_upto_region 4 with fail
 refine wp_world fun W hW => ?_
 have hx : ∀ l, declareFormsL[i]? = some l → W.cell? ⟨w.heap.size, i, none⟩ = some (.string ⟨l.toArray⟩) := fun l hl => by
  have h1 : W.heap[w.heap.size]? = some (.cells (declareFormsL.map fun l => Value.string ⟨l.toArray⟩).toArray 9 (0,0)) := by
   rw [hW]; exact (heap_alloc_old _ _ (by simp)).trans (heap_alloc_new _ _)
  rw [Lib.cell_of_heap h1]
  simp [hl]
 have hy : ∀ l, declareFormsW[i]? = some l → W.cell? ⟨w.heap.size + 1, i, none⟩ = some (.string ⟨l.toArray⟩) := fun l hl => by
  have h1 : W.heap[w.heap.size + 1]? = some (.cells (declareFormsW.map fun l => Value.string ⟨l.toArray⟩).toArray 9 (0,0)) := by
   rw [hW]; exact heap_alloc2_new _ _ _
  rw [Lib.cell_of_heap h1]
  simp [hl]
 have hbW : Below w.heap.size w W := by rw [hW]; exact ((Below.refl _ _).alloc (Nat.le_refl _) _).alloc (by simp) _
 obtain ⟨a, ha⟩ : ∃ a, declareFormsL[i]? = some a := ⟨declareFormsL[i]'(by show i < 25; exact hi), by simp⟩
 obtain ⟨o, ho⟩ : ∃ o, declareFormsW[i]? = some o := ⟨declareFormsW[i]'(by show i < 25; exact hi), by simp⟩
 have hz : (declareFormsL.zip declareFormsW)[i]? = some (a, o) := by rw [List.getElem?_zip_eq_some]; exact ⟨ha, ho⟩
 have hwr : writS a [] = some o := by
  exact writB_of (List.all_eq_true.1 dforms_all (a, o) (List.mem_of_getElem? hz))
 have hal : a.length ≤ 1900 := by
  have h : (declareFormsL.all fun l => decide (l.length ≤ 1900)) = true := by kernel_rfl
  simpa using List.all_eq_true.1 h a (List.mem_of_getElem? ha)
 have hol : o.length ≤ 1000000 := by
  have h : (declareFormsW.all fun l => decide (l.length ≤ 1000000)) = true := by kernel_rfl
  simpa using List.all_eq_true.1 h o (List.mem_of_getElem? ho)
 have HR := wr21 hsp ⟨a.toArray⟩ (by show a.toArray.size ≤ _; simpa using hal) o hwr hol
 replace hx := hx a ha
 replace hy := hy o ho
 obtain ⟨AB, hAB⟩ : ∃ AB : ByteArray, AB = ⟨a.toArray⟩ := ⟨_, rfl⟩
 obtain ⟨OB, hOB⟩ : ∃ OB : ByteArray, OB = ⟨o.toArray⟩ := ⟨_, rfl⟩
 rw [← hAB] at HR hx
 simp only [← hOB] at HR
 rw [← hOB] at hy
 have HR := Hd HR
 have hdW : Below W.heap.size W W.drew := (Below.refl _ W).drew
 have hbD : Hid (Below w.heap.size w W.drew) := Hd (hbW.trans (hdW.mono hbW.size))
 have hbW := Hd hbW
 have hK : Hid (∀ y, Below W.drew.heap.size W.drew y → y.cell? ⟨w.heap.size + 1, i, none⟩ = some (.string OB)) := Hd fun y h => kept_cell (hdW.trans (h.mono hdW.size)) hy
 clear hW ha ho hz hwr hal hol hAB hOB he hsp g he'
 go_region_with (first
  | (go_at_call 31; (with_reducible refine (HR.out _ hbD.out).mono ?_); rintro e w2 ⟨rfl, hb2⟩; have hb3 := Hd (hbD.out.trans (hb2.mono hbD.out.size)); have hy2 := hK.out _ hb2; clear hb2)
  | (go_at_call 30; (with_reducible refine (hA.out _ hb3.out).mono ?_); rintro e w3 ⟨rfl, hb4⟩))
 all_goals
  go_wp2
  go_ret
  exact ⟨rfl, hb3.out.trans (hb4.mono hb3.out.size)⟩
end Go.Proofs.YtllbbacnakoomaaGreatDoor
