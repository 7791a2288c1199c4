/- CellOnce: the maker. -/
import Derived.Test.YtcfadekcdcphnaaCe8
import Derived.Test.YtcfadekcdcphnaaAlike
namespace Go.Proofs.Ytcfadekcdcphnaa
open Go.RowKit
set_option linter.unusedVariables false

theorem conv_one (w : World) : (convert 29 9 (.slice (some ⟨w.heap.size, 0, none⟩) 1 1)).run Try.prog (w.alloc (.cells #[.int .u8 49] 5)).drew = .ok (.string ⟨#[49]⟩) (w.alloc (.cells #[.int .u8 49] 5)).drew :=
  run_convert_bytes_back (P := Try.prog) (w.alloc (.cells #[.int .u8 49] 5)).drew 29 9 5 ⟨w.heap.size, 0, none⟩ 1 [49] Try.underlying29 Try.underlying5 Try.underlying9 (by
    intro j hj
    obtain rfl : j = 0 := by simpa using hj
    exact Lib.cell_of_heap (heap_alloc_new w (.cells #[.int .u8 49] 5)) 0)

set_option maxRecDepth 100000 in
set_option maxHeartbeats 4000000 in
theorem once1_any {C n j tb to tc : Nat} {c v b : Addr} {s : ByteArray} (w W1 : World) (hn : j < n) (hn2 : n ≤ 1000) (hs : s.size ≤ 1000)
    (hW : W1 = w.setCell ⟨C, j, none⟩ (.int .i64 1)) (hc : w.cell? c = some (.slice (some ⟨C, 0, none⟩) n n)) (hv : w.cell? v = some (.int .i64 j)) (h0 : w.cell? ⟨C, j, none⟩ = some (.int .i64 0)) (hz : w.frozen? ⟨C, j, none⟩ = false)
    (hc2 : W1.cell? c = some (.slice (some ⟨C, 0, none⟩) n n)) (hv2 : W1.cell? v = some (.int .i64 j)) (hb2 : W1.cell? b = some (.slice (some ⟨tb, to, none⟩) n tc)) (h02 : W1.cell? ⟨C, j, none⟩ = some (.int .i64 1)) (ht : W1.cell? ⟨tb, to + j, none⟩ = some (.string s)) :
    Calls Try.prog 9 #[.pointer (some c), .pointer (some v), .pointer (some b)] w fun e w' => e = .returned (.string (s ++ ⟨#[49]⟩)) ∧ Below W1.heap.size W1 w' := by
  have hn' : (j : Int) < (n : Int) := by omega
  have hsz : s.size + (⟨#[49]⟩ : ByteArray).size ≤ 9223372036854775807 := by show s.size + 1 ≤ _; omega
  go_enter Try.func9, Try.ntmps9
  go_wp2_with fail
  rw [← hW]
  replace hW := Lib.hid hW
  clear hc hv h0 hz
  have hcv := conv_one W1
  have hA : Below W1.heap.size W1 (W1.alloc (.cells #[.int .u8 49] 5)) := (Below.refl _ W1).alloc (Nat.le_refl _) _
  have c1 := kept_cell hA hc2
  have c2 := kept_cell hA hv2
  have c3 := kept_cell hA hb2
  have c4 := kept_cell hA h02
  have c5 := kept_cell hA ht
  go_region
  all_goals
    go_wp2
    go_ret
    exact ⟨rfl, ((Below.refl _ W1).alloc (Nat.le_refl _) _).drew⟩
end Go.Proofs.Ytcfadekcdcphnaa
