/- oxbowalike.Round. -/
import Derived.Test.YtekbilieddficaaDoorBase
namespace Go.Proofs.YtekbilieddficaaDoor
open Go.RowKit
set_option linter.unusedVariables false

def rndX (a n : Int) : Int := (a.tmod n + n).tmod n
theorem rndX_range (a n : Int) (h0 : 0 < n) : 0 ≤ rndX a n ∧ rndX a n < n := by
  have h2 : -n < a.tmod n := Int.lt_tmod_of_pos a h0
  unfold rndX
  rw [Int.tmod_eq_emod_of_nonneg (by omega)]
  exact ⟨Int.emod_nonneg _ (by omega), Int.emod_lt_of_pos _ h0⟩

set_option maxRecDepth 100000 in
theorem roundX_any (a n : Int) (h0 : 0 < n) (h1 : n ≤ 1000000) (ha : -9223372036854775808 ≤ a ∧ a ≤ 9223372036854775807) (w : World) :
    Calls Tryd.prog 16 #[.int .i64 a, .int .i64 n] w fun e w' => e = .returned (.int .i64 (rndX a n)) ∧ w' = w := by
  have hr := rndX_range a n h0
  have h2 : -n < a.tmod n := Int.lt_tmod_of_pos a h0
  have h3 : a.tmod n < n := Int.tmod_lt_of_pos a h0
  have HQ : Hid (rndX a n = (a.tmod n + n) % n) := Lib.hid (Int.tmod_eq_emod_of_nonneg (by omega))
  go_enter Tryd.func16, Tryd.ntmps16
  go_wp2
  go_ret
  exact ⟨by rw [HQ.out]; rfl, rfl⟩
end Go.Proofs.YtekbilieddficaaDoor
