/- Cells made of one another: the maker. -/
import Derived.Test.YtcfadekcdcphnaaCe8
namespace Go.Proofs.Ytcfadekcdcphnaa
open Go.RowKit
set_option linter.unusedVariables false

set_option maxRecDepth 100000 in
theorem chain1_zero {N n : Nat} {c v a : Addr} {x : Int} (w : World) (hx : 0 ≤ x) (hx2 : x ≤ 1000) (hn : 0 < n) (hc : w.cell? c = some (.slice (some ⟨N, 0, none⟩) n n)) (hv : w.cell? v = some (.int .i64 0)) (h0 : w.cell? ⟨N, 0, none⟩ = some (.int .i64 x)) (hz : w.frozen? ⟨N, 0, none⟩ = false)
    (hv2 : (w.setCell ⟨N, 0, none⟩ (.int .i64 (x + 1))).cell? v = some (.int .i64 0)) :
    Calls Try.prog 18 #[.pointer (some c), .pointer (some v), .pointer (some a)] w fun e w' => e = .returned (.string ⟨#[46]⟩) ∧ w' = w.setCell ⟨N, 0, none⟩ (.int .i64 (x + 1)) := by
  have g1 : IntKind.i64.wrap (x + 1) = x + 1 := IntWalk.i64_in _ (by omega)
  have hn' : (0 : Int) < (n : Int) := by omega
  go_enter Try.func18, Try.ntmps18
  go_wp2
  go_ret
  exact ⟨rfl, rfl⟩

set_option maxRecDepth 100000 in
theorem chain1_succ {N M n j : Nat} {c v a g : Addr} {x : Int} {Q : World → Prop} {s : ByteArray} (w : World) (hx : 0 ≤ x) (hx2 : x ≤ 1000) (hn : j + 1 < n) (hn2 : n ≤ 1000) (hs : s.size ≤ 1000)
    (hc : w.cell? c = some (.slice (some ⟨N, 0, none⟩) n n)) (hv : w.cell? v = some (.int .i64 ((j : Int) + 1))) (h0 : w.cell? ⟨N, j + 1, none⟩ = some (.int .i64 x)) (hz : w.frozen? ⟨N, j + 1, none⟩ = false)
    (hv2 : (w.setCell ⟨N, j + 1, none⟩ (.int .i64 (x + 1))).cell? v = some (.int .i64 ((j : Int) + 1))) (ha : (w.setCell ⟨N, j + 1, none⟩ (.int .i64 (x + 1))).cell? a = some (.slice (some ⟨M, 0, none⟩) n n))
    (hp : (w.setCell ⟨N, j + 1, none⟩ (.int .i64 (x + 1))).cell? ⟨M, j, none⟩ = some (.pointer (some g)))
    (HG : Calls Try.prog 12 #[.pointer (some g)] (w.setCell ⟨N, j + 1, none⟩ (.int .i64 (x + 1))) fun e w' => e = .returned (.string s) ∧ Q w') :
    Calls Try.prog 18 #[.pointer (some c), .pointer (some v), .pointer (some a)] w fun e w' => e = .returned (.string (s ++ ⟨#[46]⟩)) ∧ Q w' := by
  have g1 : IntKind.i64.wrap (x + 1) = x + 1 := IntWalk.i64_in _ (by omega)
  have hn' : (j : Int) + 1 < (n : Int) := by omega
  have hn3 : (j : Int) < (n : Int) := by omega
  have e1 : ((j : Int) + 1).toNat = j + 1 := by omega
  have e2 : (j : Int) + 1 - 1 = (j : Int) := by omega
  have hsz : s.size + (⟨#[46]⟩ : ByteArray).size ≤ 9223372036854775807 := by show s.size + 1 ≤ _; omega
  replace HG := Lib.hid HG
  go_enter Try.func18, Try.ntmps18
  go_wp2_with fail
  refine HG.out.mono ?_
  rintro e w1 ⟨rfl, hq⟩
  replace hq := Lib.hid hq
  go_wp2
  go_ret
  exact ⟨rfl, hq.out⟩
end Go.Proofs.Ytcfadekcdcphnaa
