/- Meters: atomic pointers. -/
import Derived.Test.YtcfadekcdcphnaaCe2
namespace Go.Proofs.Ytcfadekcdcphnaa
open Go.RowKit
set_option linter.unusedVariables false

section
variable {P : Program} {f : Nat} {fn : Func}
/-- sync/atomic.LoadPointer: what the cell holds. -/
theorem run_call_loadP (hf : P.funcs[f]? = some fn) (hname : (fn.name == "runtime.NumGoroutine") = false) (hb : fn.body.isNone = true) (hn : Extern.findNext fn = none)
    (he : Extern.find fn = some (Extern.Atomic.loadT .ptr)) {a : Addr} {x : Option Addr} {w : World} (hc : w.cell? a = some (.pointer x)) :
    (callFunc f #[.pointer (some a)]).run P w = .ok (.value (.pointer x)) w := by
  rw [run_callFunc_extern hf hname hb hn he]
  change (Sem.run P (do Extern.Atomic.read .ptr (← asAddr (.pointer (some a)))) w).andThen _ = _
  simp [Extern.Atomic.read, asAddr, hc, Result.andThen]

theorem samePointer_self (x : Option Addr) (w : World) : (samePointer x x).run P w = .ok true w := by
  cases x with
  | none => simp [samePointer]
  | some a => simp [samePointer, run_sameAddr_same]

/-- sync/atomic.CompareAndSwapPointer where the cell holds 'old': 'new' is stored; true. -/
theorem run_call_casP_hit (hf : P.funcs[f]? = some fn) (hname : (fn.name == "runtime.NumGoroutine") = false) (hb : fn.body.isNone = true) (hn : Extern.findNext fn = none)
    (he : Extern.find fn = some (Extern.Atomic.casT .ptr)) {a : Addr} {x y : Option Addr} {w : World} (hc : w.cell? a = some (.pointer x)) (hz : w.frozen? a = false) :
    (callFunc f #[.pointer (some a), .pointer x, .pointer y]).run P w = .ok (.value (.bool true)) (w.setCell a (.pointer y)) := by
  rw [run_callFunc_extern hf hname hb hn he]
  change (Sem.run P (do
    let a' ← asAddr (.pointer (some a))
    if ← Extern.Atomic.touchesFrozen a' then unsupported (.unsafePointer "a write to bytes that a string shares")
    let eq ← match Extern.Atomic.T.ptr, ← Extern.Atomic.read .ptr a', Value.pointer x with
      | _, .int _ x, .int _ y => pure (x == y)
      | .ptr, .pointer x, .pointer y => samePointer x y
      | .int _, .pointer (some _), .int _ 0 | .int _, .int _ 0, .pointer (some _) => pure false
      | .int _, .pointer (some _), _ | .int _, _, .pointer (some _) => unsupported .addressObserved
      | _, _, _ => stuck "atomic.CompareAndSwap: old is no T"
    if eq then store a' (.pointer y) .atomic
    pure (Value.bool eq)) w).andThen _ = _
  simp [Extern.Atomic.touchesFrozen, Extern.Atomic.read, asAddr, viewAt, World.shape?_isSome_of_cell? hc, hc, hz, samePointer_self, run_store P w a (.pointer y) .atomic rfl, Result.andThen]

/-- sync/atomic.SwapPointer -/
theorem run_call_swapP (hf : P.funcs[f]? = some fn) (hname : (fn.name == "runtime.NumGoroutine") = false) (hb : fn.body.isNone = true) (hn : Extern.findNext fn = none)
    (he : Extern.find fn = some (Extern.Atomic.swapT .ptr)) {a : Addr} {x y : Option Addr} {w : World} (hc : w.cell? a = some (.pointer x)) (hz : w.frozen? a = false) :
    (callFunc f #[.pointer (some a), .pointer y]).run P w = .ok (.value (.pointer x)) (w.setCell a (.pointer y)) := by
  rw [run_callFunc_extern hf hname hb hn he]
  change (Sem.run P (do
    let a' ← asAddr (.pointer (some a))
    let old ← Extern.Atomic.read .ptr a'
    store a' (.pointer y) .atomic
    pure old) w).andThen _ = _
  simp [Extern.Atomic.read, asAddr, hc, hz, run_store P w a (.pointer y) .atomic rfl, Result.andThen]
end

/-- where a pointer to a map may point: nowhere, or at a variable that holds one -/
def PtrOk (w : World) (p : Option Addr) : Prop := p = none ∨ ∃ b v, p = some ⟨b, 0, none⟩ ∧ w.heap[b]? = some (.cells #[v] 66 (0, 0))

theorem to_unsafe {w : World} {p : Option Addr} (h : PtrOk w p) : (convert 58 60 (.pointer p)).run Try.prog w = .ok (.pointer p) w := by
  rcases h with rfl | ⟨b, v, rfl, h⟩
  · simp [convert, Conv.unsafePointer, run_underlying Try.underlying58, run_underlying Try.underlying60]
  · exact run_convert_to_unsafe (P := Try.prog) Try.underlying58 Try.underlying60 (by kernel_rfl) (Lib.cell_of_heap h 0)

theorem from_unsafe {w : World} {p : Option Addr} (h : PtrOk w p) : (convert 60 58 (.pointer p)).run Try.prog w = .ok (.pointer p) w := by
  rcases h with rfl | ⟨b, v, rfl, h⟩
  · simp [convert, Conv.unsafePointer, run_underlying Try.underlying58, run_underlying Try.underlying60]
  · have hsh : w.shape? b = some (66, 1) := by simp [World.shape?, h]
    obtain ⟨j, hj⟩ : ∃ j, Try.prog.info? 66 = some j := Option.isSome_iff_exists.1 (by kernel_rfl)
    exact Lib.run_from_unsafe (P := Try.prog) w ⟨b, 0, none⟩ Try.underlying60 Try.underlying58 hj hsh (by kernel_rfl)

theorem ptr_load {g : Nat} {p : Option Addr} (w : World) (hc : w.cell? ⟨g, 0, none⟩ = some (.pointer p)) (hp : PtrOk w p) : Calls Try.prog 38 #[.pointer (some ⟨g, 0, none⟩)] w fun e w' => e = .returned (.pointer p) ∧ w' = w := by
  have hl := run_call_loadP (P := Try.prog) Try.func46 (by kernel_rfl) (by kernel_rfl) (by kernel_rfl) (by kernel_rfl) hc
  have hf := from_unsafe hp
  replace hp := Lib.hid hp
  go_enter Try.func38, Try.ntmps38
  go_wp2
  go_ret
  exact ⟨rfl, rfl⟩

theorem ptr_cas {g : Nat} {p q : Option Addr} (w : World) (hc : w.cell? ⟨g, 0, none⟩ = some (.pointer p)) (hz : w.frozen? ⟨g, 0, none⟩ = false) (hp : PtrOk w p) (hq : PtrOk w q) :
    Calls Try.prog 29 #[.pointer (some ⟨g, 0, none⟩), .pointer p, .pointer q] w fun e w' => e = .returned (.bool true) ∧ w' = w.setCell ⟨g, 0, none⟩ (.pointer q) := by
  have hl := run_call_casP_hit (P := Try.prog) Try.func40 (by kernel_rfl) (by kernel_rfl) (by kernel_rfl) (by kernel_rfl) (y := q) hc hz
  have h1 := to_unsafe hp
  have h2 := to_unsafe hq
  replace hp := Lib.hid hp
  replace hq := Lib.hid hq
  go_enter Try.func29, Try.ntmps29
  go_wp2
  go_ret
  exact ⟨rfl, rfl⟩

theorem ptr_swap {g : Nat} {p q : Option Addr} (w : World) (hc : w.cell? ⟨g, 0, none⟩ = some (.pointer p)) (hz : w.frozen? ⟨g, 0, none⟩ = false) (hp : PtrOk w p) (hq : PtrOk w q) (hk : PtrOk (w.setCell ⟨g, 0, none⟩ (.pointer q)) p) :
    Calls Try.prog 24 #[.pointer (some ⟨g, 0, none⟩), .pointer q] w fun e w' => e = .returned (.pointer p) ∧ w' = w.setCell ⟨g, 0, none⟩ (.pointer q) := by
  have hl := run_call_swapP (P := Try.prog) Try.func34 (by kernel_rfl) (by kernel_rfl) (by kernel_rfl) (by kernel_rfl) (y := q) hc hz
  have h1 := to_unsafe hq
  have h2 := from_unsafe hk
  replace hp := Lib.hid hp
  replace hq := Lib.hid hq
  replace hk := Lib.hid hk
  go_enter Try.func24, Try.ntmps24
  go_wp2
  go_ret
  exact ⟨rfl, rfl⟩
end Go.Proofs.Ytcfadekcdcphnaa
