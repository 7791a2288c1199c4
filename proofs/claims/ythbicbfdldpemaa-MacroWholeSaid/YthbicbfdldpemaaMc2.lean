/- macro's Of, Parse's failure, and its parameters. -/
import Derived.Test.YthbicbfdldpemaaMc1
import Derived.Deep.RegionLaw
namespace Go.Proofs.Ythbicbfdldpemaa
open Go.RowKit
set_option linter.unusedVariables false

set_option maxRecDepth 100000 in
theorem mOf_any (t : Tm) (v : Value) (b : Nat) (name : ByteArray) (fn va : Bool) (body : Value) (file : ByteArray) (f tt : Int) (ps : List ByteArray) (ao : Option Addr) (cap : Nat) (fz : Nat × Nat) (hn : ps.length ≤ 1000000000) (w : World) (hrow : Row w 1 ao (ps.map fun p => [.string p]))
    (hb : w.heap[b]? = some (.cells (mcC name fn va (.slice ao ps.length cap) body file f tt).toArray 29 fz)) :
    Calls Try.prog 73 #[.pointer (some ⟨b, 0, none⟩), .agg (tmC t v).toArray] w fun e w' => e = .returned (.int .i64 (ofP fn ps t)) ∧ Below w.heap.size w w' := by
  have HI := fun x w' (h : Below w.heap.size w w') => mParam_any name fn va body file f tt ps ao cap x hn w' (hrow.below h)
  obtain ⟨d0, d1, d2, d3, d4, d5, d6, d7⟩ := cells8 hb
  unfold ofP
  obtain ⟨n, hnn⟩ : ∃ n, n = ps.length := ⟨_, rfl⟩
  rw [← hnn] at HI d3
  unfold mcC at HI
  replace HI := Lib.hid HI
  have ho : ∀ o, Below w.heap.size w (w.alloc o) := fun o => (Below.refl _ w).alloc (Nat.le_refl _) o
  have e0 := fun o => kept_cell (ho o) d0
  have e1 := fun o => kept_cell (ho o) d1
  have e2 := fun o => kept_cell (ho o) d2
  have e3 := fun o => kept_cell (ho o) d3
  have e4 := fun o => kept_cell (ho o) d4
  have e5 := fun o => kept_cell (ho o) d5
  have e6 := fun o => kept_cell (ho o) d6
  have e7 := fun o => kept_cell (ho o) d7
  clear hn hrow hnn hb
  obtain ⟨k, hk⟩ : ∃ k, k = t.kind := ⟨_, rfl⟩
  unfold tmC
  rw [← hk]
  replace hk := Lib.hid hk
  go_enter Try.func73, Try.ntmps73
  cases fn with
  | false =>
    go_wp2
    go_ret
    exact ⟨by simp, ho _⟩
  | true =>
    by_cases h1 : k = 1
    · subst h1
      go_wp2_with fail
      go_region_law (go_simp; go_at_call 20; refine (HI.out _ _ ((ho _).drew)).mono ?_; rintro e w1 ⟨rfl, hb1⟩)
      all_goals
        go_wp2
        go_ret
        exact ⟨by simp, (ho _).drew.trans (hb1.mono (by simp))⟩
    · have hb : (k == 1) = false := by simpa using h1
      go_wp2
      go_ret
      exact ⟨by simp, ho _⟩

def dgV (code : Int) (file : ByteArray) (f t : Int) : List Value := [.int .i64 code, .string file, .int .i64 f, .int .i64 t]

set_option maxRecDepth 100000 in
theorem mFails_any (code : Int) (file : ByteArray) (f t : Int) (w : World) :
    Calls Try.prog 40 #[.int .i64 code, .agg #[.string file, .int .i64 f, .int .i64 t]] w fun e w' => ∃ vd, e = .returned (.tuple #[.agg (mcC .empty false false (.slice none 0 0) (.slice none 0 0) .empty 0 0).toArray, vd]) ∧ Own w' w.heap.size 38 4 vd [dgV code file f t] ∧ Below w.heap.size w w' := by
  go_enter Try.func40, Try.ntmps40
  go_wp2_with fail
  go_region
  go_wp2
  have hm : (((w.alloc (.cells #[.string file, .int .i64 f, .int .i64 t] 27)).alloc (.cells #[.string ⟨#[]⟩, .bool false, .bool false, .slice none 0 0, .slice none 0 0, .string ⟨#[]⟩, .int .i64 0, .int .i64 0] 29)).alloc (.cells #[.int .i64 code, .string file, .int .i64 f, .int .i64 t] 38)).drew.heap[w.heap.size + 1]? = some (.cells #[.string ⟨#[]⟩, .bool false, .bool false, .slice none 0 0, .slice none 0 0, .string ⟨#[]⟩, .int .i64 0, .int .i64 0] 29 (0, 0)) := by
    refine (Lib.alloc_old _ _ _ (by simp)).trans ?_
    have := heap_alloc_new (w.alloc (.cells #[.string file, .int .i64 f, .int .i64 t] 27)) (.cells #[.string ⟨#[]⟩, .bool false, .bool false, .slice none 0 0, .slice none 0 0, .string ⟨#[]⟩, .int .i64 0, .int .i64 0] 29)
    simpa using this
  obtain ⟨m0, m1, m2, m3, m4, m5, m6, m7⟩ := cells8 hm
  refine bodyPost_ret (v := .tuple #[.agg (mcC .empty false false (.slice none 0 0) (.slice none 0 0) .empty 0 0).toArray, .slice (some ⟨w.heap.size + 1 + 1, 0, none⟩) 1 1]) (by simp [results, Try.results40, go_sem, m0, m1, m2, m3, m4, m5, m6, m7]; rfl) rfl ⟨_, rfl, ⟨?_, by simp [dgV]⟩, ?_⟩
  · have := World.ownsRow_lit (base := w.heap.size) (e := 38) (size := 4) ((w.alloc (.cells #[.string file, .int .i64 f, .int .i64 t] 27)).alloc (.cells #[.string ⟨#[]⟩, .bool false, .bool false, .slice none 0 0, .slice none 0 0, .string ⟨#[]⟩, .int .i64 0, .int .i64 0] 29)) #[.int .i64 code, .string file, .int .i64 f, .int .i64 t] 1 (by simp; omega) (by decide) (by simp)
    simpa [dgV] using this.drew
  · exact ((((Below.refl _ w).alloc (Nat.le_refl _) _).alloc (by simp) _).alloc (by simp; omega) _).drew
end Go.Proofs.Ythbicbfdldpemaa
