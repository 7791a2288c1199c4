/- Texts of this seat's proofs, laid into one file. -/
import Derived.Test.YtfaoamdlknlgpaaGreatArgsCollectDoneG47
import Derived.Test.YtfaoamdlknlgpaaGreatArgsCollectDoneG48
/- An argument of the document's macros, opened: its cells, its parameters, its body's tokens. -/
namespace Go.Proofs.YtfaoamdlknlgpaaGreat
open Go.RowKit
set_option linter.unusedVariables false

section
variable {H : Type} {enc : TypeId × Value → H} {W : World} {base : Nat} {sp : Nat → Bool} {held : Bool}

theorem cells_mac : Tryz.prog.cellsOf 47 = 8 := by kernel_rfl
theorem cells_strs : Tryz.prog.cellsOf 45 = 1 := by kernel_rfl
theorem cells_toks : Tryz.prog.cellsOf 22 = 1 := by kernel_rfl

set_option maxRecDepth 100000 in
theorem open_mac {n : Nat} {cs : List Value} {x : DataW H × List MemPlace} (h : DataW.trod enc Tryz.prog W base (fun _ => true) held n 47 cs = some x) :
    ∃ (name : ByteArray) (fn va : Bool) (ws : List ByteArray) (pao : Option Addr) (pcap : Nat) (T : List (Tm × Value)) (bao : Option Addr) (bcap : Nat) (file : ByteArray) (f t : Int), cs = [.string name, .bool fn, .bool va, .slice pao ws.length pcap, .slice bao T.length bcap, .string file, .int .i64 f, .int .i64 t] ∧
      ws.length ≤ pcap ∧ pcap ≤ maxLen ∧ Row W 1 pao (ws.map fun p => [.string p]) := by
  obtain ⟨xs, m, _, _, hl, hn, hf⟩ := DataW.trod_struct Tryz.underlying47 h
  rw [cells_mac] at hl
  match cs, hl with
  | [v0, v1, v2, v3, v4, v5, v6, v7], _ =>
    obtain ⟨y0, g0⟩ := field_some (hf 0 ⟨"Name", 9, 0, false, "", "", 0⟩ rfl) hn (by decide)
    obtain ⟨y1, g1⟩ := field_some (hf 1 ⟨"Func", 4, 1, false, "", "", 16⟩ rfl) hn (by decide)
    obtain ⟨y2, g2⟩ := field_some (hf 2 ⟨"Variadic", 4, 2, false, "", "", 17⟩ rfl) hn (by decide)
    obtain ⟨y3, g3⟩ := field_some (hf 3 ⟨"Params", 45, 3, false, "", "", 24⟩ rfl) hn (by decide)
    obtain ⟨y4, g4⟩ := field_some (hf 4 ⟨"Body", 22, 4, false, "", "", 48⟩ rfl) hn (by decide)
    obtain ⟨y5, g5⟩ := field_some (hf 5 ⟨"Span", 31, 5, false, "", "", 72⟩ rfl) hn (by decide)
    simp only [cells_str, cells_span, cells_bool, cells_strs, cells_toks, List.drop_zero, List.drop_succ_cons, List.take_succ_cons, List.take_zero] at g0 g1 g2 g3 g4 g5
    obtain ⟨nm, hnm, _⟩ := DataW.trod_string Tryz.underlying9 g0
    obtain ⟨fn, hfn, _⟩ := DataW.trod_bool Tryz.underlying4 g1
    obtain ⟨va, hva, _⟩ := DataW.trod_bool Tryz.underlying4 g2
    obtain ⟨ws, pao, pcap, rfl, hpc, hpm, _, hpr⟩ := open_strsN g3
    obtain ⟨T, bao, bcap, rfl, _⟩ := open_toks g4
    obtain ⟨fi, p, q, hsp⟩ := open_span g5
    simp only [List.cons.injEq, and_true] at hnm hfn hva hsp
    obtain ⟨rfl, rfl, rfl⟩ := hsp
    subst hnm hfn hva
    exact ⟨nm, fn, va, ws, pao, pcap, T, bao, bcap, fi, p, q, rfl, hpc, hpm, hpr⟩
end
end Go.Proofs.YtfaoamdlknlgpaaGreat
