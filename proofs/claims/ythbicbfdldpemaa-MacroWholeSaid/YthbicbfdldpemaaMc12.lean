/- macro's tables: Define. -/
import Derived.Test.YthbicbfdldpemaaMc11
namespace Go.Proofs.Ythbicbfdldpemaa
open Go.RowKit
set_option linter.unusedVariables false

theorem cell_ne_map {w : World} {mb : Nat} {es : Array MapEntry} {clock : Nat} (h : w.heap[mb]? = some (.map es clock)) {a : Addr} {v : Value} (hc : w.cell? a = some v) : a.block ≠ mb := by
  intro e
  unfold World.cell? at hc
  rw [e, h] at hc
  simp at hc

/-- all cells of a world are there in the other one -/
def KeptC (w w' : World) : Prop := ∀ (k : Nat) (x : Array Value) (e : TypeId) (fz : Nat × Nat), w.heap[k]? = some (Obj.cells x e fz) → w'.heap[k]? = some (Obj.cells x e fz)

theorem KeptC.refl (w : World) : KeptC w w := fun _ _ _ _ h => h
theorem KeptC.trans {a b c : World} (h : KeptC a b) (k : KeptC b c) : KeptC a c := fun i x e fz hx => k i x e fz (h i x e fz hx)
theorem KeptC.below {w w' : World} (h : Below w.heap.size w w') : KeptC w w' := fun k x e fz hx => (h.block k (lt_of_block hx)).trans hx
theorem KeptC.cell {w w' : World} (h : KeptC w w') {a : Addr} {v : Value} (hc : w.cell? a = some v) : w'.cell? a = some v := by
  have hc' := hc
  unfold World.cell? at hc'
  split at hc'
  · rename_i x e fz hx
    exact (World.cell?_of_block (by rw [h _ _ _ _ hx, hx])).trans hc
  · simp at hc'
theorem KeptC.grown {w w' : World} {mb : Nat} {es : Array MapEntry} {clock : Nat} (hm : w.heap[mb]? = some (.map es clock)) (h : w.grownBy w' (some mb)) : KeptC w w' := by
  intro k x e fz hx
  rw [h.block k (lt_of_block hx)]
  · exact hx
  · intro e1
    injection e1 with e1
    subst e1
    rw [hm] at hx
    simp at hx

theorem RowAt.keep {w w' : World} {sz b o : Nat} {css : List (List Value)} (h : RowAt w sz b o css) (k : KeptC w w') : RowAt w' sz b o css := fun i cs hi j u hj => k.cell (h i cs hi j u hj)
theorem Row.keep {w w' : World} {sz : Nat} {ao : Option Addr} {css : List (List Value)} (h : Row w sz ao css) (k : KeptC w w') : Row w' sz ao css := fun hne => let ⟨b, o, e, r⟩ := h hne; ⟨b, o, e, r.keep k⟩
theorem MacAt.keep {w w' : World} {m : Mac} {psv bov : Value} (h : MacAt w m psv bov) (k : KeptC w w') : MacAt w' m psv bov := by
  obtain ⟨⟨ao, cap, h1, h2, h3⟩, ⟨bo, cb, T, k1, k2, k3, k4, k5, k6⟩⟩ := h
  exact ⟨⟨ao, cap, h1, h2.keep k, h3⟩, ⟨bo, cb, T, k1, k2, k3, k4, k5.keep k, k6⟩⟩
theorem DefAt.keep {w w' : World} {g : Nat} {m : Mac} (h : DefAt w g m) (k : KeptC w w') : DefAt w' g m := by
  obtain ⟨psv, bov, h1, h2⟩ := h
  exact ⟨psv, bov, k _ _ _ _ h1, h2.keep k⟩

def defRes (L : List Ent) (m : Mac) : Bool := match lookT L m.name with | none => true | some x => sameP x.2 m

theorem lookT_mem {L : List Ent} {n : ByteArray} {x : Nat × Mac} (h : lookT L n = some x) : (n, x) ∈ L := by
  unfold lookT at h
  cases hf : L.find? (fun p => decide (p.1 = n)) with
  | none => rw [hf] at h; simp at h
  | some p =>
    rw [hf] at h
    simp only [Option.map_some, Option.some.injEq] at h
    have h1 := List.mem_of_find?_eq_some hf
    have h2 := List.find?_some hf
    simp only [decide_eq_true_eq] at h2
    obtain ⟨p1, p2⟩ := p
    simp only at h h2
    subst h h2
    exact h1

theorem setBlock_grown (w : World) (mb : Nat) (o : Obj) : w.grownBy (ChangeMaps.setBlock w mb o) (some mb) :=
  ⟨rfl, rfl, rfl, by simp [ChangeMaps.setBlock], fun k _ hk => by
    have : mb ≠ k := fun e => hk (by rw [e])
    simp [ChangeMaps.setBlock, Array.getElem?_setIfInBounds_ne this]⟩

theorem setBlock_at {w : World} {mb : Nat} {o o' : Obj} (h : w.heap[mb]? = some o) : (ChangeMaps.setBlock w mb o').heap[mb]? = some o' := by
  simp [ChangeMaps.setBlock, lt_of_block h]

set_option maxRecDepth 100000 in
theorem mDefine_any (tb mb : Nat) (L : List Ent) (m : Mac) (psv bov : Value) (w : World) (hT : TabAt w tb mb L) (hm : MacAt w m psv bov) (hn : m.name.size ≤ maxLen) :
    Calls Try.prog 34 #[.pointer (some ⟨tb, 0, none⟩), .agg (mcC m.name m.fn m.va psv bov m.file m.f m.t).toArray] w fun e w' => ∃ g, e = .returned (.bool (defRes L m)) ∧ TabAt w' tb mb (putT L m.name (g, m)) ∧ w.grownBy w' (some mb) := by
  obtain ⟨pao, pcp, hpv, _, hpl, _⟩ := hm.ps
  obtain ⟨bao, bcp, _, hbv, _, hbl, _⟩ := hm.body
  obtain ⟨W1, hW1⟩ : ∃ W1, W1 = w.alloc (.cells #[.string m.name, .bool m.fn, .bool m.va, psv, bov, .string m.file, .int .i64 m.f, .int .i64 m.t] 29) := ⟨_, rfl⟩
  have hB1 : Below w.heap.size w W1 := by rw [hW1]; exact (Below.refl _ w).alloc (Nat.le_refl _) _
  have hd1 : W1.heap[w.heap.size]? = some (.cells #[.string m.name, .bool m.fn, .bool m.va, psv, bov, .string m.file, .int .i64 m.f, .int .i64 m.t] 29 (0, 0)) := by rw [hW1]; exact heap_alloc_new w _
  have hs1 : W1.heap.size = w.heap.size + 1 := by rw [hW1]; simp
  have hT1 := hT.below hB1
  have HL := mLook_any tb mb L m.name hn W1 hT1
  have HO := mOwnMac_any m psv bov W1 (hm.below hB1)
  obtain ⟨q, hq⟩ : ∃ q, q = Option.map (fun x : Nat × Mac => (⟨x.1, 0, none⟩ : Addr)) (lookT L m.name) := ⟨_, rfl⟩
  rw [← hq] at HL
  unfold mcC at HO ⊢
  subst hpv hbv
  obtain ⟨np, hnp⟩ : ∃ n, n = m.params.length := ⟨_, rfl⟩
  obtain ⟨nb, hnb⟩ : ∃ n, n = m.body.length := ⟨_, rfl⟩
  rw [← hnp] at HO hd1 hW1 ⊢
  rw [← hnb] at HO hd1 hW1 ⊢
  replace hnp := Lib.hid hnp
  replace hnb := Lib.hid hnb
  replace hq := Lib.hid hq
  replace HL := Lib.hid HL
  replace HO := Lib.hid HO
  clear hm
  obtain ⟨m0, m1, m2, m3, m4, m5, m6, m7⟩ := cells8 hd1
  go_enter Try.func34, Try.ntmps34
  go_upto_region 3 with fail
  rw [← hW1]
  replace hW1 := Lib.hid hW1
  go_wp2_with fail
  refine HL.out.mono ?_
  rintro e w2 ⟨rfl, hw2⟩
  replace hw2 := hw2.symm
  subst hw2
  go_wp2_with fail
  refine HO.out.mono ?_
  rintro e w3 ⟨ps3, bo3, rfl, hO3, hb3⟩
  obtain ⟨qao, qcp, rfl, _, _, _, _⟩ := hO3.ps.rown (n := np) (by rw [hnp.out]; simp)
  obtain ⟨T3, hT3, hT3s, hT3n⟩ := hO3.body
  obtain ⟨rao, rcp, rfl, _, _, _, _⟩ := hT3.rown (n := nb) (by rw [List.length_map, hnb.out, ← hT3s, List.length_map])
  have hd3 := (hb3.block w.heap.size (by omega)).trans hd1
  have hd4 := setRow_heap _ _ _ #[Value.string m.name, .bool m.fn, .bool m.va, .slice qao np qcp, .slice rao nb rcp, .string m.file, .int .i64 m.f, .int .i64 m.t] _ _ hd3
  have hB4 : Below w.heap.size w (w3.setRow w.heap.size #[Value.string m.name, .bool m.fn, .bool m.va, .slice qao np qcp, .slice rao nb rcp, .string m.file, .int .i64 m.f, .int .i64 m.t]) := Below.row (hB1.trans (hb3.mono (by omega))) (Nat.le_refl _) _
  have hD4 : DefAt (w3.setRow w.heap.size #[Value.string m.name, .bool m.fn, .bool m.va, .slice qao np qcp, .slice rao nb rcp, .string m.file, .int .i64 m.f, .int .i64 m.t]) w.heap.size m := ⟨_, _, hd4, (hO3.rowBelow (by omega) _).at hpl hbl⟩
  go_upto_region 5 with (refine wpList_store_row rfl 29 (.tmp 3) (.tmp 13) rfl w.heap.size _ rfl rfl 29 _ hd3 info_mac rfl (by simp [Value.oneCell']) ?_)
  generalize w3.setRow w.heap.size #[Value.string m.name, .bool m.fn, .bool m.va, .slice qao np qcp, .slice rao nb rcp, .string m.file, .int .i64 m.f, .int .i64 m.t] = W4 at *
  have hT4 := hT.below hB4
  obtain ⟨es, clock, hmp, hMI⟩ := hT4.map
  obtain ⟨es', clock', hU, hMI'⟩ := map_update (w := W4.drew) Try.underlying111 Try.underlying9 hmp hMI (by rw [List.map_map]; exact hT4.nd) (by
    intro p hp
    obtain ⟨q, hq, rfl⟩ := List.mem_map.1 hp
    exact (hT4.ents q hq).1) hn (.pointer (some ⟨w.heap.size, 0, none⟩))
  rw [putL_ent L m.name (w.heap.size, m)] at hMI'
  have FIN : Hid (w.grownBy (ChangeMaps.setBlock W4.drew mb (.map es' clock')) (some mb) ∧ TabAt (ChangeMaps.setBlock W4.drew mb (.map es' clock')) tb mb (putT L m.name (w.heap.size, m)) ∧ (∀ p ∈ L, DefAt (ChangeMaps.setBlock W4.drew mb (.map es' clock')) p.2.1 p.2.2) ∧ DefAt (ChangeMaps.setBlock W4.drew mb (.map es' clock')) w.heap.size m) := Lib.hid (by
    have hg := setBlock_grown W4.drew mb (.map es' clock')
    have hk : KeptC W4 (ChangeMaps.setBlock W4.drew mb (.map es' clock')) := KeptC.grown (w := W4.drew) hmp hg
    have hold : ∀ p ∈ L, DefAt (ChangeMaps.setBlock W4.drew mb (.map es' clock')) p.2.1 p.2.2 := fun p hp => (hT4.ents p hp).2.keep hk
    have hnew : DefAt (ChangeMaps.setBlock W4.drew mb (.map es' clock')) w.heap.size m := hD4.keep hk
    refine ⟨grown_trans (b := W4.drew) ⟨hB4.drew.os, hB4.drew.tape, hB4.drew.output, hB4.drew.size, fun k hk _ => hB4.drew.block k hk⟩ hg, ⟨hk _ _ _ _ hT4.tab, ⟨es', clock', setBlock_at (w := W4.drew) hmp, hMI'⟩, putT_keys hT4.nd, ?_⟩, hold, hnew⟩
    intro p hp
    rcases putT_mem hp with h | rfl
    · exact ⟨(hT4.ents p h).1, hold p h⟩
    · exact ⟨hn, hnew⟩)
  have ht4 : W4.cell? ⟨tb, 0, none⟩ = some (.map (some mb)) := by simpa using Lib.cell_of_heap hT4.tab 0
  replace hMI := Lib.hid hMI
  replace hMI' := Lib.hid hMI'
  clear m0 m1 m2 m3 m4 m5 m6 m7 hT3 hO3 hd3 hb3 hT3s hT3n hd1 hT1 hmp hT4
  obtain ⟨m0, m1, m2, m3, m4, m5, m6, m7⟩ := cells8 hd4
  have hput : ∀ a : Act, a.put none undef = a := fun _ => rfl
  rw [hput]
  clear hput
  go_cut [] from 14 to 19 (fun wx => w.grownBy wx (some mb) ∧ TabAt wx tb mb (putT L m.name (w.heap.size, m)) ∧ (∀ p ∈ L, DefAt wx p.2.1 p.2.2) ∧ DefAt wx w.heap.size m)
  case first =>
    go_region
    go_wp2_with fail
    go_meet
    case rel => exact FIN.out
  case rest =>
    obtain ⟨hgX, hTX, hoX, hnX⟩ := hcut
    clear m0 m1 m2 m3 m4 m5 m6 m7 hd4 hB4 hD4 ht4 hU
    have hgd : w.grownBy wc.drew (some mb) := ⟨hgX.os, hgX.tape, hgX.output, hgX.size, hgX.block⟩
    have hTd : TabAt wc.drew tb mb (putT L m.name (w.heap.size, m)) := hTX.below (Below.refl _ wc).drew
    cases hlt : lookT L m.name with
    | none =>
      have hqn : q = none := by rw [hq.out, hlt]; rfl
      subst hqn
      have hR : defRes L m = true := by unfold defRes; rw [hlt]
      replace hR := Lib.hid hR
      replace hq := Lib.hid hq
      replace hlt := Lib.hid hlt
      go_wp2_with fail
      go_region
      all_goals
        go_wp2
        go_ret
        exact ⟨_, by rw [hR.out]; rfl, hTd, hgd⟩
    | some x =>
      obtain ⟨g, mo⟩ := x
      have hqs : q = some ⟨g, 0, none⟩ := by rw [hq.out, hlt]; rfl
      subst hqs
      have hR : defRes L m = sameP mo m := by unfold defRes; rw [hlt]
      obtain ⟨ops, obo, k1, k2⟩ := hoX (m.name, (g, mo)) (lookT_mem hlt)
      obtain ⟨nps, nbo, j1, j2⟩ := hnX
      have HS := mSame_any mo m ops obo nps nbo wc.drew (k2.below (Below.refl _ wc).drew) (j2.below (Below.refl _ wc).drew)
      obtain ⟨_, _, e1, _⟩ := k2.ps
      obtain ⟨_, _, _, e2, _⟩ := k2.body
      obtain ⟨_, _, e3, _⟩ := j2.ps
      obtain ⟨_, _, _, e4, _⟩ := j2.body
      subst e1 e2 e3 e4
      obtain ⟨z, hz⟩ : ∃ z, z = sameP mo m := ⟨_, rfl⟩
      rw [← hz] at HS hR
      unfold mcC at HS k1 j1
      obtain ⟨m0, m1, m2, m3, m4, m5, m6, m7⟩ := cells8 k1
      obtain ⟨n0, n1, n2, n3, n4, n5, n6, n7⟩ := cells8 j1
      replace HS := Lib.hid HS
      replace hR := Lib.hid hR
      replace hz := Lib.hid hz
      replace hq := Lib.hid hq
      replace hlt := Lib.hid hlt
      go_wp2_with fail
      go_region_law (go_simp; go_at_call 18; refine HS.out.mono ?_; rintro e w5 ⟨rfl, hb5⟩)
      all_goals
        go_wp2
        go_ret
        exact ⟨_, by rw [hR.out]; rfl, hTd.below hb5, grown_trans hgd ⟨hb5.os, hb5.tape, hb5.output, hb5.size, fun k hk _ => hb5.block k hk⟩⟩
end Go.Proofs.Ythbicbfdldpemaa
