/- Texts of this seat's proofs, laid into one file. -/
import Derived.Test.YtfaoamdlknlgpaaGreatSubstHashDoneG44
import Derived.Test.YtfaoamdlknlgpaaGreatSubstHashDoneG45
import Derived.Test.YtfaoamdlknlgpaaGreatSubstHashDoneG28
import Derived.Test.YtfaoamdlknlgpaaGreatSubstHashDoneG46
/- SubstHash: the walk. -/
namespace Go.Proofs.YtfaoamdlknlgpaaGreat
open Go.RowKit
set_option linter.unusedVariables false

/-- a token's cells -/
theorem tok_cells {w : World} {b o k : Nat} {T : List Tm} {t : Tm} (hat : RowAt w 8 b o ((T.map nilTv).map tvC)) (hk : T[k]? = some t) :
    w.cell? ⟨b, o + k * 8, none⟩ = some (.int .i64 t.kind) ∧ w.cell? ⟨b, o + k * 8 + 1, none⟩ = some (.string t.text) ∧ w.cell? ⟨b, o + k * 8 + 2, none⟩ = some (.bool t.sp) := by
  have := fun j u hj => hat k (tvC (nilTv t)) (by rw [List.getElem?_map, List.getElem?_map, hk]; rfl) j u hj
  exact ⟨this 0 _ rfl, this 1 _ rfl, this 2 _ rfl⟩

theorem hash_m (sp : Bool) : ∃ tx m, tx = (if sp then hashTextB else hashTextA) ∧ parseL (toksL tx.data.toList) = .inl m ∧ m.fn = true ∧ m.va = false ∧ m.body ≠ [] ∧ hashChk m = true := by
  cases sp with
  | true =>
    obtain ⟨m, h⟩ := chkM_get hash_mB
    exact ⟨_, m, rfl, h⟩
  | false =>
    obtain ⟨m, h⟩ := chkM_get hash_mA
    exact ⟨_, m, rfl, h⟩

def plainHB (X : List UInt8) : Bool := X.all fun c => c != 92 && c != 34
theorem plainHB_take {X : List UInt8} {i : Nat} {c : UInt8} (h : X[i]? = some c) : plainHB (X.take (i + 1)) = (plainHB (X.take i) && (c != 92 && c != 34)) := by
  unfold plainHB
  rw [List.take_add_one, h, List.all_append]
  simp

theorem lsRd_one {w : World} {g : Nat} {v : Value} {ty : TypeId} {fz : Nat × Nat} {X : List Tf} (h : w.heap[g]? = some (.cells #[v] ty fz)) (hX : ToksRd w v X) : LsRd w (.slice (some ⟨g, 0, none⟩) 1 1) [X] :=
  lsRd_lit (vs := [v]) (XX := [X]) h rfl (Nat.le_refl _) (by
    intro i u Y hu hY
    match i with
    | 0 => simp at hu hY; subst hu hY; exact hX
    | i + 1 => simp at hu)

theorem unq_form (o : Option (List UInt8)) : ∃ us uo, unqV o = .tuple #[.string us, .bool uo] ∧ ∀ Z, o = some Z → us = bs Z ∧ uo = true := by
  cases o with
  | none => exact ⟨_, _, rfl, fun Z h => by cases h⟩
  | some X => exact ⟨_, _, rfl, fun Z h => by injection h with h; subst h; exact ⟨rfl, rfl⟩⟩

set_option maxHeartbeats 4000000 in
set_option maxRecDepth 100000 in
theorem substHash_main (arg : ByteArray) (hm0 : arg.size ≤ maxLen) (sp : Bool) (w : World) :
    Calls Tryz.prog 10 #[.string arg, .bool sp] w fun e w' => e = .returned (.bool true) ∧ Below w.heap.size w w' := by
  have HAw := Lib.hid awake11_any
  have hmx : arg.size ≤ 9223372036854775807 := by unfold maxLen at hm0; omega
  by_cases h1 : 200 < arg.size
  · have e1 : (200 : Int) < (arg.size : Int) := by omega
    go_enter Tryz.func10, Tryz.ntmps10
    go_wp2_with fail
    refine (HAw.out _).mono ?_
    rintro e w1 ⟨rfl, hb1⟩
    go_wp2
    go_ret
    exact ⟨rfl, hb1⟩
  have e1 : ¬ (200 : Int) < (arg.size : Int) := by omega
  obtain ⟨A, hA⟩ : ∃ A, A = arg.data.toList := ⟨_, rfl⟩
  have hAl : A.length = arg.size := by rw [hA]; exact Array.length_toList
  obtain ⟨T, hT⟩ : ∃ T, T = toksL A := ⟨_, rfl⟩
  have hTz : ∀ t ∈ T, t.text.size ≤ 1000 := by
    intro t ht
    rw [hT] at ht
    have := toks_size ht
    omega
  have hT10 : ∀ t ∈ T, ∀ c ∈ t.text.data.toList, c ≠ 10 := by intro t ht; rw [hT] at ht; exact toks_n10 ht
  have hTback : (∀ c ∈ txtF 0 T, c ≠ 34 ∧ c ≠ 92) → unqR (strzL T) = some (txtF 0 T) := by rw [hT]; exact hash_back A
  obtain ⟨tx, m, htx, hm, hfn, hva, hne, hck⟩ := hash_m sp
  obtain ⟨hpl, hbl, pz, qz, hrun, hq1, hq2, hq3, hq4⟩ := hash_fin hck (T.map nilTf) hashFF hashS
  have hq2' : qz.t.text = bs (strzL T) := by
    rw [hq2, List.map_map]
    congr 2
    exact List.map_id _
  have HTk := Lib.hid (toks11_rd arg (by omega) w)
  rw [← hA, ← hT] at HTk
  have hTl : T.length ≤ 201 := by rw [hT]; have := toksL_len A; omega
  have HTx : Hid (∀ x, Calls Tryz.prog 35 #[.string tx] x fun e w' => ∃ (n : Nat) (ao : Option Addr) (cap : Nat), e = .returned (.slice ao n cap) ∧ Below x.heap.size x w' ∧ Hid ((toksL tx.data.toList).length = n ∧ n ≤ cap ∧ n ≤ 1000 ∧ Row w' 8 ao (((toksL tx.data.toList).map nilTv).map tvC))) := Lib.hid fun x => by
    have h0 : tx.size ≤ 10 := by rw [htx]; cases sp <;> decide
    have h1 := toks11_rd tx (by omega) x
    refine h1.mono ?_
    rintro e w' ⟨n, ao, cap, rfl, hb, hr⟩
    exact ⟨n, ao, cap, rfl, hb, Lib.hid ⟨hr.out.2.1, hr.out.2.2.1, by have := hr.out.2.2.2.1; omega, hr.out.2.2.2.2⟩⟩
  have HPar : Hid (∀ (x : World) (ao : Option Addr) (n cap : Nat), (toksL tx.data.toList).length = n → n ≤ cap → n ≤ 1000000 → Row x 8 ao (((toksL tx.data.toList).map nilTv).map tvC) → Calls Tryz.prog 36 #[.slice ao n cap] x fun e w' => (∃ pa pc ba bc, e = .returned (.tuple #[.agg #[.string m.name, .bool m.fn, .bool m.va, .slice pa m.params.length pc, .slice ba m.body.length bc, .string m.file, .int .i64 m.f, .int .i64 m.t], .slice none 0 0]) ∧ MB m pa pc ba bc w') ∧ Below x.heap.size x w') := Lib.hid fun x ao n cap h1 h2 h3 h4 => by
    subst h1
    refine (rParseM_any _ m hm hfn hva hne ao cap h3 h2 x h4).mono ?_
    rintro e w' ⟨⟨psv, bov, rfl, ho⟩, hb⟩
    obtain ⟨pa, pc, ba, bc, rfl, rfl, h5, h6, h7⟩ := ho.parts
    exact ⟨⟨pa, pc, ba, bc, rfl, h6, h7, h5⟩, hb⟩
  have HBo : Hid (∀ (x : World) (pa : Option Addr) (pc : Nat) (ba : Option Addr) (bc : Nat) (rv fv : Value), MB m pa pc ba bc x → LsRd x rv [T.map nilTf] → LsRd x fv hashFF → Calls Tryz.prog 37 #[.agg #[.string m.name, .bool m.fn, .bool m.va, .slice pa m.params.length pc, .slice ba m.body.length bc, .string m.file, .int .i64 m.f, .int .i64 m.t], rv, fv, .agg #[.string ⟨#[70]⟩, .string ⟨#[]⟩, .int .i64 0, .int .i64 0, .bool false], .slice none 0 0] x fun e w' => (∃ v vf vd, e = .returned (.tuple #[v, vf, vd]) ∧ OwnT ([pz, qz].map tfZ) x.heap.size v w' ∧ Own w' x.heap.size 3 1 vf ([pz, qz].map parC) ∧ Own w' x.heap.size 68 4 vd []) ∧ Below x.heap.size x w') := Lib.hid fun x pa pc ba bc rv fv h1 h2 h3 =>
    body11_any m pa pc ba bc [T.map nilTf] hashFF rv fv ⟨#[70]⟩ x h1 (by omega) (by omega) h2 h3 ⟨by simp, by
      intro X hX
      simp only [List.mem_singleton] at hX
      subst hX
      refine ⟨by rw [List.length_map]; omega, fun y hy => ?_⟩
      obtain ⟨t, ht, rfl⟩ := List.mem_map.1 hy
      exact ⟨hTz t ht, by simp [nilTf, SitesOk]⟩⟩ (argsOk_all (by simp [hashFF]) (by kernel_rfl)) _ hrun
  clear hm hfn hva hne hck hrun
  obtain ⟨mname, mfn, mva, mps, mbody, mfile, mf, mt⟩ := m
  simp only at HPar HBo hbl hpl
  rw [hpl, hbl] at HPar HBo
  clear hpl hbl
  have hTlen : ∀ i, (txtF 0 (T.take i)).length ≤ 201201 := by
    intro i
    have h1 := txtF_len (T.take i) 0 (fun t ht => hTz t (List.mem_of_mem_take ht))
    have h2 : (T.take i).length ≤ 201 := by rw [List.length_take]; omega
    omega
  obtain ⟨n, hn⟩ : ∃ n, n = T.length := ⟨_, rfl⟩
  rw [← hn] at hTl
  have HN : Hid (T.length = n) := Lib.hid hn.symm
  clear hn
  replace hA := Lib.hid hA
  replace hAl := Lib.hid hAl
  replace hT := Lib.hid hT
  replace hTz := Lib.hid hTz
  replace hT10 := Lib.hid hT10
  replace hTback := Lib.hid hTback
  replace hTlen := Lib.hid hTlen
  replace htx := Lib.hid htx
  replace hq1 := Lib.hid hq1
  replace hq2 := Lib.hid hq2'
  replace hq3 := Lib.hid hq3
  replace hq4 := Lib.hid hq4
  clear hq2'
  go_enter Tryz.func10, Tryz.ntmps10
  go_wp2_with fail
  refine HTk.out.mono ?_
  rintro e w1 ⟨n1, ao1, cap1, rfl, hb1, hr1⟩
  obtain rfl : n1 = n := by have := hr1.out.2.1; rw [HN.out] at this; exact this.symm
  replace hb1 := Lib.hid hb1
  have hRow := hr1.out.2.2.2.2
  have HK : Hid (∀ x, Below w1.heap.size w1 x → ∀ (k : Nat) (t : Tm), T[k]? = some t → ∃ b o, ao1 = some ⟨b, o, none⟩ ∧ x.cell? ⟨b, o + k * 8, none⟩ = some (.int .i64 t.kind) ∧ x.cell? ⟨b, o + k * 8 + 1, none⟩ = some (.string t.text) ∧ x.cell? ⟨b, o + k * 8 + 2, none⟩ = some (.bool t.sp)) := Lib.hid fun x hx k t hk => by
    obtain ⟨b, o, rfl, hat⟩ := hRow (by intro e; simp at e; rw [e] at hk; simp at hk)
    exact ⟨b, o, rfl, tok_cells (hat.below hx) hk⟩
  clear hRow
  have hrf1 := Below.refl w1.heap.size w1
  go_wp2_with fail
  go_loopg [6] n1 (fun q v6 wx => ∃ i : Nat, q = n1 - i ∧ i ≤ n1 ∧ v6 = .int .i64 i ∧ wx = w1)
  case atStart => exact ⟨0, rfl, Nat.zero_le _, rfl, rfl⟩
  case round =>
    obtain ⟨i, rfl, hi, rfl, hwr⟩ := hrel
    replace hwr := hwr.symm
    subst hwr
    by_cases hin : i < n1
    · have f1 : (i : Int) < n1 := by omega
      obtain ⟨t, ht⟩ : ∃ t, T[i]? = some t := ⟨_, List.getElem?_eq_getElem (by rw [HN.out]; exact hin)⟩
      obtain ⟨b, o, rfl, x0, _, _⟩ := HK.out w1 hrf1 i t ht
      have g1 : IntKind.i64.wrap ((i : Int) + 1) = (i : Int) + 1 := IntWalk.i64_in _ (by omega)
      replace ht := Lib.hid ht
      by_cases h6 : t.kind = 6
      · rw [h6] at x0
        go_wp2_with fail
        refine (HAw.out _).mono ?_
        rintro e w5 ⟨rfl, hb5⟩
        go_wp2
        go_ret
        exact ⟨rfl, hb1.out.trans (hb5.mono hb1.out.size)⟩
      · have h6' : (t.kind == 6) = false := by simpa using h6
        generalize t.kind = tk at x0 h6 h6'
        go_wp2_with fail
        go_roundg (n1 - (i + 1))
        case measure => omega
        case rel => exact ⟨i + 1, rfl, hin, by go_num, rfl⟩
    · obtain rfl : i = n1 := by omega
      have f1 : ¬ (i : Int) < i := by omega
      have hz : (strzL T).length ≤ 1000000 := by
        have h1 := strF_len T 0 hTz.out
        have h2 := HN.out
        unfold strzL
        rw [List.length_cons, List.length_append, List.length_singleton]
        omega
      obtain ⟨qx, hqx⟩ : ∃ q, q = bs (strzL T) := ⟨_, rfl⟩
      have hqz : qx.size ≤ 1000000 := by rw [hqx]; show (strzL T).toArray.size ≤ 1000000; rw [List.size_toArray]; exact hz
      have hqd : qx.data.toList = strzL T := by rw [hqx]
      have HStr : Hid (∀ x, Below w1.heap.size w1 x → Calls Tryz.prog 17 #[.slice ao1 i cap1] x fun e w' => e = .returned (.string qx) ∧ Below x.heap.size x w') := Lib.hid fun x hx => by
        have h1 : (T.map nilTv).map (·.1) = T := by rw [List.map_map]; exact List.map_id _
        have h2 : (T.map nilTv).length = i := by rw [List.length_map]; exact HN.out
        have h := rStringize_any (T.map nilTv) ao1 cap1 (by omega) (by rw [h2]; exact hr1.out.2.2.1) (by
          intro p hp
          obtain ⟨t, ht, rfl⟩ := List.mem_map.1 hp
          exact hTz.out t ht) x (hr1.out.2.2.2.2.below hx) (by
          intro p hp
          obtain ⟨t, ht, rfl⟩ := List.mem_map.1 hp
          exact ⟨none, 0, 0, rfl⟩)
        rw [h1, h2, show (⟨(strzL T).toArray⟩ : ByteArray) = qx from hqx.symm] at h
        exact h
      have HUn : Hid (∀ x, Calls Tryz.prog 15 #[.string qx] x fun e w' => e = .returned (unqV (unqR (strzL T))) ∧ Below x.heap.size x w') := Lib.hid fun x => by
        have h := rUnquote_any qx hqz x
        rw [hqd] at h
        exact h
      obtain ⟨us, uo, huv, hu⟩ := unq_form (unqR (strzL T))
      rw [huv] at HUn
      replace hu := Lib.hid hu
      replace huv := Lib.hid huv
      replace hqx := Lib.hid hqx
      replace hqd := Lib.hid hqd
      go_upto_if 38 with fail
      go_cut [7] from 38 to 38 (fun v7 wx => v7 = .string tx ∧ wx = w1)
      case first =>
        have htx0 := htx.out
        clear htx
        cases sp
        case' false => obtain rfl : tx = ⟨#[70, 40, 97, 41, 32, 120, 32, 35, 97]⟩ := htx0
        case' true => obtain rfl : tx = ⟨#[70, 40, 97, 41, 32, 120, 32, 35, 32, 97]⟩ := htx0
        all_goals
          go_wp2_with fail
          go_meet
          exact ⟨rfl, rfl⟩
      case rest =>
        obtain ⟨rfl, hwc⟩ := hcut
        replace hwc := hwc.symm
        subst hwc
        go_wp2_with fail
        refine (HTx.out _).mono ?_
        rintro e w2 ⟨n2, ao2, cap2, rfl, hb2, hr2⟩
        have HP1 := HPar.out w2 ao2 n2 cap2 hr2.out.1 hr2.out.2.1 (by have := hr2.out.2.2.1; omega) hr2.out.2.2.2
        replace HP1 := Lib.hid HP1
        go_wp2_with fail
        refine HP1.out.mono ?_
        rintro e w3 ⟨⟨pa, pc, ba, bc, rfl, hM3⟩, hb3⟩
        clear HPar HP1 hr2 HTx
        obtain ⟨W4, hW4⟩ : ∃ W4, W4 = w3.alloc (.cells #[.string mname, .bool mfn, .bool mva, .slice pa 1 pc, .slice ba 3 bc, .string mfile, .int .i64 mf, .int .i64 mt] 47) := ⟨_, rfl⟩
        have b34 : Below w3.heap.size w3 W4 := by rw [hW4]; exact (Below.refl _ w3).alloc (Nat.le_refl _) _
        have hc4 : W4.heap[w3.heap.size]? = some (.cells #[.string mname, .bool mfn, .bool mva, .slice pa 1 pc, .slice ba 3 bc, .string mfile, .int .i64 mf, .int .i64 mt] 47 (0, 0)) := by rw [hW4]; exact heap_alloc_new w3 _
        have b4 : Below w1.heap.size w1 W4 := (hb2.trans (hb3.mono hb2.size)).trans (b34.mono (Nat.le_trans hb2.size hb3.size))
        have hM4 := hM3.below b34
        obtain ⟨gm, hgm⟩ : ∃ g, g = w3.heap.size := ⟨_, rfl⟩
        rw [← hgm] at hc4
        replace hM4 := Lib.hid hM4
        replace b4 := Lib.hid b4
        replace hc4 := Lib.hid hc4
        clear hM3 hb2 hb3 b34
        go_upto_region 13 with fail
        rw [← hW4, ← hgm]
        replace hW4 := Lib.hid hW4
        replace hgm := Lib.hid hgm
        obtain ⟨k0, k1, k2, k3, k4, k5, k6, k7⟩ := cells8 hc4.out
        go_wp2_with fail
        refine (made11_any mname mfn mva (.slice pa 1 pc) (.slice ba 3 bc) mfile mf mt ⟨_, _, _, rfl⟩ ⟨_, _, _, rfl⟩ _).mono ?_
        rintro e w5 ⟨rfl, hb5⟩
        obtain ⟨W6, hW6⟩ : ∃ W6, W6 = w5.alloc (.cells #[.slice ao1 i cap1] 22) := ⟨_, rfl⟩
        have b56 : Below w5.heap.size w5 W6 := by rw [hW6]; exact (Below.refl _ w5).alloc (Nat.le_refl _) _
        have hx6 : W6.heap[w5.heap.size]? = some (.cells #[.slice ao1 i cap1] 22 (0, 0)) := by rw [hW6]; exact heap_alloc_new w5 _
        have b46 : Below W4.heap.size W4 W6 := hb5.trans (b56.mono hb5.size)
        have b16 : Below w1.heap.size w1 W6 := b4.out.trans (b46.mono b4.out.size)
        obtain ⟨g6, hg6⟩ : ∃ g, g = w5.heap.size := ⟨_, rfl⟩
        rw [← hg6] at hx6
        have hL6 := Lib.hid (lsRd_one hx6 (hr1.out.1.below b16))
        replace b46 := Lib.hid b46
        clear hx6 hb5 b56 b16
        go_wp2_with fail
        rw [← hW6, ← hg6]
        replace hW6 := Lib.hid hW6
        replace hg6 := Lib.hid hg6
        refine (toks11_rd ⟨#[110, 101, 118, 101, 114]⟩ (by decide) W6).mono ?_
        rintro e w7 ⟨n7, ao7, cap7, rfl, hb7, hr7⟩
        obtain ⟨W8, hW8⟩ : ∃ W8, W8 = w7.alloc (.cells #[.slice ao7 n7 cap7] 22) := ⟨_, rfl⟩
        have b78 : Below w7.heap.size w7 W8 := by rw [hW8]; exact (Below.refl _ w7).alloc (Nat.le_refl _) _
        have hx8 : W8.heap[w7.heap.size]? = some (.cells #[.slice ao7 n7 cap7] 22 (0, 0)) := by rw [hW8]; exact heap_alloc_new w7 _
        have b68 : Below W6.heap.size W6 W8 := hb7.trans (b78.mono hb7.size)
        have b48 : Below W4.heap.size W4 W8 := b46.out.trans (b68.mono b46.out.size)
        obtain ⟨g8, hg8⟩ : ∃ g, g = w7.heap.size := ⟨_, rfl⟩
        rw [← hg8] at hx8
        have HB8 := HBo.out W8 pa pc ba bc _ _ (hM4.out.below b48) (hL6.out.below b68) (lsRd_one hx8 (hr7.out.1.below b78))
        replace HB8 := Lib.hid HB8
        replace b48 := Lib.hid b48
        clear hx8 hb7 b78 b68 hr7 HBo hL6 k0 k1 k2 k3 k4 k5 k6 k7
        go_wp2_with fail
        rw [← hW8, ← hg8]
        replace hW8 := Lib.hid hW8
        replace hg8 := Lib.hid hg8
        refine HB8.out.mono ?_
        rintro e w9 ⟨⟨v, vf, vd, rfl, ho9, hf9, hd9⟩, hb9⟩
        have hb19 : Hid (Below w1.heap.size w1 w9) := Lib.hid (b4.out.trans ((b48.out.trans (hb9.mono b48.out.size)).mono b4.out.size))
        obtain ⟨va, vc, rfl⟩ := ho9.slice (n := 2) rfl
        obtain ⟨fa, fc, rfl, _, _, _, _⟩ := hf9.rown (n := 2) rfl
        obtain ⟨da, dc, rfl, _, _, _, _⟩ := hd9.rown (n := 0) rfl
        obtain ⟨vb, vo, fb, fo, rfl, rfl, HK9⟩ := at_all ho9 hf9 (by simp)
        have HQ : Hid (∀ x, Below w9.heap.size w9 x → x.cell? ⟨fb, fo + 1, none⟩ = some (.int .i64 (-1)) ∧ x.cell? ⟨vb, vo + 8, none⟩ = some (.int .i64 4) ∧ x.cell? ⟨vb, vo + 8 + 1, none⟩ = some (.string qx) ∧ x.cell? ⟨vb, vo + 8 + 6, none⟩ = some (.bool true)) := Lib.hid fun x hx => by
          obtain ⟨c0, sa, sn, sc, u0, u1, u2, u3, u4, u5, u6, u7⟩ := HK9 x hx 1 qz rfl
          rw [hq4.out] at c0
          rw [hq1.out] at u0
          rw [hq2.out, ← hqx.out] at u1
          rw [hq3.out] at u6
          simp only [Nat.one_mul] at u0 u1 u6
          exact ⟨c0, u0, u1, u6⟩
        clear HB8 hb9 ho9 hf9 hd9 HK9
        have hrf9 := Below.refl w9.heap.size w9
        obtain ⟨p0, p1, p2, p3⟩ := HQ.out w9 hrf9
        go_wp2_with fail
        refine (HUn.out _).mono ?_
        rintro e wA ⟨rfl, hbA⟩
        have hb1A : Hid (Below w1.heap.size w1 wA) := Lib.hid (hb19.out.trans (hbA.mono hb19.out.size))
        have hb9A := Lib.hid hbA
        clear p0 p1 p2 p3 hbA
        go_wp2_with fail
        go_loopg [15, 16] i (fun q v15 v16 wx => ∃ (k : Nat) (S : ByteArray), q = i - k ∧ k ≤ i ∧ v15 = .string S ∧ v16 = .int .i64 k ∧ wx = wA ∧ Hid (S = bs (txtF 0 (T.take k))))
        case atStart => exact ⟨0, _, rfl, Nat.zero_le _, rfl, rfl, rfl, Lib.hid rfl⟩
        case round =>
          obtain ⟨k, S, rfl, hk, rfl, rfl, hwr, hS⟩ := hrel
          replace hwr := hwr.symm
          subst hwr
          have hSz : S.size ≤ 201201 := by
            rw [hS.out]
            show (txtF 0 (T.take k)).toArray.size ≤ 201201
            rw [List.size_toArray]
            exact hTlen.out k
          by_cases hkn : k < i
          · have f2 : (k : Int) < i := by omega
            obtain ⟨t, ht⟩ : ∃ t, T[k]? = some t := ⟨_, List.getElem?_eq_getElem (by rw [HN.out]; exact hkn)⟩
            obtain ⟨b, o, hao, x0, x1, x2⟩ := HK.out wA hb1A.out k t ht
            subst hao
            have g1 : IntKind.i64.wrap ((k : Int) + 1) = (k : Int) + 1 := IntWalk.i64_in _ (by omega)
            have hst := txtF_take ht
            have htz := hTz.out t (List.mem_of_getElem? ht)
            have hl1 : (⟨#[32]⟩ : ByteArray).size = 1 := rfl
            have hsp : (0 < k ∧ t.sp = true) ∨ (0 < k ∧ t.sp = false) ∨ ¬ 0 < k := by cases t.sp <;> simp <;> omega
            clear x0
            generalize htt : t.text = tt at x1 hst htz
            generalize hts : t.sp = ts at x2 hsp
            have hnx : Hid (bs (txtF 0 (T.take (k + 1))) = S ++ (if 0 < k ∧ ts = true then (⟨#[32]⟩ : ByteArray) else ⟨#[]⟩) ++ tt) := Lib.hid (by
              rw [hst, hS.out]
              unfold spT
              rw [hts]
              split <;> (apply ByteArray.ext; simp))
            clear hst htt hts
            replace ht := Lib.hid ht
            rcases hsp with ⟨hk0, rfl⟩ | ⟨hk0, rfl⟩ | hk0
            · have f3 : (0 : Int) < (k : Int) := by omega
              have f4 : decide ((0 : Int) < (k : Int)) = true := decide_eq_true f3
              have z1 : S.size + (⟨#[32]⟩ : ByteArray).size ≤ 9223372036854775807 := by omega
              have z2 : (S ++ (⟨#[32]⟩ : ByteArray)).size + tt.size ≤ 9223372036854775807 := by rw [ByteArray.size_append]; omega
              go_wp2_with fail
              go_roundg (i - (k + 1))
              case measure => omega
              case rel =>
                have h := hnx.out
                rw [if_pos ⟨hk0, trivial⟩] at h
                exact ⟨k + 1, _, rfl, hkn, rfl, by go_num, rfl, Lib.hid h.symm⟩
            · have f3 : (0 : Int) < (k : Int) := by omega
              have f4 : decide ((0 : Int) < (k : Int)) = true := decide_eq_true f3
              have z2 : S.size + tt.size ≤ 9223372036854775807 := by omega
              go_wp2_with fail
              go_roundg (i - (k + 1))
              case measure => omega
              case rel =>
                have h := hnx.out
                rw [if_neg (by simp)] at h
                exact ⟨k + 1, _, rfl, hkn, rfl, by go_num, rfl, Lib.hid (by rw [h]; congr 1; apply ByteArray.ext; simp)⟩
            · have f3 : ¬ (0 : Int) < (k : Int) := by omega
              have f4 : decide ((0 : Int) < (k : Int)) = false := decide_eq_false f3
              have z2 : S.size + tt.size ≤ 9223372036854775807 := by omega
              go_wp2_with fail
              go_roundg (i - (k + 1))
              case measure => omega
              case rel =>
                have h := hnx.out
                rw [if_neg (fun h => hk0 h.1)] at h
                exact ⟨k + 1, _, rfl, hkn, rfl, by go_num, rfl, Lib.hid (by rw [h]; congr 1; apply ByteArray.ext; simp)⟩
          · obtain rfl : k = i := by omega
            have f2 : ¬ (k : Int) < k := by omega
            have htk : T.take k = T := List.take_of_length_le (by rw [HN.out]; exact Nat.le_refl _)
            have hSe := hS.out
            rw [htk] at hSe
            have hSd : S.data.toList = txtF 0 T := by rw [hSe]
            replace hSe := Lib.hid hSe
            replace hSd := Lib.hid hSd
            replace htk := Lib.hid htk
            go_wp2_with fail
            go_loopg [17, 18] S.size (fun q v17 v18 wx => ∃ (j : Nat) (pb : Bool), q = S.size - j ∧ j ≤ S.size ∧ v17 = .bool pb ∧ v18 = .int .i64 j ∧ wx = wA ∧ Hid (pb = plainHB (S.data.toList.take j)))
            case atStart => exact ⟨0, true, rfl, Nat.zero_le _, rfl, rfl, rfl, Lib.hid rfl⟩
            case round =>
              obtain ⟨j, pb, rfl, hj, rfl, rfl, hwr2, hpb⟩ := hrel
              replace hwr2 := hwr2.symm
              subst hwr2
              by_cases hjs : j < S.size
              · have f3 : (j : Int) < (S.size : Int) := by omega
                have g1 : IntKind.i64.wrap ((j : Int) + 1) = (j : Int) + 1 := IntWalk.i64_in _ (by omega)
                obtain ⟨c, hc⟩ : ∃ c, c = S[j]'hjs := ⟨_, rfl⟩
                have hcl : S.data.toList[j]? = some c := by
                  rw [hc, List.getElem?_eq_getElem (by rw [Array.length_toList]; exact hjs)]
                  rfl
                have hnx : Hid (plainHB (S.data.toList.take (j + 1)) = (pb && (c != 92 && c != 34))) := Lib.hid (by rw [plainHB_take hcl, hpb.out])
                have h92 : c ≠ 92 ∨ c = 92 := by by_cases h : c = 92; exact .inr h; exact .inl h
                have h34 : c ≠ 34 ∨ c = 34 := by by_cases h : c = 34; exact .inr h; exact .inl h
                replace hcl := Lib.hid hcl
                cases pb with
                | false =>
                  go_wp2_with fail
                  go_roundg (S.size - (j + 1))
                  case measure => omega
                  case rel => exact ⟨j + 1, false, rfl, hjs, rfl, by go_num, rfl, Lib.hid (by rw [hnx.out]; rfl)⟩
                | true =>
                  rcases h92 with h92 | h92
                  · have d1 : ¬ ((S[j]'hjs).toNat : Int) = 92 := by
                      rw [← hc]; intro e; apply h92; rw [← UInt8.toNat_inj]; show c.toNat = 92; omega
                    rcases h34 with h34 | h34
                    · have d2 : ¬ ((S[j]'hjs).toNat : Int) = 34 := by
                        rw [← hc]; intro e; apply h34; rw [← UInt8.toNat_inj]; show c.toNat = 34; omega
                      have d3 : (((S[j]'hjs).toNat : Int) != 34) = true := by simpa using d2
                      clear hc
                      go_wp2_with fail
                      go_roundg (S.size - (j + 1))
                      case measure => omega
                      case rel => exact ⟨j + 1, true, rfl, hjs, rfl, by go_num, rfl, Lib.hid (by rw [hnx.out]; simp [h92, h34])⟩
                    · have d2 : ((S[j]'hjs).toNat : Int) = 34 := by rw [← hc, h34]; rfl
                      have d3 : (((S[j]'hjs).toNat : Int) != 34) = false := by simpa using d2
                      clear hc
                      go_wp2_with fail
                      go_roundg (S.size - (j + 1))
                      case measure => omega
                      case rel => exact ⟨j + 1, false, rfl, hjs, rfl, by go_num, rfl, Lib.hid (by rw [hnx.out]; simp [h34])⟩
                  · have d1 : ((S[j]'hjs).toNat : Int) = 92 := by rw [← hc, h92]; rfl
                    have d3 : (((S[j]'hjs).toNat : Int) != 92) = false := by simpa using d1
                    clear hc
                    go_wp2_with fail
                    go_roundg (S.size - (j + 1))
                    case measure => omega
                    case rel => exact ⟨j + 1, false, rfl, hjs, rfl, by go_num, rfl, Lib.hid (by rw [hnx.out]; simp [h92])⟩
              · obtain rfl : j = S.size := by omega
                have f3 : ¬ (S.size : Int) < (S.size : Int) := by omega
                have hpb2 : pb = plainHB (txtF 0 T) := by rw [hpb.out, List.take_of_length_le (by rw [Array.length_toList]; exact Nat.le_refl _), hSd.out]
                have hrfA := Below.refl wA.heap.size wA
                have hb0' := hrfA.drew
                have HStA : Hid (∀ x, Below wA.heap.size wA x → Calls Tryz.prog 17 #[.slice ao1 k cap1] x fun e w' => e = .returned (.string qx) ∧ Below wA.heap.size wA w') := Lib.hid fun x hx => (HStr.out x (hb1A.out.trans (hx.mono hb1A.out.size))).mono fun e w' ⟨h1, h2⟩ => ⟨h1, hx.trans (h2.mono hx.size)⟩
                obtain ⟨_, _, p2, _⟩ := HQ.out wA hb9A.out
                cases hpv : plainHB (txtF 0 T) with
                | true =>
                  rw [hpv] at hpb2
                  subst hpb2
                  have hbk := hTback.out (by
                    intro c hc
                    unfold plainHB at hpv
                    rw [List.all_eq_true] at hpv
                    have := hpv c hc
                    simp only [Bool.and_eq_true, bne_iff_ne, ne_eq] at this
                    exact ⟨this.2, this.1⟩)
                  obtain ⟨hus, huo⟩ := hu.out _ hbk
                  obtain rfl : us = S := by rw [hus, hSe.out]
                  subst huo
                  clear hus
                  replace hbk := Lib.hid hbk
                  replace hpv := Lib.hid hpv
                  go_upto_region 31 with fail
                  refine wp_region_any (by kernel_rfl) ?_
                  change wpAny _ _ _ _ _ _ _ (World.drew _)
                  refine wpAny_take (i := 0) (v := ?v0) rfl (by kernel_rfl) (by kernel_rfl) (by kernel_rfl) (fun _ _ _ h => h) (Or.inl ⟨by kernel_rfl, ?hy0⟩) ?_
                  case hy0 =>
                    intro w'
                    go_simp
                    try with_reducible rfl
                  refine wpAny_take (i := 1) (v := ?v1) rfl (by kernel_rfl) (by kernel_rfl) (by kernel_rfl) (fun _ _ _ h => h) (Or.inl ⟨by kernel_rfl, ?hy1⟩) ?_
                  case hy1 =>
                    intro w'
                    go_simp
                    try with_reducible rfl
                  refine wpAny_take (i := 2) (v := ?v2) rfl (by kernel_rfl) (by kernel_rfl) (by kernel_rfl) (fun _ _ _ h => h) (Or.inl ⟨by kernel_rfl, ?hy2⟩) ?_
                  case hy2 =>
                    intro w'
                    go_simp
                    try with_reducible rfl
                  refine wpAny_take (i := 3) (v := ?v3) rfl (by kernel_rfl) (by kernel_rfl) (by kernel_rfl) (fun _ _ _ h => h) (Or.inl ⟨by kernel_rfl, ?hy3⟩) ?_
                  case hy3 =>
                    intro w'
                    go_simp
                    try with_reducible rfl
                  refine wpAny_take (i := 4) (v := ?v4) rfl (by kernel_rfl) (by kernel_rfl) (by kernel_rfl) (fun _ _ _ h => h) (Or.inl ⟨by kernel_rfl, ?hy4⟩) ?_
                  case hy4 =>
                    intro w'
                    go_simp
                    try with_reducible rfl
                  refine wpAny_take (i := 5) (v := ?v5) rfl (by kernel_rfl) (by kernel_rfl) (by kernel_rfl) (fun _ _ _ h => h) (Or.inl ⟨by kernel_rfl, ?hy5⟩) ?_
                  case hy5 =>
                    intro w'
                    go_simp
                    try with_reducible rfl
                  refine wpAny_take (i := 6) (v := ?v6) rfl (by kernel_rfl) (by kernel_rfl) (by kernel_rfl) (fun _ _ _ h => h) (Or.inl ⟨by kernel_rfl, ?hy6⟩) ?_
                  case hy6 =>
                    intro w'
                    go_simp
                    try with_reducible rfl
                  refine wpAny_take (i := 7) (v := ?v7) rfl (by kernel_rfl) (by kernel_rfl) (by kernel_rfl) (fun _ _ _ h => h) (Or.inl ⟨by kernel_rfl, ?hy7⟩) ?_
                  case hy7 =>
                    intro w'
                    go_simp
                    try with_reducible rfl
                  refine wpAny_take (i := 8) (v := ?v8) rfl (by kernel_rfl) (by kernel_rfl) (by kernel_rfl) (fun _ _ _ h => h) (Or.inl ⟨by kernel_rfl, ?hy8⟩) ?_
                  case hy8 =>
                    intro w'
                    go_simp
                    try with_reducible rfl
                  refine wpAny_take (i := 9) (v := ?v9) rfl (by kernel_rfl) (by kernel_rfl) (by kernel_rfl) (fun _ _ _ h => h) (Or.inl ⟨by kernel_rfl, ?hy9⟩) ?_
                  case hy9 =>
                    intro w'
                    go_simp
                    try with_reducible rfl
                  refine wpAny_take (i := 10) (v := ?v10) rfl (by kernel_rfl) (by kernel_rfl) (by kernel_rfl) (fun _ _ _ h => h) (Or.inl ⟨by kernel_rfl, ?hy10⟩) ?_
                  case hy10 =>
                    intro w'
                    go_simp
                    try with_reducible rfl
                  refine wpAny_take (i := 11) (v := ?v11) rfl (by kernel_rfl) (by kernel_rfl) (by kernel_rfl) (fun _ _ _ h => h) (Or.inl ⟨by kernel_rfl, ?hy11⟩) ?_
                  case hy11 =>
                    intro w'
                    go_simp
                    try with_reducible rfl
                  refine wpAny_take (i := 12) (v := ?v12) rfl (by kernel_rfl) (by kernel_rfl) (by kernel_rfl) (fun _ _ _ h => h) (Or.inl ⟨by kernel_rfl, ?hy12⟩) ?_
                  case hy12 =>
                    intro w'
                    go_simp
                    try with_reducible rfl
                  refine wpAny_take (i := 13) (v := ?v13) rfl (by kernel_rfl) (by kernel_rfl) (by kernel_rfl) (fun _ _ _ h => h) (Or.inl ⟨by kernel_rfl, ?hy13⟩) ?_
                  case hy13 =>
                    intro w'
                    go_simp
                    try with_reducible rfl
                  refine wpAny_take (i := 15) (v := ?v15) rfl (by kernel_rfl) (by kernel_rfl) (by kernel_rfl) (fun _ _ _ h => h) (Or.inl ⟨by kernel_rfl, ?hy15⟩) ?_
                  case hy15 =>
                    intro w'
                    go_simp
                    try with_reducible rfl
                  refine wpAny_ready (rs := [14, 16]) (by kernel_rfl) (by simp) ?_
                  refine AllReady.cons rfl (fun K hK => ?_) (AllReady.cons rfl (fun K hK => ?_) AllReady.nil)
                  · go_simp
                    refine hK _ _ ?_
                    clear hK K
                    refine wpAny_ready (rs := [16]) (by kernel_rfl) (by simp) ?_
                    refine AllReady.cons rfl (fun K hK => ?_) AllReady.nil
                    go_simp
                    go_wp2_with (go_at_call 17; refine (HStA.out _ hb0').mono ?_; rintro e wB ⟨rfl, hbB⟩)
                    refine wpAny_take (i := 17) (v := ?v17) rfl (by kernel_rfl) (by kernel_rfl) (by kernel_rfl) (fun _ _ _ h => h) (Or.inl ⟨by kernel_rfl, ?hy17⟩) ?_
                    case hy17 =>
                      intro w'
                      go_simp
                      try with_reducible rfl
                    refine wpAny_take (i := 18) (v := ?v18) rfl (by kernel_rfl) (by kernel_rfl) (by kernel_rfl) (fun _ _ _ h => h) (Or.inl ⟨by kernel_rfl, ?hy18⟩) ?_
                    case hy18 =>
                      intro w'
                      go_simp
                      try with_reducible rfl
                    refine wpAny_take (i := 19) (v := ?v19) rfl (by kernel_rfl) (by kernel_rfl) (by kernel_rfl) (fun _ _ _ h => h) (Or.inl ⟨by kernel_rfl, ?hy19⟩) ?_
                    case hy19 =>
                      intro w'
                      go_simp
                      try with_reducible rfl
                    refine wpAny_ready (rs := [20]) (by kernel_rfl) (by simp) ?_
                    refine AllReady.cons rfl (fun K hK => ?_) AllReady.nil
                    go_simp
                    go_wp2_with (go_at_call 32; refine (HAw.out _).mono ?_; rintro e wC ⟨rfl, hbC⟩)
                    refine wpAny_take (i := 21) (v := ?v21) rfl (by kernel_rfl) (by kernel_rfl) (by kernel_rfl) (fun _ _ _ h => h) (Or.inl ⟨by kernel_rfl, ?hy21⟩) ?_
                    case hy21 =>
                      intro w'
                      go_simp
                      try with_reducible rfl
                    refine wpAny_take (i := 22) (v := ?v22) rfl (by kernel_rfl) (by kernel_rfl) (by kernel_rfl) (fun _ _ _ h => h) (Or.inl ⟨by kernel_rfl, ?hy22⟩) ?_
                    case hy22 =>
                      intro w'
                      go_simp
                      try with_reducible rfl
                    refine wpAny_done (by kernel_rfl) ?_ _
                    go_wp2
                    go_ret
                    have hbZ := hbB.trans (hbC.mono hbB.size)
                    exact ⟨rfl, hb1.out.trans ((hb1A.out.trans (hbZ.mono hb1A.out.size)).mono hb1.out.size)⟩
                  · go_simp
                    go_wp2_with (go_at_call 17; refine (HStA.out _ hb0').mono ?_; rintro e wB ⟨rfl, hbB⟩)
                    have p2B := (HQ.out wB (hb9A.out.trans (hbB.mono hb9A.out.size))).2.2.1
                    refine wpAny_ready (rs := [14]) (by kernel_rfl) (by simp) ?_
                    refine AllReady.cons rfl (fun K hK => ?_) AllReady.nil
                    go_simp
                    refine hK _ _ ?_
                    clear hK K
                    refine wpAny_take (i := 17) (v := ?v17) rfl (by kernel_rfl) (by kernel_rfl) (by kernel_rfl) (fun _ _ _ h => h) (Or.inl ⟨by kernel_rfl, ?hy17⟩) ?_
                    case hy17 =>
                      intro w'
                      go_simp
                      try with_reducible rfl
                    refine wpAny_take (i := 18) (v := ?v18) rfl (by kernel_rfl) (by kernel_rfl) (by kernel_rfl) (fun _ _ _ h => h) (Or.inl ⟨by kernel_rfl, ?hy18⟩) ?_
                    case hy18 =>
                      intro w'
                      go_simp
                      try with_reducible rfl
                    refine wpAny_take (i := 19) (v := ?v19) rfl (by kernel_rfl) (by kernel_rfl) (by kernel_rfl) (fun _ _ _ h => h) (Or.inl ⟨by kernel_rfl, ?hy19⟩) ?_
                    case hy19 =>
                      intro w'
                      go_simp
                      try with_reducible rfl
                    refine wpAny_ready (rs := [20]) (by kernel_rfl) (by simp) ?_
                    refine AllReady.cons rfl (fun K hK => ?_) AllReady.nil
                    go_simp
                    go_wp2_with (go_at_call 32; refine (HAw.out _).mono ?_; rintro e wC ⟨rfl, hbC⟩)
                    refine wpAny_take (i := 21) (v := ?v21) rfl (by kernel_rfl) (by kernel_rfl) (by kernel_rfl) (fun _ _ _ h => h) (Or.inl ⟨by kernel_rfl, ?hy21⟩) ?_
                    case hy21 =>
                      intro w'
                      go_simp
                      try with_reducible rfl
                    refine wpAny_take (i := 22) (v := ?v22) rfl (by kernel_rfl) (by kernel_rfl) (by kernel_rfl) (fun _ _ _ h => h) (Or.inl ⟨by kernel_rfl, ?hy22⟩) ?_
                    case hy22 =>
                      intro w'
                      go_simp
                      try with_reducible rfl
                    refine wpAny_done (by kernel_rfl) ?_ _
                    go_wp2
                    go_ret
                    have hbZ := hbB.trans (hbC.mono hbB.size)
                    exact ⟨rfl, hb1.out.trans ((hb1A.out.trans (hbZ.mono hb1A.out.size)).mono hb1.out.size)⟩
                | false =>
                  rw [hpv] at hpb2
                  subst hpb2
                  replace hpv := Lib.hid hpv
                  go_upto_region 31 with fail
                  refine wp_region_any (by kernel_rfl) ?_
                  change wpAny _ _ _ _ _ _ _ (World.drew _)
                  refine wpAny_take (i := 0) (v := ?fv0) rfl (by kernel_rfl) (by kernel_rfl) (by kernel_rfl) (fun _ _ _ h => h) (Or.inl ⟨by kernel_rfl, ?fhy0⟩) ?_
                  case fhy0 =>
                    intro w'
                    go_simp
                    try with_reducible rfl
                  refine wpAny_take (i := 1) (v := ?fv1) rfl (by kernel_rfl) (by kernel_rfl) (by kernel_rfl) (fun _ _ _ h => h) (Or.inl ⟨by kernel_rfl, ?fhy1⟩) ?_
                  case fhy1 =>
                    intro w'
                    go_simp
                    try with_reducible rfl
                  refine wpAny_take (i := 2) (v := ?fv2) rfl (by kernel_rfl) (by kernel_rfl) (by kernel_rfl) (fun _ _ _ h => h) (Or.inl ⟨by kernel_rfl, ?fhy2⟩) ?_
                  case fhy2 =>
                    intro w'
                    go_simp
                    try with_reducible rfl
                  refine wpAny_take (i := 3) (v := undef) rfl (by kernel_rfl) (by kernel_rfl) (by kernel_rfl) (fun _ _ _ h => h) (Or.inr ⟨by kernel_rfl, rfl⟩) ?_
                  refine wpAny_take (i := 4) (v := undef) rfl (by kernel_rfl) (by kernel_rfl) (by kernel_rfl) (fun _ _ _ h => h) (Or.inr ⟨by kernel_rfl, rfl⟩) ?_
                  refine wpAny_take (i := 5) (v := undef) rfl (by kernel_rfl) (by kernel_rfl) (by kernel_rfl) (fun _ _ _ h => h) (Or.inr ⟨by kernel_rfl, rfl⟩) ?_
                  refine wpAny_take (i := 6) (v := undef) rfl (by kernel_rfl) (by kernel_rfl) (by kernel_rfl) (fun _ _ _ h => h) (Or.inr ⟨by kernel_rfl, rfl⟩) ?_
                  refine wpAny_take (i := 7) (v := undef) rfl (by kernel_rfl) (by kernel_rfl) (by kernel_rfl) (fun _ _ _ h => h) (Or.inr ⟨by kernel_rfl, rfl⟩) ?_
                  refine wpAny_take (i := 8) (v := undef) rfl (by kernel_rfl) (by kernel_rfl) (by kernel_rfl) (fun _ _ _ h => h) (Or.inr ⟨by kernel_rfl, rfl⟩) ?_
                  refine wpAny_take (i := 9) (v := ?fv9) rfl (by kernel_rfl) (by kernel_rfl) (by kernel_rfl) (fun _ _ _ h => h) (Or.inl ⟨by kernel_rfl, ?fhy9⟩) ?_
                  case fhy9 =>
                    intro w'
                    go_simp
                    try with_reducible rfl
                  refine wpAny_take (i := 10) (v := ?fv10) rfl (by kernel_rfl) (by kernel_rfl) (by kernel_rfl) (fun _ _ _ h => h) (Or.inl ⟨by kernel_rfl, ?fhy10⟩) ?_
                  case fhy10 =>
                    intro w'
                    go_simp
                    try with_reducible rfl
                  refine wpAny_take (i := 11) (v := ?fv11) rfl (by kernel_rfl) (by kernel_rfl) (by kernel_rfl) (fun _ _ _ h => h) (Or.inl ⟨by kernel_rfl, ?fhy11⟩) ?_
                  case fhy11 =>
                    intro w'
                    go_simp
                    try with_reducible rfl
                  refine wpAny_take (i := 12) (v := ?fv12) rfl (by kernel_rfl) (by kernel_rfl) (by kernel_rfl) (fun _ _ _ h => h) (Or.inl ⟨by kernel_rfl, ?fhy12⟩) ?_
                  case fhy12 =>
                    intro w'
                    go_simp
                    try with_reducible rfl
                  refine wpAny_take (i := 13) (v := ?fv13) rfl (by kernel_rfl) (by kernel_rfl) (by kernel_rfl) (fun _ _ _ h => h) (Or.inl ⟨by kernel_rfl, ?fhy13⟩) ?_
                  case fhy13 =>
                    intro w'
                    go_simp
                    try with_reducible rfl
                  refine wpAny_take (i := 15) (v := ?fv15) rfl (by kernel_rfl) (by kernel_rfl) (by kernel_rfl) (fun _ _ _ h => h) (Or.inl ⟨by kernel_rfl, ?fhy15⟩) ?_
                  case fhy15 =>
                    intro w'
                    go_simp
                    try with_reducible rfl
                  refine wpAny_ready (rs := [14, 16]) (by kernel_rfl) (by simp) ?_
                  refine AllReady.cons rfl (fun K hK => ?_) (AllReady.cons rfl (fun K hK => ?_) AllReady.nil)
                  · go_simp
                    refine hK _ _ ?_
                    clear hK K
                    refine wpAny_ready (rs := [16]) (by kernel_rfl) (by simp) ?_
                    refine AllReady.cons rfl (fun K hK => ?_) AllReady.nil
                    go_simp
                    go_wp2_with (go_at_call 17; refine (HStA.out _ hb0').mono ?_; rintro e wB ⟨rfl, hbB⟩)
                    refine wpAny_take (i := 17) (v := ?fv17) rfl (by kernel_rfl) (by kernel_rfl) (by kernel_rfl) (fun _ _ _ h => h) (Or.inl ⟨by kernel_rfl, ?fhy17⟩) ?_
                    case fhy17 =>
                      intro w'
                      go_simp
                      try with_reducible rfl
                    refine wpAny_take (i := 18) (v := ?fv18) rfl (by kernel_rfl) (by kernel_rfl) (by kernel_rfl) (fun _ _ _ h => h) (Or.inl ⟨by kernel_rfl, ?fhy18⟩) ?_
                    case fhy18 =>
                      intro w'
                      go_simp
                      try with_reducible rfl
                    refine wpAny_take (i := 19) (v := ?fv19) rfl (by kernel_rfl) (by kernel_rfl) (by kernel_rfl) (fun _ _ _ h => h) (Or.inl ⟨by kernel_rfl, ?fhy19⟩) ?_
                    case fhy19 =>
                      intro w'
                      go_simp
                      try with_reducible rfl
                    refine wpAny_ready (rs := [20]) (by kernel_rfl) (by simp) ?_
                    refine AllReady.cons rfl (fun K hK => ?_) AllReady.nil
                    go_simp
                    go_wp2_with (go_at_call 32; refine (HAw.out _).mono ?_; rintro e wC ⟨rfl, hbC⟩)
                    refine wpAny_take (i := 21) (v := ?fv21) rfl (by kernel_rfl) (by kernel_rfl) (by kernel_rfl) (fun _ _ _ h => h) (Or.inl ⟨by kernel_rfl, ?fhy21⟩) ?_
                    case fhy21 =>
                      intro w'
                      go_simp
                      try with_reducible rfl
                    refine wpAny_take (i := 22) (v := ?fv22) rfl (by kernel_rfl) (by kernel_rfl) (by kernel_rfl) (fun _ _ _ h => h) (Or.inl ⟨by kernel_rfl, ?fhy22⟩) ?_
                    case fhy22 =>
                      intro w'
                      go_simp
                      try with_reducible rfl
                    refine wpAny_done (by kernel_rfl) ?_ _
                    go_wp2
                    go_ret
                    have hbZ := hbB.trans (hbC.mono hbB.size)
                    exact ⟨rfl, hb1.out.trans ((hb1A.out.trans (hbZ.mono hb1A.out.size)).mono hb1.out.size)⟩
                  · go_simp
                    go_wp2_with (go_at_call 17; refine (HStA.out _ hb0').mono ?_; rintro e wB ⟨rfl, hbB⟩)
                    have p2B := (HQ.out wB (hb9A.out.trans (hbB.mono hb9A.out.size))).2.2.1
                    refine wpAny_ready (rs := [14]) (by kernel_rfl) (by simp) ?_
                    refine AllReady.cons rfl (fun K hK => ?_) AllReady.nil
                    go_simp
                    refine hK _ _ ?_
                    clear hK K
                    refine wpAny_take (i := 17) (v := ?fv17) rfl (by kernel_rfl) (by kernel_rfl) (by kernel_rfl) (fun _ _ _ h => h) (Or.inl ⟨by kernel_rfl, ?fhy17⟩) ?_
                    case fhy17 =>
                      intro w'
                      go_simp
                      try with_reducible rfl
                    refine wpAny_take (i := 18) (v := ?fv18) rfl (by kernel_rfl) (by kernel_rfl) (by kernel_rfl) (fun _ _ _ h => h) (Or.inl ⟨by kernel_rfl, ?fhy18⟩) ?_
                    case fhy18 =>
                      intro w'
                      go_simp
                      try with_reducible rfl
                    refine wpAny_take (i := 19) (v := ?fv19) rfl (by kernel_rfl) (by kernel_rfl) (by kernel_rfl) (fun _ _ _ h => h) (Or.inl ⟨by kernel_rfl, ?fhy19⟩) ?_
                    case fhy19 =>
                      intro w'
                      go_simp
                      try with_reducible rfl
                    refine wpAny_ready (rs := [20]) (by kernel_rfl) (by simp) ?_
                    refine AllReady.cons rfl (fun K hK => ?_) AllReady.nil
                    go_simp
                    go_wp2_with (go_at_call 32; refine (HAw.out _).mono ?_; rintro e wC ⟨rfl, hbC⟩)
                    refine wpAny_take (i := 21) (v := ?fv21) rfl (by kernel_rfl) (by kernel_rfl) (by kernel_rfl) (fun _ _ _ h => h) (Or.inl ⟨by kernel_rfl, ?fhy21⟩) ?_
                    case fhy21 =>
                      intro w'
                      go_simp
                      try with_reducible rfl
                    refine wpAny_take (i := 22) (v := ?fv22) rfl (by kernel_rfl) (by kernel_rfl) (by kernel_rfl) (fun _ _ _ h => h) (Or.inl ⟨by kernel_rfl, ?fhy22⟩) ?_
                    case fhy22 =>
                      intro w'
                      go_simp
                      try with_reducible rfl
                    refine wpAny_done (by kernel_rfl) ?_ _
                    go_wp2
                    go_ret
                    have hbZ := hbB.trans (hbC.mono hbB.size)
                    exact ⟨rfl, hb1.out.trans ((hb1A.out.trans (hbZ.mono hb1A.out.size)).mono hb1.out.size)⟩

theorem substHash_walk (s : ByteArray) (hs : s.size ≤ maxLen) (sp : Bool) (w : World) :
    Calls Tryz.prog 10 #[.string s, .bool sp] w fun e w' => e = .returned (.bool true) ∧ Below w.heap.size w w' :=
  substHash_main s hs sp w
end Go.Proofs.YtfaoamdlknlgpaaGreat
