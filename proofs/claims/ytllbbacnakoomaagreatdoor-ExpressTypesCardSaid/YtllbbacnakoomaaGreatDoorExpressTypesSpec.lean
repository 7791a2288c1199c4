
/- ExpressTypes in plain Lean: a name that is a type, or none. -/
import Derived.Test.YtllbbacnakoomaaGreatDoorLexCan
namespace Go.Proofs.YtllbbacnakoomaaGreatDoor
set_option linter.unusedVariables false
set_option linter.unusedSimpArgs false

/-! ## a name of great letters -/

structure NmOk (N : List UInt8) : Prop where
  ne : N ≠ []
  up : ∀ c ∈ N, 65 ≤ c ∧ c ≤ 90

theorem up_id {c : UInt8} (h : 65 ≤ c ∧ c ≤ 90) : idB c = true := by
  unfold idB letterB
  simp [h]
theorem letters_up {c : UInt8} {r : List UInt8} (h : 65 ≤ c ∧ c ≤ 90) (hr : chAt r 0 ≠ 34 ∧ chAt r 0 ≠ 39) : lettersL (c :: r) 0 = -1 := by
  have h0 : chAt (c :: r) 0 = c := rfl
  have h1 : chAt (c :: r) (0 + 1) = chAt r 0 := rfl
  unfold lettersL
  rw [h0, h1, if_neg, if_neg, if_neg]
  · rintro ⟨_, h2 | h2⟩
    · exact hr.1 h2
    · exact hr.2 h2
  · rintro ⟨h2, _⟩
    subst h2
    exact absurd h.2 (by decide)
  · rintro (h2 | h2) <;> subst h2 <;> exact absurd h.1 (by decide)
theorem next_up {N r : List UInt8} (hN : NmOk N) (hr : idB (chAt r 0) = false) (hq : chAt r 0 ≠ 34 ∧ chAt r 0 ≠ 39) : nextL (N ++ r) 0 = (1, N.length, false) := by
  cases N with
  | nil => exact absurd rfl hN.ne
  | cons c t =>
    have hc := hN.up c (.head _)
    have ht : ∀ d ∈ t, 65 ≤ d ∧ d ≤ 90 := fun d hd => hN.up d (.tail _ hd)
    have h0 : chAt (c :: (t ++ r)) 0 = c := rfl
    have hl : lettersL (c :: (t ++ r)) 0 = -1 := letters_up hc (by
      cases t with
      | nil => exact hq
      | cons d t =>
        have hd := ht d (.head _)
        show d ≠ 34 ∧ d ≠ 39
        constructor <;> (rintro rfl; exact absurd hd.1 (by decide)))
    have hw : (t ++ r).takeWhile idB = t := by
      rw [List.takeWhile_append_of_pos fun d hd => up_id (ht d hd)]
      cases r with
      | nil => simp
      | cons d r =>
        have : idB d = false := hr
        simp [List.takeWhile, this]
    have hlet : letterB c = true := by unfold letterB; simp [hc]
    show nextL (c :: (t ++ r)) 0 = _
    unfold nextL
    rw [hl, h0]
    simp [hlet, hw, Nat.add_comm]
theorem key_up {N : List UInt8} (hN : NmOk N) : isKey (bs N) = false := by
  cases h : isKey (bs N) with
  | false => rfl
  | true =>
    unfold isKey at h
    obtain ⟨k, hk, e⟩ := List.any_eq_true.1 h
    have e : k = bs N := of_decide_eq_true e
    have hall : (keysL.all fun k => match k.data.toList with | [] => true | c :: _ => decide (c < 65) || decide (90 < c)) = true := by kernel_rfl
    have := List.all_eq_true.1 hall k hk
    rw [e] at this
    cases N with
    | nil => exact absurd rfl hN.ne
    | cons c t =>
      have hc := hN.up c (.head _)
      simp only [bs] at this
      rw [Bool.or_eq_true, decide_eq_true_eq, decide_eq_true_eq] at this
      rcases this with h | h
      · exact absurd hc.1 (UInt8.not_le.2 h)
      · exact absurd hc.2 (UInt8.not_le.2 h)

/-! ## the seven texts -/

abbrev sg (l : List UInt8) : Pq.Pc := some (5, l)
abbrev nm (l : List UInt8) : Pq.Pc := some (1, l)
abbrev nu (l : List UInt8) : Pq.Pc := some (2, l)

def typP (N : List UInt8) : Nat → List Pq.Pc
  | 0 => [sg ([40] : List UInt8), nm N, sg ([41] : List UInt8), sg ([40] : List UInt8), nm ([121] : List UInt8), sg ([41] : List UInt8)]
  | 1 => [sg ([40] : List UInt8), nm N, sg ([42] : List UInt8), sg ([41] : List UInt8), nm ([121] : List UInt8)]
  | 2 => [nm ([115, 105, 122, 101, 111, 102] : List UInt8), sg ([40] : List UInt8), nm N, sg ([41] : List UInt8)]
  | 3 => [sg ([40] : List UInt8), nm N, sg ([40] : List UInt8), sg ([42] : List UInt8), sg ([41] : List UInt8), sg ([40] : List UInt8), nm N, sg ([44] : List UInt8), none, sg ([46, 46, 46] : List UInt8), sg ([41] : List UInt8), sg ([41] : List UInt8), nu ([48] : List UInt8)]
  | _ => [sg ([40] : List UInt8), nm N, sg ([41] : List UInt8), sg ([123] : List UInt8), nu ([49] : List UInt8), sg ([44] : List UInt8), none, sg ([46] : List UInt8), nm ([97] : List UInt8), sg ([91] : List UInt8), nu ([50] : List UInt8), sg ([93] : List UInt8), none, sg ([61] : List UInt8), none, nu ([51] : List UInt8), sg ([125] : List UInt8), sg ([46] : List UInt8), nm ([98] : List UInt8)]
def typS (N : List UInt8) : Nat → List UInt8
  | 0 => ([40] : List UInt8) ++ N ++ ([41, 40, 121, 41] : List UInt8)
  | 1 => ([40] : List UInt8) ++ N ++ ([42, 41, 121] : List UInt8)
  | 2 => ([115, 105, 122, 101, 111, 102, 40] : List UInt8) ++ N ++ ([41] : List UInt8)
  | 3 => ([40] : List UInt8) ++ N ++ ([40, 42, 41, 40] : List UInt8) ++ N ++ ([44, 32, 46, 46, 46, 41, 41, 48] : List UInt8)
  | _ => ([40] : List UInt8) ++ N ++ ([41, 123, 49, 44, 32, 46, 97, 91, 50, 93, 32, 61, 32, 51, 125, 46, 98] : List UInt8)
theorem typ_flat (N : List UInt8) : ∀ k, Pq.flatP (typP N k) = typS N k
  | 0 => by simp [typP, typS, Pq.flatP]
  | 1 => by simp [typP, typS, Pq.flatP]
  | 2 => by simp [typP, typS, Pq.flatP]
  | 3 => by simp [typP, typS, Pq.flatP]
  | k + 4 => by simp [typP, typS, Pq.flatP]

theorem good_cons {k : Nat} {t : List UInt8} {ps : List Pq.Pc} {r : List UInt8} (hr : Pq.flatP ps ++ [10] = r) (h1 : t ≠ [] ∧ chAt t 0 ≠ 10 ∧ chAt t 0 ≠ 47 ∧ whiteB (chAt t 0) = false) (h2 : nextL (t ++ r) 0 = (k, t.length, false)) (h : Pq.GoodP ps) : Pq.GoodP (some (k, t) :: ps) := ⟨⟨h1.1, h1.2.1, h1.2.2.1, h1.2.2.2, by rw [hr]; exact h2⟩, h⟩
theorem good_name {N : List UInt8} (hN : NmOk N) {ps : List Pq.Pc} {r : List UInt8} {d : UInt8} (hr : Pq.flatP ps ++ [10] = r) (hd : chAt r 0 = d) (hk : idB d = false ∧ d ≠ 34 ∧ d ≠ 39) (h : Pq.GoodP ps) : Pq.GoodP (nm N :: ps) := by
  subst hd
  refine good_cons hr ?_ (next_up hN hk.1 hk.2) h
  cases N with
  | nil => exact absurd rfl hN.ne
  | cons c t =>
    have hc := hN.up c (.head _)
    refine ⟨by simp, ?_, ?_, ?_⟩
    · show c ≠ 10
      rintro rfl; exact absurd hc.1 (by decide)
    · show c ≠ 47
      rintro rfl; exact absurd hc.1 (by decide)
    · show whiteB c = false
      unfold whiteB
      simp only [decide_eq_false_iff_not]
      rintro (rfl | rfl | h2)
      · exact absurd hc.1 (by decide)
      · exact absurd hc.1 (by decide)
      · exact absurd (UInt8.le_trans hc.1 h2.2) (by decide)

theorem nx_open (r : List UInt8) : nextL (40 :: r) 0 = (5, 1, false) := Pq.next_sign (.inl rfl) r

theorem typ_good {N : List UInt8} (hN : NmOk N) : ∀ k, Pq.GoodP (typP N k)
  | 0 => good_cons rfl (by decide) (nx_open _) (good_name hN (d := 41) rfl rfl (by decide) (good_cons rfl (by decide) rfl (good_cons rfl (by decide) (nx_open _) (good_cons rfl (by decide) rfl (good_cons rfl (by decide) rfl trivial)))))
  | 1 => good_cons rfl (by decide) (nx_open _) (good_name hN (d := 42) rfl rfl (by decide) (good_cons rfl (by decide) rfl (good_cons rfl (by decide) rfl (good_cons rfl (by decide) rfl trivial))))
  | 2 => good_cons rfl (by decide) (Pq.next_name (c := 115) (t := [105, 122, 101, 111, 102]) rfl (by decide) (by decide) rfl) (good_cons rfl (by decide) (nx_open _) (good_name hN (d := 41) rfl rfl (by decide) (good_cons rfl (by decide) rfl trivial)))
  | 3 => good_cons rfl (by decide) (nx_open _) (good_name hN (d := 40) rfl rfl (by decide) (good_cons rfl (by decide) (nx_open _) (good_cons rfl (by decide) rfl (good_cons rfl (by decide) rfl (good_cons rfl (by decide) (nx_open _) (good_name hN (d := 44) rfl rfl (by decide) (good_cons rfl (by decide) rfl (show Pq.GoodP (none :: _) from (good_cons rfl (by decide) rfl (good_cons rfl (by decide) rfl (good_cons rfl (by decide) rfl (good_cons rfl (by decide) rfl trivial)))))))))))) 
  | k + 4 => good_cons rfl (by decide) (nx_open _) (good_name hN (d := 41) rfl rfl (by decide) (good_cons rfl (by decide) rfl (good_cons rfl (by decide) rfl (good_cons rfl (by decide) rfl (good_cons rfl (by decide) rfl (show Pq.GoodP (none :: _) from (good_cons rfl (by decide) rfl (good_cons rfl (by decide) rfl (good_cons rfl (by decide) rfl (good_cons rfl (by decide) rfl (good_cons rfl (by decide) rfl (show Pq.GoodP (none :: _) from (good_cons rfl (by decide) rfl (show Pq.GoodP (none :: _) from (good_cons rfl (by decide) rfl (good_cons rfl (by decide) rfl (good_cons rfl (by decide) rfl (good_cons rfl (by decide) rfl trivial))))))))))))))))))

theorem up_mem {N : List UInt8} (hN : NmOk N) {c : UInt8} (h : c ∈ N) : c ≠ 92 ∧ c ≠ 63 ∧ c ≠ 10 := by
  have hc := hN.up c h
  refine ⟨?_, ?_, ?_⟩ <;> rintro rfl
  · exact absurd hc.2 (by decide)
  · exact absurd hc.1 (by decide)
  · exact absurd hc.1 (by decide)
theorem typ_mem {N : List UInt8} (hN : NmOk N) (k : Nat) : ∀ c ∈ Pq.flatP (typP N k), c ≠ 92 ∧ c ≠ 63 ∧ c ≠ 10 := by
  rw [typ_flat]
  have hl : ∀ l : List UInt8, (l.all fun c => c != 92 && c != 63 && c != 10) = true → ∀ c ∈ l, c ≠ 92 ∧ c ≠ 63 ∧ c ≠ 10 := fun l h c hc => by
    have := List.all_eq_true.1 h c hc
    simp only [Bool.and_eq_true, bne_iff_ne] at this
    exact ⟨this.1.1, this.1.2, this.2⟩
  have ha : ∀ {a b : List UInt8}, (∀ c ∈ a, c ≠ 92 ∧ c ≠ 63 ∧ c ≠ 10) → (∀ c ∈ b, c ≠ 92 ∧ c ≠ 63 ∧ c ≠ 10) → ∀ c ∈ a ++ b, c ≠ 92 ∧ c ≠ 63 ∧ c ≠ 10 := fun h1 h2 c hc => (List.mem_append.1 hc).elim (h1 c) (h2 c)
  have hn : ∀ c ∈ N, c ≠ 92 ∧ c ≠ 63 ∧ c ≠ 10 := fun c h => up_mem hN h
  match k with
  | 0 => exact ha (ha (hl _ rfl) hn) (hl _ rfl)
  | 1 => exact ha (ha (hl _ rfl) hn) (hl _ rfl)
  | 2 => exact ha (ha (hl _ rfl) hn) (hl _ rfl)
  | 3 => exact ha (ha (ha (ha (hl _ rfl) hn) (hl _ rfl)) hn) (hl _ rfl)
  | k + 4 => exact ha (ha (hl _ rfl) hn) (hl _ rfl)

/-- a name's token -/
theorem pair_up {N : List UInt8} (hN : NmOk N) : Pq.pairT (1, N) = (1, bs N) ∧ Pq.pairB (1, N) = true := by
  have hk : kindT ⟨((1 : Nat) : Int), bs N, false, eB, 0, 0, false⟩ = 1 := by
    unfold kindT
    rw [if_pos (show (⟨((1 : Nat) : Int), bs N, false, eB, 0, 0, false⟩ : Tm).kind = 1 from rfl)]
    show (if isKey (bs N) = true then (2 : Int) else 1) = 1
    rw [key_up hN]
    rfl
  constructor
  · unfold Pq.pairT Pq.txtT
    simp only
    rw [hk, if_neg (by decide)]
  · unfold Pq.pairB Pq.plainT
    rw [hk]
    rfl

/-- the tokens of the texts -/
def typC (X : ByteArray) : Nat → List Ct
  | 0 => [Pq.ctOf (7, (⟨#[40]⟩ : ByteArray)), Pq.ctOf (1, X), Pq.ctOf (7, (⟨#[41]⟩ : ByteArray)), Pq.ctOf (7, (⟨#[40]⟩ : ByteArray)), Pq.ctOf (1, (⟨#[121]⟩ : ByteArray)), Pq.ctOf (7, (⟨#[41]⟩ : ByteArray)), endT]
  | 1 => [Pq.ctOf (7, (⟨#[40]⟩ : ByteArray)), Pq.ctOf (1, X), Pq.ctOf (7, (⟨#[42]⟩ : ByteArray)), Pq.ctOf (7, (⟨#[41]⟩ : ByteArray)), Pq.ctOf (1, (⟨#[121]⟩ : ByteArray)), endT]
  | 2 => [Pq.ctOf (2, (⟨#[115, 105, 122, 101, 111, 102]⟩ : ByteArray)), Pq.ctOf (7, (⟨#[40]⟩ : ByteArray)), Pq.ctOf (1, X), Pq.ctOf (7, (⟨#[41]⟩ : ByteArray)), endT]
  | 3 => [Pq.ctOf (7, (⟨#[40]⟩ : ByteArray)), Pq.ctOf (1, X), Pq.ctOf (7, (⟨#[40]⟩ : ByteArray)), Pq.ctOf (7, (⟨#[42]⟩ : ByteArray)), Pq.ctOf (7, (⟨#[41]⟩ : ByteArray)), Pq.ctOf (7, (⟨#[40]⟩ : ByteArray)), Pq.ctOf (1, X), Pq.ctOf (7, (⟨#[44]⟩ : ByteArray)), Pq.ctOf (7, (⟨#[46, 46, 46]⟩ : ByteArray)), Pq.ctOf (7, (⟨#[41]⟩ : ByteArray)), Pq.ctOf (7, (⟨#[41]⟩ : ByteArray)), Pq.ctOf (3, (⟨#[48]⟩ : ByteArray)), endT]
  | _ => [Pq.ctOf (7, (⟨#[40]⟩ : ByteArray)), Pq.ctOf (1, X), Pq.ctOf (7, (⟨#[41]⟩ : ByteArray)), Pq.ctOf (7, (⟨#[123]⟩ : ByteArray)), Pq.ctOf (3, (⟨#[49]⟩ : ByteArray)), Pq.ctOf (7, (⟨#[44]⟩ : ByteArray)), Pq.ctOf (7, (⟨#[46]⟩ : ByteArray)), Pq.ctOf (1, (⟨#[97]⟩ : ByteArray)), Pq.ctOf (7, (⟨#[91]⟩ : ByteArray)), Pq.ctOf (3, (⟨#[50]⟩ : ByteArray)), Pq.ctOf (7, (⟨#[93]⟩ : ByteArray)), Pq.ctOf (7, (⟨#[61]⟩ : ByteArray)), Pq.ctOf (3, (⟨#[51]⟩ : ByteArray)), Pq.ctOf (7, (⟨#[125]⟩ : ByteArray)), Pq.ctOf (7, (⟨#[46]⟩ : ByteArray)), Pq.ctOf (1, (⟨#[98]⟩ : ByteArray)), endT]

theorem typ_pair {N : List UInt8} (hN : NmOk N) (k : Nat) : ∀ p ∈ Pq.tokQ (typP N k), Pq.pairB p = true := by
  have hn := (pair_up hN).2
  intro p hp
  match k with
  | 0 =>
    have hp : p ∈ (typP N (0)).filterMap id := hp
    simp only [typP, sg, nm, nu, List.filterMap_cons, List.filterMap_nil, id_eq, List.mem_cons, List.not_mem_nil, or_false] at hp
    rcases hp with rfl | rfl | rfl | rfl | rfl | rfl
    all_goals first | exact hn | rfl
  | 1 =>
    have hp : p ∈ (typP N (1)).filterMap id := hp
    simp only [typP, sg, nm, nu, List.filterMap_cons, List.filterMap_nil, id_eq, List.mem_cons, List.not_mem_nil, or_false] at hp
    rcases hp with rfl | rfl | rfl | rfl | rfl
    all_goals first | exact hn | rfl
  | 2 =>
    have hp : p ∈ (typP N (2)).filterMap id := hp
    simp only [typP, sg, nm, nu, List.filterMap_cons, List.filterMap_nil, id_eq, List.mem_cons, List.not_mem_nil, or_false] at hp
    rcases hp with rfl | rfl | rfl | rfl
    all_goals first | exact hn | rfl
  | 3 =>
    have hp : p ∈ (typP N (3)).filterMap id := hp
    simp only [typP, sg, nm, nu, List.filterMap_cons, List.filterMap_nil, id_eq, List.mem_cons, List.not_mem_nil, or_false] at hp
    rcases hp with rfl | rfl | rfl | rfl | rfl | rfl | rfl | rfl | rfl | rfl | rfl | rfl
    all_goals first | exact hn | rfl
  | k + 4 =>
    have hp : p ∈ (typP N (k + 4)).filterMap id := hp
    simp only [typP, sg, nm, nu, List.filterMap_cons, List.filterMap_nil, id_eq, List.mem_cons, List.not_mem_nil, or_false] at hp
    rcases hp with rfl | rfl | rfl | rfl | rfl | rfl | rfl | rfl | rfl | rfl | rfl | rfl | rfl | rfl | rfl | rfl
    all_goals first | exact hn | rfl
theorem typ_can {N : List UInt8} (hN : NmOk N) (k : Nat) : Pq.canP (typP N k) = typC (bs N) k := by
  have hn := (pair_up hN).1
  match k with
  | 0 =>
    show ((typP N (0)).filterMap id).map (fun p => Pq.ctOf (Pq.pairT p)) ++ [endT] = _
    simp only [typP, sg, nm, nu, List.filterMap_cons, List.filterMap_nil, id_eq, List.map_cons, List.map_nil, hn]
    rfl
  | 1 =>
    show ((typP N (1)).filterMap id).map (fun p => Pq.ctOf (Pq.pairT p)) ++ [endT] = _
    simp only [typP, sg, nm, nu, List.filterMap_cons, List.filterMap_nil, id_eq, List.map_cons, List.map_nil, hn]
    rfl
  | 2 =>
    show ((typP N (2)).filterMap id).map (fun p => Pq.ctOf (Pq.pairT p)) ++ [endT] = _
    simp only [typP, sg, nm, nu, List.filterMap_cons, List.filterMap_nil, id_eq, List.map_cons, List.map_nil, hn]
    rfl
  | 3 =>
    show ((typP N (3)).filterMap id).map (fun p => Pq.ctOf (Pq.pairT p)) ++ [endT] = _
    simp only [typP, sg, nm, nu, List.filterMap_cons, List.filterMap_nil, id_eq, List.map_cons, List.map_nil, hn]
    rfl
  | k + 4 =>
    show ((typP N (k + 4)).filterMap id).map (fun p => Pq.ctOf (Pq.pairT p)) ++ [endT] = _
    simp only [typP, sg, nm, nu, List.filterMap_cons, List.filterMap_nil, id_eq, List.map_cons, List.map_nil, hn]
    rfl
theorem typ_toks {N : List UInt8} (hN : NmOk N) (k : Nat) : (toksU (typS N k)).map kt = (typC (bs N) k).map kt := by
  have := Pq.toks_can (typ_good hN k) (typ_mem hN k) (typ_pair hN k)
  rw [typ_flat, typ_can hN] at this
  exact this

/-! ## the name T, and another -/

def sw (N x : List UInt8) : List UInt8 := if x = [84] then N else if x = N then [84] else x
def fL (N : List UInt8) : List UInt8 → List UInt8
  | [] => sw N []
  | [c] => if c = 46 then 46 :: fL N [] else sw N [c]
  | c :: d :: r => if c = 46 then 46 :: fL N (d :: r) else if c = 45 ∧ d = 62 then 45 :: 62 :: fL N r else sw N (c :: d :: r)

theorem sw_sw (N x : List UInt8) : sw N (sw N x) = x := by
  unfold sw
  by_cases h1 : x = [84]
  · rw [if_pos h1]
    by_cases h2 : N = [84]
    · rw [if_pos h2, h2, h1]
    · rw [if_neg h2, if_pos rfl, h1]
  · rw [if_neg h1]
    by_cases h2 : x = N
    · rw [if_pos h2, if_pos rfl, h2]
    · rw [if_neg h2, if_neg h1, if_neg h2]
/-- what begins with no point and no arrow -/
theorem fL_plain (N : List UInt8) {x : List UInt8} (h1 : chAt x 0 ≠ 46) (h2 : chAt x 0 ≠ 45) : fL N x = sw N x := by
  match x with
  | [] => rfl
  | [c] =>
    replace h1 : c ≠ 46 := h1
    show (if c = 46 then _ else _) = _; rw [if_neg h1]
  | c :: d :: r =>
    replace h1 : c ≠ 46 := h1
    replace h2 : c ≠ 45 := h2
    show (if c = 46 then _ else _) = _; rw [if_neg h1, if_neg (fun h => h2 h.1)]
theorem fL_dot (N r : List UInt8) : fL N (46 :: r) = 46 :: fL N r := by
  cases r with
  | nil => rfl
  | cons d r => show (if (46 : UInt8) = 46 then _ else _) = _; rw [if_pos rfl]
theorem fL_arrow (N r : List UInt8) : fL N (45 :: 62 :: r) = 45 :: 62 :: fL N r := by
  show (if (45 : UInt8) = 46 then _ else _) = _
  rw [if_neg (by decide), if_pos ⟨rfl, rfl⟩]
theorem up_head {N : List UInt8} (hN : NmOk N) : chAt N 0 ≠ 46 ∧ chAt N 0 ≠ 45 := by
  cases N with
  | nil => exact absurd rfl hN.ne
  | cons c t =>
    have hc := hN.up c (.head _)
    constructor
    · show c ≠ 46
      rintro rfl; exact absurd hc.1 (by decide)
    · show c ≠ 45
      rintro rfl; exact absurd hc.1 (by decide)
theorem fL_sw {N : List UInt8} (hN : NmOk N) {x : List UInt8} (h : fL N x = sw N x) : fL N (sw N x) = x := by
  have hs := sw_sw N x
  by_cases h1 : x = [84]
  · subst h1
    have e : sw N [84] = N := by unfold sw; rw [if_pos rfl]
    rw [e] at hs ⊢
    rw [fL_plain N (up_head hN).1 (up_head hN).2, hs]
  · by_cases h2 : x = N
    · have e : sw N x = [84] := by unfold sw; rw [if_neg h1, if_pos h2]
      rw [e] at hs ⊢
      rw [fL_plain N (by decide) (by decide), hs]
    · have e : sw N x = x := by unfold sw; rw [if_neg h1, if_neg h2]
      rw [e] at h ⊢
      exact h
theorem fL_fL {N : List UInt8} (hN : NmOk N) : ∀ (n : Nat) (x : List UInt8), x.length ≤ n → fL N (fL N x) = x
  | n, [], _ => by
    have : fL N [] = sw N [] := rfl
    rw [this]; exact fL_sw hN this
  | 0, c :: r, h => by simp at h
  | n + 1, [c], h => by
    by_cases h1 : c = 46
    · subst h1
      rw [fL_dot, fL_dot, fL_fL hN n [] (Nat.zero_le _)]
    · have : fL N [c] = sw N [c] := by show (if c = 46 then _ else _) = _; rw [if_neg h1]
      rw [this]; exact fL_sw hN this
  | n + 1, c :: d :: r, h => by
    simp only [List.length_cons] at h
    by_cases h1 : c = 46
    · subst h1
      rw [fL_dot, fL_dot, fL_fL hN n (d :: r) (by simp only [List.length_cons]; omega)]
    · by_cases h2 : c = 45 ∧ d = 62
      · obtain ⟨rfl, rfl⟩ := h2
        rw [fL_arrow, fL_arrow, fL_fL hN n r (by omega)]
      · have : fL N (c :: d :: r) = sw N (c :: d :: r) := by show (if c = 46 then _ else _) = _; rw [if_neg h1, if_neg h2]
        rw [this]; exact fL_sw hN this

def fB (N : List UInt8) (x : ByteArray) : ByteArray := bs (fL N x.data.toList)
theorem fB_of {N l m : List UInt8} (h : fL N l = m) : fB N (bs l) = bs m := by unfold fB; rw [show (bs l).data.toList = l from rfl, h]
/-- a text that is neither -/
theorem fB_fix {N l : List UInt8} (h1 : fL N l = sw N l) (h2 : l ≠ [84]) (h3 : l ≠ N) : fB N (bs l) = bs l := fB_of (by rw [h1]; unfold sw; rw [if_neg h2, if_neg h3])
theorem ne_up {N l : List UInt8} (hN : NmOk N) (h : (match l with | [] => true | c :: _ => decide (c < 65) || decide (90 < c)) = true) : l ≠ N := by
  rintro rfl
  cases l with
  | nil => exact hN.ne rfl
  | cons c t =>
    have hc := hN.up c (.head _)
    simp only [Bool.or_eq_true, decide_eq_true_eq] at h
    rcases h with h | h
    · exact absurd hc.1 (UInt8.not_le.2 h)
    · exact absurd hc.2 (UInt8.not_le.2 h)
/-- small texts stay -/
def fixB (l : List UInt8) : Bool := match l with | [] => true | c :: _ => (decide (c < 65) || decide (90 < c)) && c != 46 && c != 45
theorem fB_small {N l : List UInt8} (hN : NmOk N) (h : fixB l = true) : fB N (bs l) = bs l := by
  cases l with
  | nil => exact fB_fix rfl (by decide) (fun h => hN.ne h.symm)
  | cons c t =>
    unfold fixB at h
    simp only [Bool.and_eq_true, bne_iff_ne] at h
    refine fB_fix (fL_plain N h.1.2 h.2) ?_ (ne_up hN h.1.1)
    rintro e
    rw [(List.cons.inj e).1] at h
    exact absurd h.1.1 (by decide)
theorem fB_dot {N : List UInt8} (x : ByteArray) : fB N ((⟨#[46]⟩ : ByteArray) ++ x) = (⟨#[46]⟩ : ByteArray) ++ fB N x := by
  have h : ((⟨#[46]⟩ : ByteArray) ++ x).data.toList = 46 :: x.data.toList := by rw [ByteArray.data_append, Array.toList_append]; rfl
  have h2 : fB N ((⟨#[46]⟩ : ByteArray) ++ x) = bs (46 :: fL N x.data.toList) := by unfold fB; rw [h, fL_dot]
  rw [h2]
  apply ByteArray.ext
  rw [ByteArray.data_append]
  apply Array.ext'
  rw [Array.toList_append]
  rfl
theorem fB_arrow {N : List UInt8} (x : ByteArray) : fB N ((⟨#[45, 62]⟩ : ByteArray) ++ x) = (⟨#[45, 62]⟩ : ByteArray) ++ fB N x := by
  have h : ((⟨#[45, 62]⟩ : ByteArray) ++ x).data.toList = 45 :: 62 :: x.data.toList := by rw [ByteArray.data_append, Array.toList_append]; rfl
  have h2 : fB N ((⟨#[45, 62]⟩ : ByteArray) ++ x) = bs (45 :: 62 :: fL N x.data.toList) := by unfold fB; rw [h, fL_arrow]
  rw [h2]
  apply ByteArray.ext
  rw [ByteArray.data_append]
  apply Array.ext'
  rw [Array.toList_append]
  rfl
theorem fB_inj {N : List UInt8} (hN : NmOk N) {a b : ByteArray} (h : fB N a = fB N b) : a = b := by
  have h1 : fL N a.data.toList = fL N b.data.toList := by
    have := congrArg (fun x : ByteArray => x.data.toList) h
    simpa [fB] using this
  have h2 : a.data.toList = b.data.toList := by
    rw [← fL_fL hN _ a.data.toList (Nat.le_refl _), h1, fL_fL hN _ b.data.toList (Nat.le_refl _)]
  apply ByteArray.ext
  exact Array.toList_inj.1 h2
theorem fB_T (N : List UInt8) : fB N (⟨#[84]⟩ : ByteArray) = bs N := by
  have : fL N [84] = N := by
    rw [fL_plain N (by decide) (by decide)]
    unfold sw
    rw [if_pos rfl]
  exact fB_of (l := [84]) this

/-- tokens' list, each with its text turned -/
theorem mv_list {N : List UInt8} (hN : NmOk N) {L L' : List Ct} (h : L'.map kt = L.map fun t => (t.kind, fB N t.text)) (hx : ∀ t ∈ L, t.kind ≠ 1 → fB N t.text = t.text) : Mv 0 (fB N) L L' := by
  have he : fB N eB = eB := fB_small hN (l := []) rfl
  have key : ∀ i : Int, 0 ≤ i → (tokP L' i).kind = (tokP L i).kind ∧ (tokP L' i).text = fB N (tokP L i).text := fun i hi => by
    unfold tokP
    rw [if_pos hi, if_pos hi]
    have h1 := congrArg (fun l => l[i.toNat]?) h
    simp only [List.getElem?_map] at h1
    cases h2 : L[i.toNat]? with
    | none =>
      rw [h2] at h1
      cases h3 : L'[i.toNat]? with
      | none => exact ⟨rfl, he.symm⟩
      | some y => rw [h3] at h1; cases h1
    | some x =>
      rw [h2] at h1
      cases h3 : L'[i.toNat]? with
      | none => rw [h3] at h1; cases h1
      | some y =>
        rw [h3] at h1
        have h4 := Prod.mk.inj (Option.some.inj h1)
        exact ⟨h4.1, h4.2⟩
  refine ⟨fun i hi => by rw [Int.add_zero]; exact (key i hi).1, fun i hi => by rw [Int.add_zero]; exact (key i hi).2, fun i hi hk => ?_, fun a b => fB_inj hN, he, fB_dot, fB_arrow, fB_small hN (l := ([116, 121, 112, 101, 100, 101, 102] : List UInt8)) rfl⟩
  unfold tokP at hk ⊢
  rw [if_pos hi] at hk ⊢
  cases h2 : L[i.toNat]? with
  | none => exact he
  | some x =>
    rw [h2] at hk
    exact hx x (List.mem_of_getElem? h2) hk

theorem typ_mv {N : List UInt8} (hN : NmOk N) (k : Nat) : Mv 0 (fB N) (typC (⟨#[84]⟩ : ByteArray) k) (typC (bs N) k) := by
  have hs : ∀ l, fixB l = true → fB N (bs l) = bs l := fun l h => fB_small hN h
  have hd : fB N (⟨#[46]⟩ : ByteArray) = (⟨#[46]⟩ : ByteArray) := fB_of (l := [46]) (by rw [fL_dot]; show 46 :: sw N [] = _; unfold sw; rw [if_neg (by decide), if_neg (fun h => hN.ne h.symm)])
  have hd3 : fB N (⟨#[46, 46, 46]⟩ : ByteArray) = (⟨#[46, 46, 46]⟩ : ByteArray) := fB_of (l := [46, 46, 46]) (by rw [fL_dot, fL_dot, fL_dot]; show 46 :: 46 :: 46 :: sw N [] = _; unfold sw; rw [if_neg (by decide), if_neg (fun h => hN.ne h.symm)])
  have hT := fB_T N
  have e1 : fB N (⟨#[40]⟩ : ByteArray) = (⟨#[40]⟩ : ByteArray) := hs ([40] : List UInt8) rfl
  have e2 : fB N (⟨#[41]⟩ : ByteArray) = (⟨#[41]⟩ : ByteArray) := hs ([41] : List UInt8) rfl
  have e3 : fB N (⟨#[121]⟩ : ByteArray) = (⟨#[121]⟩ : ByteArray) := hs ([121] : List UInt8) rfl
  have e4 : fB N (⟨#[42]⟩ : ByteArray) = (⟨#[42]⟩ : ByteArray) := hs ([42] : List UInt8) rfl
  have e5 : fB N (⟨#[115, 105, 122, 101, 111, 102]⟩ : ByteArray) = (⟨#[115, 105, 122, 101, 111, 102]⟩ : ByteArray) := hs ([115, 105, 122, 101, 111, 102] : List UInt8) rfl
  have e6 : fB N (⟨#[44]⟩ : ByteArray) = (⟨#[44]⟩ : ByteArray) := hs ([44] : List UInt8) rfl
  have e7 : fB N (⟨#[48]⟩ : ByteArray) = (⟨#[48]⟩ : ByteArray) := hs ([48] : List UInt8) rfl
  have e8 : fB N (⟨#[123]⟩ : ByteArray) = (⟨#[123]⟩ : ByteArray) := hs ([123] : List UInt8) rfl
  have e9 : fB N (⟨#[49]⟩ : ByteArray) = (⟨#[49]⟩ : ByteArray) := hs ([49] : List UInt8) rfl
  have e10 : fB N (⟨#[97]⟩ : ByteArray) = (⟨#[97]⟩ : ByteArray) := hs ([97] : List UInt8) rfl
  have e11 : fB N (⟨#[91]⟩ : ByteArray) = (⟨#[91]⟩ : ByteArray) := hs ([91] : List UInt8) rfl
  have e12 : fB N (⟨#[50]⟩ : ByteArray) = (⟨#[50]⟩ : ByteArray) := hs ([50] : List UInt8) rfl
  have e13 : fB N (⟨#[93]⟩ : ByteArray) = (⟨#[93]⟩ : ByteArray) := hs ([93] : List UInt8) rfl
  have e14 : fB N (⟨#[61]⟩ : ByteArray) = (⟨#[61]⟩ : ByteArray) := hs ([61] : List UInt8) rfl
  have e15 : fB N (⟨#[51]⟩ : ByteArray) = (⟨#[51]⟩ : ByteArray) := hs ([51] : List UInt8) rfl
  have e16 : fB N (⟨#[125]⟩ : ByteArray) = (⟨#[125]⟩ : ByteArray) := hs ([125] : List UInt8) rfl
  have e17 : fB N (⟨#[98]⟩ : ByteArray) = (⟨#[98]⟩ : ByteArray) := hs ([98] : List UInt8) rfl
  have e18 : fB N (⟨#[]⟩ : ByteArray) = ⟨#[]⟩ := hs [] rfl
  refine mv_list hN ?_ ?_
  · match k with
    | 0 => simp only [typC, Pq.ctOf, endT, kt, List.map_cons, List.map_nil, hT, hd, hd3, e1, e2, e3, e4, e5, e6, e7, e8, e9, e10, e11, e12, e13, e14, e15, e16, e17, e18]
    | 1 => simp only [typC, Pq.ctOf, endT, kt, List.map_cons, List.map_nil, hT, hd, hd3, e1, e2, e3, e4, e5, e6, e7, e8, e9, e10, e11, e12, e13, e14, e15, e16, e17, e18]
    | 2 => simp only [typC, Pq.ctOf, endT, kt, List.map_cons, List.map_nil, hT, hd, hd3, e1, e2, e3, e4, e5, e6, e7, e8, e9, e10, e11, e12, e13, e14, e15, e16, e17, e18]
    | 3 => simp only [typC, Pq.ctOf, endT, kt, List.map_cons, List.map_nil, hT, hd, hd3, e1, e2, e3, e4, e5, e6, e7, e8, e9, e10, e11, e12, e13, e14, e15, e16, e17, e18]
    | k + 4 => simp only [typC, Pq.ctOf, endT, kt, List.map_cons, List.map_nil, hT, hd, hd3, e1, e2, e3, e4, e5, e6, e7, e8, e9, e10, e11, e12, e13, e14, e15, e16, e17, e18]
  · intro t ht hk
    match k with
    | 0 =>
      simp only [typC, List.mem_cons, List.not_mem_nil, or_false] at ht
      rcases ht with rfl | rfl | rfl | rfl | rfl | rfl | rfl
      all_goals first
        | exact absurd rfl hk
        | (simp only [Pq.ctOf, endT, hd, hd3, e1, e2, e4, e5, e6, e7, e8, e9, e11, e12, e13, e14, e15, e16, e18])
    | 1 =>
      simp only [typC, List.mem_cons, List.not_mem_nil, or_false] at ht
      rcases ht with rfl | rfl | rfl | rfl | rfl | rfl
      all_goals first
        | exact absurd rfl hk
        | (simp only [Pq.ctOf, endT, hd, hd3, e1, e2, e4, e5, e6, e7, e8, e9, e11, e12, e13, e14, e15, e16, e18])
    | 2 =>
      simp only [typC, List.mem_cons, List.not_mem_nil, or_false] at ht
      rcases ht with rfl | rfl | rfl | rfl | rfl
      all_goals first
        | exact absurd rfl hk
        | (simp only [Pq.ctOf, endT, hd, hd3, e1, e2, e4, e5, e6, e7, e8, e9, e11, e12, e13, e14, e15, e16, e18])
    | 3 =>
      simp only [typC, List.mem_cons, List.not_mem_nil, or_false] at ht
      rcases ht with rfl | rfl | rfl | rfl | rfl | rfl | rfl | rfl | rfl | rfl | rfl | rfl | rfl
      all_goals first
        | exact absurd rfl hk
        | (simp only [Pq.ctOf, endT, hd, hd3, e1, e2, e4, e5, e6, e7, e8, e9, e11, e12, e13, e14, e15, e16, e18])
    | k + 4 =>
      simp only [typC, List.mem_cons, List.not_mem_nil, or_false] at ht
      rcases ht with rfl | rfl | rfl | rfl | rfl | rfl | rfl | rfl | rfl | rfl | rfl | rfl | rfl | rfl | rfl | rfl | rfl
      all_goals first
        | exact absurd rfl hk
        | (simp only [Pq.ctOf, endT, hd, hd3, e1, e2, e4, e5, e6, e7, e8, e9, e11, e12, e13, e14, e15, e16, e18])

/-! ## a tree, written in parts -/

/-- bytes, or a text -/
abbrev Ck := List UInt8 ⊕ ByteArray
mutual
def T.tm : T → List Ck
  | .mk k t _ _ ks => .inl (40 :: k.data.toList) :: ((if t.size = 0 then [] else [.inl [32], .inr t]) ++ T.tms ks ++ [.inl [41]])
def T.tms : List T → List Ck
  | [] => []
  | t :: ts => .inl [32] :: (T.tm t ++ T.tms ts)
end
def ckL (f : ByteArray → ByteArray) : List Ck → List UInt8
  | [] => []
  | .inl l :: r => l ++ ckL f r
  | .inr x :: r => (f x).data.toList ++ ckL f r
theorem ckL_app (f : ByteArray → ByteArray) : ∀ a b, ckL f (a ++ b) = ckL f a ++ ckL f b
  | [], b => rfl
  | .inl l :: r, b => by show l ++ ckL f (r ++ b) = l ++ ckL f r ++ ckL f b; rw [ckL_app f r b, List.append_assoc]
  | .inr x :: r, b => by show (f x).data.toList ++ ckL f (r ++ b) = (f x).data.toList ++ ckL f r ++ ckL f b; rw [ckL_app f r b, List.append_assoc]
theorem tm_outs {f : ByteArray → ByteArray} {d : Int} (ks : List T) (ih : ∀ x ∈ ks, T.out (x.mv d f) = ckL f (T.tm x)) : T.outs (ks.map (T.mv d f)) = ckL f (T.tms ks) := by
  induction ks with
  | nil => rfl
  | cons x r ihr =>
    rw [List.map_cons, T.outs, T.tms, ih x (.head _), ihr fun y hy => ih y (.tail _ hy)]
    show _ = [32] ++ ckL f (T.tm x ++ T.tms r)
    rw [ckL_app]
    rfl
theorem tm_out {f : ByteArray → ByteArray} {d : Int} (hf : ∀ x : ByteArray, (f x).size = 0 ↔ x.size = 0) : ∀ x : T, T.out (x.mv d f) = ckL f (T.tm x) := by
  refine T.ind fun k t a b ks ih => ?_
  rw [mv_mk, T.out, T.tm, tm_outs ks ih]
  show _ = 40 :: k.data.toList ++ ckL f ((if t.size = 0 then [] else [.inl [32], .inr t]) ++ T.tms ks ++ [.inl [41]])
  rw [ckL_app, ckL_app]
  by_cases h : t.size = 0
  · rw [if_pos h, if_pos ((hf t).2 h)]
    simp [ckL]
  · rw [if_neg h, if_neg (fun e => h ((hf t).1 e))]
    simp [ckL]

/-- an expression as it is read: all of it, and written in parts -/
def tmB (L : List Ct) (names : List ByteArray) (w : List Ck) : Bool := match (recN L 1000).expr 0 ⟨0, envOf names, false⟩ with
  | none => false
  | some r => !r.2.bad && decide (r.2.at_ = (L.length : Int) - 1) && decide (T.tm r.1 = w)
theorem env_mv (f : ByteArray → ByteArray) (ns : List ByteArray) : (envOf ns).mv f = envOf (ns.map f) := by
  have : ∀ e : Ev, (ns.foldl (fun e n => Ev.decl e n true) e).mv f = (ns.map f).foldl (fun e n => Ev.decl e n true) (e.mv f) := by
    induction ns with
    | nil => intro e; rfl
    | cons n r ih => intro e; rw [List.foldl_cons, ih, List.map_cons, List.foldl_cons]; rfl
  exact this .new
theorem mv_written {f : ByteArray → ByteArray} {L L' : List Ct} (M : Mv 0 f L L') (hl : L'.length = L.length) {names : List ByteArray} {w : List Ck} (h : tmB L names w = true) : exprOf 1000 L' (names.map f) = some (ckL f w) := by
  unfold tmB at h
  cases hr : (recN L 1000).expr 0 ⟨0, envOf names, false⟩ with
  | none => rw [hr] at h; cases h
  | some r =>
    obtain ⟨n, s⟩ := r
    rw [hr] at h
    simp only [Bool.and_eq_true, Bool.not_eq_true', decide_eq_true_eq] at h
    obtain ⟨⟨h1, h2⟩, h3⟩ := h
    obtain ⟨_, _, a', e1, e2⟩ := (rec_sim M 1000).expr 0 ⟨0, envOf names, false⟩ (Int.le_refl _) n s hr
    have e0 : (⟨0, envOf names, false⟩ : Ps).mv 0 f = ⟨0, envOf (names.map f), false⟩ := by unfold Ps.mv; rw [env_mv]; rfl
    rw [e0] at e1
    unfold exprOf outOf
    rw [e1]
    simp only [Option.map_some]
    have hb : (s.mv 0 f).bad = false := h1
    have ha : (s.mv 0 f).at_ = (L'.length : Int) - 1 := by rw [psmv_at, Int.add_zero, h2, hl]
    rw [if_neg (by rintro (h | h); · rw [hb] at h; cases h
                   · exact h ha), e2 h1, tm_out (fun x => M.size x), h3]

theorem typ_len (X Y : ByteArray) (k : Nat) : (typC X k).length = (typC Y k).length := by
  match k with
  | 0 => rfl
  | 1 => rfl
  | 2 => rfl
  | 3 => rfl
  | k + 4 => rfl
/-- a text with a name, written -/
theorem typ_written {N : List UInt8} (hN : NmOk N) (k : Nat) (ty : Bool) {w : List Ck} (h : tmB (typC (⟨#[84]⟩ : ByteArray) k) (if ty then [(⟨#[84]⟩ : ByteArray)] else []) w = true) : writE (typS N k) (if ty then [bs N] else []) = some (ckL (fB N) w) := by
  have h1 := mv_written (typ_mv hN k) (typ_len _ _ k) h
  have h2 : (if ty then [(⟨#[84]⟩ : ByteArray)] else []).map (fB N) = if ty then [bs N] else [] := by cases ty with | true => simp [fB_T] | false => rfl
  rw [h2] at h1
  exact expr_same (typ_toks hN k).symm h1

/-! ## the seven, written -/

abbrev tX : Ck := .inr (⟨#[84]⟩ : ByteArray)

def xW (N : List UInt8) : List UInt8 := ([40, 110, 97, 109, 101, 32] : List UInt8) ++ N ++ ([41] : List UInt8)
def tW (N : List UInt8) : List UInt8 := ([40, 116, 121, 112, 101, 110, 97, 109, 101, 32, 40, 115, 112, 101, 99, 115, 32, 40, 116, 121, 112, 101, 110, 97, 109, 101, 32] : List UInt8) ++ N ++ ([41, 41, 32] : List UInt8)
theorem typ_w0 {N : List UInt8} (hN : NmOk N) : writE (typS N 0) [] = some (([40, 99, 97, 108, 108, 32] : List UInt8) ++ xW N ++ ([32, 40, 110, 97, 109, 101, 32, 121, 41, 41] : List UInt8)) := by
  have h := typ_written hN 0 false (w := [.inl ([40, 99, 97, 108, 108] : List UInt8), .inl [32], .inl ([40, 110, 97, 109, 101] : List UInt8), .inl [32], .inr (⟨#[84]⟩ : ByteArray), .inl [41], .inl [32], .inl ([40, 110, 97, 109, 101] : List UInt8), .inl [32], .inr (⟨#[121]⟩ : ByteArray), .inl [41], .inl [41]]) (by kernel_rfl)
  have hs : ∀ l, fixB l = true → (fB N (bs l)).data.toList = l := fun l h => by rw [fB_small hN h]
  have hT : (fB N (⟨#[84]⟩ : ByteArray)).data.toList = N := by rw [fB_T]
  have e0 : (fB N (⟨#[48]⟩ : ByteArray)).data.toList = ([48] : List UInt8) := hs ([48] : List UInt8) rfl
  have e1 : (fB N (⟨#[49]⟩ : ByteArray)).data.toList = ([49] : List UInt8) := hs ([49] : List UInt8) rfl
  have e2 : (fB N (⟨#[50]⟩ : ByteArray)).data.toList = ([50] : List UInt8) := hs ([50] : List UInt8) rfl
  have e3 : (fB N (⟨#[51]⟩ : ByteArray)).data.toList = ([51] : List UInt8) := hs ([51] : List UInt8) rfl
  have ea : (fB N (⟨#[97]⟩ : ByteArray)).data.toList = ([97] : List UInt8) := hs ([97] : List UInt8) rfl
  have ey : (fB N (⟨#[121]⟩ : ByteArray)).data.toList = ([121] : List UInt8) := hs ([121] : List UInt8) rfl
  have eb : (fB N (⟨#[46, 98]⟩ : ByteArray)).data.toList = ([46, 98] : List UInt8) := by
    have : fB N (bs [46, 98]) = bs [46, 98] := fB_of (by rw [fL_dot, fL_plain N (by decide) (by decide)]; unfold sw; rw [if_neg (by decide), if_neg (ne_up hN rfl)])
    rw [show ((⟨#[46, 98]⟩ : ByteArray) : ByteArray) = bs [46, 98] from rfl, this]
  refine h.trans (congrArg some ?_)
  simp only [ckL, hT, e0, e1, e2, e3, ea, ey, eb, xW, tW, List.append_assoc, List.cons_append, List.nil_append, List.append_nil]

theorem typ_w1 {N : List UInt8} (hN : NmOk N) : writE (typS N 0) [bs N] = some (([40, 99, 97, 115, 116, 32] : List UInt8) ++ tW N ++ ([40, 110, 111, 110, 101, 41, 41, 32, 40, 110, 97, 109, 101, 32, 121, 41, 41] : List UInt8)) := by
  have h := typ_written hN 0 true (w := [.inl ([40, 99, 97, 115, 116] : List UInt8), .inl [32], .inl ([40, 116, 121, 112, 101, 110, 97, 109, 101] : List UInt8), .inl [32], .inl ([40, 115, 112, 101, 99, 115] : List UInt8), .inl [32], .inl ([40, 116, 121, 112, 101, 110, 97, 109, 101] : List UInt8), .inl [32], .inr (⟨#[84]⟩ : ByteArray), .inl [41], .inl [41], .inl [32], .inl ([40, 110, 111, 110, 101] : List UInt8), .inl [41], .inl [41], .inl [32], .inl ([40, 110, 97, 109, 101] : List UInt8), .inl [32], .inr (⟨#[121]⟩ : ByteArray), .inl [41], .inl [41]]) (by kernel_rfl)
  have hs : ∀ l, fixB l = true → (fB N (bs l)).data.toList = l := fun l h => by rw [fB_small hN h]
  have hT : (fB N (⟨#[84]⟩ : ByteArray)).data.toList = N := by rw [fB_T]
  have e0 : (fB N (⟨#[48]⟩ : ByteArray)).data.toList = ([48] : List UInt8) := hs ([48] : List UInt8) rfl
  have e1 : (fB N (⟨#[49]⟩ : ByteArray)).data.toList = ([49] : List UInt8) := hs ([49] : List UInt8) rfl
  have e2 : (fB N (⟨#[50]⟩ : ByteArray)).data.toList = ([50] : List UInt8) := hs ([50] : List UInt8) rfl
  have e3 : (fB N (⟨#[51]⟩ : ByteArray)).data.toList = ([51] : List UInt8) := hs ([51] : List UInt8) rfl
  have ea : (fB N (⟨#[97]⟩ : ByteArray)).data.toList = ([97] : List UInt8) := hs ([97] : List UInt8) rfl
  have ey : (fB N (⟨#[121]⟩ : ByteArray)).data.toList = ([121] : List UInt8) := hs ([121] : List UInt8) rfl
  have eb : (fB N (⟨#[46, 98]⟩ : ByteArray)).data.toList = ([46, 98] : List UInt8) := by
    have : fB N (bs [46, 98]) = bs [46, 98] := fB_of (by rw [fL_dot, fL_plain N (by decide) (by decide)]; unfold sw; rw [if_neg (by decide), if_neg (ne_up hN rfl)])
    rw [show ((⟨#[46, 98]⟩ : ByteArray) : ByteArray) = bs [46, 98] from rfl, this]
  refine h.trans (congrArg some ?_)
  simp only [ckL, hT, e0, e1, e2, e3, ea, ey, eb, xW, tW, List.append_assoc, List.cons_append, List.nil_append, List.append_nil]

theorem typ_w2 {N : List UInt8} (hN : NmOk N) : writE (typS N 1) [bs N] = some (([40, 99, 97, 115, 116, 32] : List UInt8) ++ tW N ++ ([40, 112, 111, 105, 110, 116, 101, 114, 32, 40, 110, 111, 110, 101, 41, 41, 41, 32, 40, 110, 97, 109, 101, 32, 121, 41, 41] : List UInt8)) := by
  have h := typ_written hN 1 true (w := [.inl ([40, 99, 97, 115, 116] : List UInt8), .inl [32], .inl ([40, 116, 121, 112, 101, 110, 97, 109, 101] : List UInt8), .inl [32], .inl ([40, 115, 112, 101, 99, 115] : List UInt8), .inl [32], .inl ([40, 116, 121, 112, 101, 110, 97, 109, 101] : List UInt8), .inl [32], .inr (⟨#[84]⟩ : ByteArray), .inl [41], .inl [41], .inl [32], .inl ([40, 112, 111, 105, 110, 116, 101, 114] : List UInt8), .inl [32], .inl ([40, 110, 111, 110, 101] : List UInt8), .inl [41], .inl [41], .inl [41], .inl [32], .inl ([40, 110, 97, 109, 101] : List UInt8), .inl [32], .inr (⟨#[121]⟩ : ByteArray), .inl [41], .inl [41]]) (by kernel_rfl)
  have hs : ∀ l, fixB l = true → (fB N (bs l)).data.toList = l := fun l h => by rw [fB_small hN h]
  have hT : (fB N (⟨#[84]⟩ : ByteArray)).data.toList = N := by rw [fB_T]
  have e0 : (fB N (⟨#[48]⟩ : ByteArray)).data.toList = ([48] : List UInt8) := hs ([48] : List UInt8) rfl
  have e1 : (fB N (⟨#[49]⟩ : ByteArray)).data.toList = ([49] : List UInt8) := hs ([49] : List UInt8) rfl
  have e2 : (fB N (⟨#[50]⟩ : ByteArray)).data.toList = ([50] : List UInt8) := hs ([50] : List UInt8) rfl
  have e3 : (fB N (⟨#[51]⟩ : ByteArray)).data.toList = ([51] : List UInt8) := hs ([51] : List UInt8) rfl
  have ea : (fB N (⟨#[97]⟩ : ByteArray)).data.toList = ([97] : List UInt8) := hs ([97] : List UInt8) rfl
  have ey : (fB N (⟨#[121]⟩ : ByteArray)).data.toList = ([121] : List UInt8) := hs ([121] : List UInt8) rfl
  have eb : (fB N (⟨#[46, 98]⟩ : ByteArray)).data.toList = ([46, 98] : List UInt8) := by
    have : fB N (bs [46, 98]) = bs [46, 98] := fB_of (by rw [fL_dot, fL_plain N (by decide) (by decide)]; unfold sw; rw [if_neg (by decide), if_neg (ne_up hN rfl)])
    rw [show ((⟨#[46, 98]⟩ : ByteArray) : ByteArray) = bs [46, 98] from rfl, this]
  refine h.trans (congrArg some ?_)
  simp only [ckL, hT, e0, e1, e2, e3, ea, ey, eb, xW, tW, List.append_assoc, List.cons_append, List.nil_append, List.append_nil]

theorem typ_w3 {N : List UInt8} (hN : NmOk N) : writE (typS N 2) [] = some (([40, 115, 105, 122, 101, 111, 102, 32] : List UInt8) ++ xW N ++ ([41] : List UInt8)) := by
  have h := typ_written hN 2 false (w := [.inl ([40, 115, 105, 122, 101, 111, 102] : List UInt8), .inl [32], .inl ([40, 110, 97, 109, 101] : List UInt8), .inl [32], .inr (⟨#[84]⟩ : ByteArray), .inl [41], .inl [41]]) (by kernel_rfl)
  have hs : ∀ l, fixB l = true → (fB N (bs l)).data.toList = l := fun l h => by rw [fB_small hN h]
  have hT : (fB N (⟨#[84]⟩ : ByteArray)).data.toList = N := by rw [fB_T]
  have e0 : (fB N (⟨#[48]⟩ : ByteArray)).data.toList = ([48] : List UInt8) := hs ([48] : List UInt8) rfl
  have e1 : (fB N (⟨#[49]⟩ : ByteArray)).data.toList = ([49] : List UInt8) := hs ([49] : List UInt8) rfl
  have e2 : (fB N (⟨#[50]⟩ : ByteArray)).data.toList = ([50] : List UInt8) := hs ([50] : List UInt8) rfl
  have e3 : (fB N (⟨#[51]⟩ : ByteArray)).data.toList = ([51] : List UInt8) := hs ([51] : List UInt8) rfl
  have ea : (fB N (⟨#[97]⟩ : ByteArray)).data.toList = ([97] : List UInt8) := hs ([97] : List UInt8) rfl
  have ey : (fB N (⟨#[121]⟩ : ByteArray)).data.toList = ([121] : List UInt8) := hs ([121] : List UInt8) rfl
  have eb : (fB N (⟨#[46, 98]⟩ : ByteArray)).data.toList = ([46, 98] : List UInt8) := by
    have : fB N (bs [46, 98]) = bs [46, 98] := fB_of (by rw [fL_dot, fL_plain N (by decide) (by decide)]; unfold sw; rw [if_neg (by decide), if_neg (ne_up hN rfl)])
    rw [show ((⟨#[46, 98]⟩ : ByteArray) : ByteArray) = bs [46, 98] from rfl, this]
  refine h.trans (congrArg some ?_)
  simp only [ckL, hT, e0, e1, e2, e3, ea, ey, eb, xW, tW, List.append_assoc, List.cons_append, List.nil_append, List.append_nil]

theorem typ_w4 {N : List UInt8} (hN : NmOk N) : writE (typS N 2) [bs N] = some (([40, 115, 105, 122, 101, 111, 102, 116, 121, 112, 101, 32] : List UInt8) ++ tW N ++ ([40, 110, 111, 110, 101, 41, 41, 41] : List UInt8)) := by
  have h := typ_written hN 2 true (w := [.inl ([40, 115, 105, 122, 101, 111, 102, 116, 121, 112, 101] : List UInt8), .inl [32], .inl ([40, 116, 121, 112, 101, 110, 97, 109, 101] : List UInt8), .inl [32], .inl ([40, 115, 112, 101, 99, 115] : List UInt8), .inl [32], .inl ([40, 116, 121, 112, 101, 110, 97, 109, 101] : List UInt8), .inl [32], .inr (⟨#[84]⟩ : ByteArray), .inl [41], .inl [41], .inl [32], .inl ([40, 110, 111, 110, 101] : List UInt8), .inl [41], .inl [41], .inl [41]]) (by kernel_rfl)
  have hs : ∀ l, fixB l = true → (fB N (bs l)).data.toList = l := fun l h => by rw [fB_small hN h]
  have hT : (fB N (⟨#[84]⟩ : ByteArray)).data.toList = N := by rw [fB_T]
  have e0 : (fB N (⟨#[48]⟩ : ByteArray)).data.toList = ([48] : List UInt8) := hs ([48] : List UInt8) rfl
  have e1 : (fB N (⟨#[49]⟩ : ByteArray)).data.toList = ([49] : List UInt8) := hs ([49] : List UInt8) rfl
  have e2 : (fB N (⟨#[50]⟩ : ByteArray)).data.toList = ([50] : List UInt8) := hs ([50] : List UInt8) rfl
  have e3 : (fB N (⟨#[51]⟩ : ByteArray)).data.toList = ([51] : List UInt8) := hs ([51] : List UInt8) rfl
  have ea : (fB N (⟨#[97]⟩ : ByteArray)).data.toList = ([97] : List UInt8) := hs ([97] : List UInt8) rfl
  have ey : (fB N (⟨#[121]⟩ : ByteArray)).data.toList = ([121] : List UInt8) := hs ([121] : List UInt8) rfl
  have eb : (fB N (⟨#[46, 98]⟩ : ByteArray)).data.toList = ([46, 98] : List UInt8) := by
    have : fB N (bs [46, 98]) = bs [46, 98] := fB_of (by rw [fL_dot, fL_plain N (by decide) (by decide)]; unfold sw; rw [if_neg (by decide), if_neg (ne_up hN rfl)])
    rw [show ((⟨#[46, 98]⟩ : ByteArray) : ByteArray) = bs [46, 98] from rfl, this]
  refine h.trans (congrArg some ?_)
  simp only [ckL, hT, e0, e1, e2, e3, ea, ey, eb, xW, tW, List.append_assoc, List.cons_append, List.nil_append, List.append_nil]

theorem typ_w5 {N : List UInt8} (hN : NmOk N) : writE (typS N 3) [bs N] = some (([40, 99, 97, 115, 116, 32] : List UInt8) ++ tW N ++ ([40, 102, 117, 110, 99, 32, 40, 112, 111, 105, 110, 116, 101, 114, 32, 40, 110, 111, 110, 101, 41, 41, 32, 40, 112, 97, 114, 97, 109, 32, 40, 115, 112, 101, 99, 115, 32, 40, 116, 121, 112, 101, 110, 97, 109, 101, 32] : List UInt8) ++ N ++ ([41, 41, 32, 40, 110, 111, 110, 101, 41, 41, 32, 40, 100, 111, 116, 115, 41, 41, 41, 32, 40, 105, 110, 116, 32, 48, 41, 41] : List UInt8)) := by
  have h := typ_written hN 3 true (w := [.inl ([40, 99, 97, 115, 116] : List UInt8), .inl [32], .inl ([40, 116, 121, 112, 101, 110, 97, 109, 101] : List UInt8), .inl [32], .inl ([40, 115, 112, 101, 99, 115] : List UInt8), .inl [32], .inl ([40, 116, 121, 112, 101, 110, 97, 109, 101] : List UInt8), .inl [32], .inr (⟨#[84]⟩ : ByteArray), .inl [41], .inl [41], .inl [32], .inl ([40, 102, 117, 110, 99] : List UInt8), .inl [32], .inl ([40, 112, 111, 105, 110, 116, 101, 114] : List UInt8), .inl [32], .inl ([40, 110, 111, 110, 101] : List UInt8), .inl [41], .inl [41], .inl [32], .inl ([40, 112, 97, 114, 97, 109] : List UInt8), .inl [32], .inl ([40, 115, 112, 101, 99, 115] : List UInt8), .inl [32], .inl ([40, 116, 121, 112, 101, 110, 97, 109, 101] : List UInt8), .inl [32], .inr (⟨#[84]⟩ : ByteArray), .inl [41], .inl [41], .inl [32], .inl ([40, 110, 111, 110, 101] : List UInt8), .inl [41], .inl [41], .inl [32], .inl ([40, 100, 111, 116, 115] : List UInt8), .inl [41], .inl [41], .inl [41], .inl [32], .inl ([40, 105, 110, 116] : List UInt8), .inl [32], .inr (⟨#[48]⟩ : ByteArray), .inl [41], .inl [41]]) (by kernel_rfl)
  have hs : ∀ l, fixB l = true → (fB N (bs l)).data.toList = l := fun l h => by rw [fB_small hN h]
  have hT : (fB N (⟨#[84]⟩ : ByteArray)).data.toList = N := by rw [fB_T]
  have e0 : (fB N (⟨#[48]⟩ : ByteArray)).data.toList = ([48] : List UInt8) := hs ([48] : List UInt8) rfl
  have e1 : (fB N (⟨#[49]⟩ : ByteArray)).data.toList = ([49] : List UInt8) := hs ([49] : List UInt8) rfl
  have e2 : (fB N (⟨#[50]⟩ : ByteArray)).data.toList = ([50] : List UInt8) := hs ([50] : List UInt8) rfl
  have e3 : (fB N (⟨#[51]⟩ : ByteArray)).data.toList = ([51] : List UInt8) := hs ([51] : List UInt8) rfl
  have ea : (fB N (⟨#[97]⟩ : ByteArray)).data.toList = ([97] : List UInt8) := hs ([97] : List UInt8) rfl
  have ey : (fB N (⟨#[121]⟩ : ByteArray)).data.toList = ([121] : List UInt8) := hs ([121] : List UInt8) rfl
  have eb : (fB N (⟨#[46, 98]⟩ : ByteArray)).data.toList = ([46, 98] : List UInt8) := by
    have : fB N (bs [46, 98]) = bs [46, 98] := fB_of (by rw [fL_dot, fL_plain N (by decide) (by decide)]; unfold sw; rw [if_neg (by decide), if_neg (ne_up hN rfl)])
    rw [show ((⟨#[46, 98]⟩ : ByteArray) : ByteArray) = bs [46, 98] from rfl, this]
  refine h.trans (congrArg some ?_)
  simp only [ckL, hT, e0, e1, e2, e3, ea, ey, eb, xW, tW, List.append_assoc, List.cons_append, List.nil_append, List.append_nil]

theorem typ_w6 {N : List UInt8} (hN : NmOk N) : writE (typS N 4) [bs N] = some (([40, 109, 101, 109, 98, 101, 114, 32, 46, 98, 32, 40, 108, 105, 116, 101, 114, 97, 108, 32] : List UInt8) ++ tW N ++ ([40, 110, 111, 110, 101, 41, 41, 32, 40, 105, 110, 105, 116, 115, 32, 40, 105, 110, 116, 32, 49, 41, 32, 40, 97, 116, 32, 40, 102, 105, 101, 108, 100, 32, 97, 41, 32, 40, 105, 110, 100, 101, 120, 32, 40, 105, 110, 116, 32, 50, 41, 41, 32, 40, 105, 110, 116, 32, 51, 41, 41, 41, 41, 41] : List UInt8)) := by
  have h := typ_written hN 4 true (w := [.inl ([40, 109, 101, 109, 98, 101, 114] : List UInt8), .inl [32], .inr (⟨#[46, 98]⟩ : ByteArray), .inl [32], .inl ([40, 108, 105, 116, 101, 114, 97, 108] : List UInt8), .inl [32], .inl ([40, 116, 121, 112, 101, 110, 97, 109, 101] : List UInt8), .inl [32], .inl ([40, 115, 112, 101, 99, 115] : List UInt8), .inl [32], .inl ([40, 116, 121, 112, 101, 110, 97, 109, 101] : List UInt8), .inl [32], .inr (⟨#[84]⟩ : ByteArray), .inl [41], .inl [41], .inl [32], .inl ([40, 110, 111, 110, 101] : List UInt8), .inl [41], .inl [41], .inl [32], .inl ([40, 105, 110, 105, 116, 115] : List UInt8), .inl [32], .inl ([40, 105, 110, 116] : List UInt8), .inl [32], .inr (⟨#[49]⟩ : ByteArray), .inl [41], .inl [32], .inl ([40, 97, 116] : List UInt8), .inl [32], .inl ([40, 102, 105, 101, 108, 100] : List UInt8), .inl [32], .inr (⟨#[97]⟩ : ByteArray), .inl [41], .inl [32], .inl ([40, 105, 110, 100, 101, 120] : List UInt8), .inl [32], .inl ([40, 105, 110, 116] : List UInt8), .inl [32], .inr (⟨#[50]⟩ : ByteArray), .inl [41], .inl [41], .inl [32], .inl ([40, 105, 110, 116] : List UInt8), .inl [32], .inr (⟨#[51]⟩ : ByteArray), .inl [41], .inl [41], .inl [41], .inl [41], .inl [41]]) (by kernel_rfl)
  have hs : ∀ l, fixB l = true → (fB N (bs l)).data.toList = l := fun l h => by rw [fB_small hN h]
  have hT : (fB N (⟨#[84]⟩ : ByteArray)).data.toList = N := by rw [fB_T]
  have e0 : (fB N (⟨#[48]⟩ : ByteArray)).data.toList = ([48] : List UInt8) := hs ([48] : List UInt8) rfl
  have e1 : (fB N (⟨#[49]⟩ : ByteArray)).data.toList = ([49] : List UInt8) := hs ([49] : List UInt8) rfl
  have e2 : (fB N (⟨#[50]⟩ : ByteArray)).data.toList = ([50] : List UInt8) := hs ([50] : List UInt8) rfl
  have e3 : (fB N (⟨#[51]⟩ : ByteArray)).data.toList = ([51] : List UInt8) := hs ([51] : List UInt8) rfl
  have ea : (fB N (⟨#[97]⟩ : ByteArray)).data.toList = ([97] : List UInt8) := hs ([97] : List UInt8) rfl
  have ey : (fB N (⟨#[121]⟩ : ByteArray)).data.toList = ([121] : List UInt8) := hs ([121] : List UInt8) rfl
  have eb : (fB N (⟨#[46, 98]⟩ : ByteArray)).data.toList = ([46, 98] : List UInt8) := by
    have : fB N (bs [46, 98]) = bs [46, 98] := fB_of (by rw [fL_dot, fL_plain N (by decide) (by decide)]; unfold sw; rw [if_neg (by decide), if_neg (ne_up hN rfl)])
    rw [show ((⟨#[46, 98]⟩ : ByteArray) : ByteArray) = bs [46, 98] from rfl, this]
  refine h.trans (congrArg some ?_)
  simp only [ckL, hT, e0, e1, e2, e3, ea, ey, eb, xW, tW, List.append_assoc, List.cons_append, List.nil_append, List.append_nil]

end Go.Proofs.YtllbbacnakoomaaGreatDoor
