/- oxbowref4's quoted. -/
import Derived.Test.YthbicbfdldpemaaLx2
namespace Go.Proofs.Ythbicbfdldpemaa
open Go.RowKit
set_option linter.unusedVariables false

theorem quo_go (q : UInt8) (A : List UInt8) (j : Nat) (h : j < A.length) : quoL q j (A.drop j) =
    if ((chAt A j).toNat : Int) = 10 then 0 else if ((chAt A j).toNat : Int) = 92 ∧ j + 1 < A.length ∧ ¬ ((chAt A (j + 1)).toNat : Int) = 10 then quoL q (j + 2) (A.drop (j + 2)) else if ((chAt A j).toNat : Int) = (q.toNat : Int) then j + 1 else quoL q (j + 1) (A.drop (j + 1)) := by
  rw [quo_step h]
  simp only [u8eq, ne_eq]
  rfl

set_option maxHeartbeats 2000000 in
set_option maxRecDepth 100000 in
theorem rquoted_any (R : List Rn) (ao : Option Addr) (cap i : Nat) (hn : R.length ≤ 1000001) (hi : i ≤ 1000003) (w : World) (hrow : Row w 3 ao (R.map Rn.v)) :
    Calls Try.prog 77 #[.slice ao R.length cap, .int .i64 i] w fun e w' => e = .returned (.int .i64 (quotedL (cs R) i)) ∧ w' = w := by
  have H0 := rat_any R ao cap i (by omega) w hrow
  have HQ : quotedL (cs R) i = quoL (chAt (cs R) i) (i + 1) ((cs R).drop (i + 1)) := rfl
  obtain ⟨q, hq⟩ : ∃ q, q = chAt (cs R) i := ⟨_, rfl⟩
  rw [← hq] at H0 HQ
  clear hq
  obtain ⟨qv, hqv⟩ : ∃ x : Int, x = (q.toNat : Int) := ⟨_, rfl⟩
  rw [← hqv] at H0
  obtain ⟨n, hnn⟩ : ∃ n, n = R.length := ⟨_, rfl⟩
  have HNN : Hid ((cs R).length = n) := Lib.hid (by rw [cs_len, hnn])
  have HN2 : Hid (R.length = n) := Lib.hid hnn.symm
  replace HQ := Lib.hid HQ
  replace H0 := Lib.hid H0
  replace hqv := Lib.hid hqv
  rw [← hnn] at hn H0 ⊢
  clear hnn
  go_enter Try.func77, Try.ntmps77
  go_wp2_with fail
  refine H0.out.mono ?_
  rintro e w' ⟨rfl, rfl⟩
  go_wp2_with fail
  go_loopg [6] (n + 2) (fun u v w9 => ∃ j : Nat, u = n + i + 3 - j ∧ j ≤ n + i + 2 ∧ v = .int .i64 j ∧ w9 = w' ∧ Hid (quotedL (cs R) i = quoL q j ((cs R).drop j)))
  case atStart => exact ⟨i + 1, by omega, by omega, rfl, rfl, HQ⟩
  case round =>
    obtain ⟨j, rfl, hj, rfl, rfl, hs⟩ := hrel
    by_cases hlt : j < n
    · have HG := Lib.hid (quo_go q (cs R) j (by rw [HNN.out]; exact hlt))
      obtain ⟨r, hr⟩ : ∃ r, R[j]? = some r := ⟨R[j]'(by rw [HN2.out]; exact hlt), by simp⟩
      obtain ⟨b, o, rfl, hat⟩ := hrow (by intro h; simp at h; subst h; simp at hr)
      have c0 := hat.cell (i := j) (cs := r.v) (by simp [hr]) (j := 0) (u := .int .u8 r.c.toNat) rfl
      rw [cs_at hr, ← hqv.out, HNN.out] at HG
      simp only [Nat.add_zero] at c0
      obtain ⟨x, hx⟩ : ∃ x : Int, x = (r.c.toNat : Int) := ⟨_, rfl⟩
      rw [← hx] at HG c0
      clear hx hr HQ H0
      by_cases hx10 : x = 10
      · subst hx10
        have hv := HG.out.trans (show _ = 0 by simp)
        clear HG
        go_wp2
        go_ret
        exact ⟨by rw [hs.out, hv]; rfl, rfl⟩
      · have hx10' : (x == 10) = false := by simpa using hx10
        by_cases hx92 : x = 92
        · subst hx92
          by_cases hlt2 : j + 1 < n
          · obtain ⟨r2, hr2⟩ : ∃ r, R[j + 1]? = some r := ⟨R[j + 1]'(by rw [HN2.out]; exact hlt2), by simp⟩
            have d0 := hat.cell (i := j + 1) (cs := r2.v) (by simp [hr2]) (j := 0) (u := .int .u8 r2.c.toNat) rfl
            rw [cs_at hr2] at HG
            simp only [Nat.add_zero] at d0
            obtain ⟨y, hy⟩ : ∃ y : Int, y = (r2.c.toNat : Int) := ⟨_, rfl⟩
            rw [← hy] at HG d0
            clear hy hr2 hat
            have hlt2i : (j : Int) + 1 < n := by omega
            by_cases hy10 : y = 10
            · subst hy10
              by_cases hq : qv = 92
              · subst hq
                have hv := HG.out.trans (show _ = j + 1 by simp)
                clear HG
                go_wp2
                go_ret
                exact ⟨by rw [hs.out, hv]; rfl, rfl⟩
              · have hq2 : ¬ (92 : Int) = qv := fun h => hq h.symm
                have hq' : ((92 : Int) == qv) = false := by simpa using hq2
                have hv := HG.out.trans (show _ = quoL q (j + 1) ((cs R).drop (j + 1)) by simp [hq2])
                clear HG
                go_wp2_with fail
                go_roundg (n + i + 3 - (j + 1))
                case measure => omega
                case rel => exact ⟨j + 1, rfl, by omega, by go_num, rfl, Lib.hid (hs.out.trans hv)⟩
            · have hy10' : (y == 10) = false := by simpa using hy10
              have hv := HG.out.trans (show _ = quoL q (j + 2) ((cs R).drop (j + 2)) by simp [hlt2, hy10])
              clear HG
              go_wp2_with fail
              go_roundg (n + i + 3 - (j + 2))
              case measure => omega
              case rel => exact ⟨j + 2, rfl, by omega, by go_num, rfl, Lib.hid (hs.out.trans hv)⟩
          · clear hat
            have hlt2i : (n : Int) ≤ (j : Int) + 1 := by omega
            by_cases hq : qv = 92
            · subst hq
              have hv := HG.out.trans (show _ = j + 1 by simp [hlt2])
              clear HG
              go_wp2
              go_ret
              exact ⟨by rw [hs.out, hv]; rfl, rfl⟩
            · have hq2 : ¬ (92 : Int) = qv := fun h => hq h.symm
              have hq' : ((92 : Int) == qv) = false := by simpa using hq2
              have hv := HG.out.trans (show _ = quoL q (j + 1) ((cs R).drop (j + 1)) by simp [hlt2, hq2])
              clear HG
              go_wp2_with fail
              go_roundg (n + i + 3 - (j + 1))
              case measure => omega
              case rel => exact ⟨j + 1, rfl, by omega, by go_num, rfl, Lib.hid (hs.out.trans hv)⟩
        · have hx92' : (x == 92) = false := by simpa using hx92
          clear hat
          by_cases hq : x = qv
          · have hq' : (x == qv) = true := by simpa using hq
            have hv := HG.out.trans (show _ = j + 1 by rw [if_neg hx10, if_neg (fun h => hx92 h.1), if_pos hq])
            clear HG
            clear hq
            go_wp2
            go_ret
            exact ⟨by rw [hs.out, hv]; rfl, rfl⟩
          · have hq' : (x == qv) = false := by simpa using hq
            have hv := HG.out.trans (show _ = quoL q (j + 1) ((cs R).drop (j + 1)) by simp [hx10, hx92, hq])
            clear HG
            go_wp2_with fail
            go_roundg (n + i + 3 - (j + 1))
            case measure => omega
            case rel => exact ⟨j + 1, rfl, by omega, by go_num, rfl, Lib.hid (hs.out.trans hv)⟩
    · have hv : quoL q j ((cs R).drop j) = 0 := quo_end (by rw [HNN.out]; omega)
      go_wp2
      go_ret
      exact ⟨by rw [hs.out, hv]; rfl, rfl⟩
end Go.Proofs.Ythbicbfdldpemaa
