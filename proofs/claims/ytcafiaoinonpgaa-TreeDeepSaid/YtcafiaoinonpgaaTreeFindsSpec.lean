/- TreeFinds: the plain law. -/
import Derived.Test.YtcafiaoinonpgaaTree7
namespace Go.Proofs.Ytcafiaoinonpgaa
open Go.RowKit

def bLeaf : ByteArray := ⟨#[108, 101, 97, 102]⟩
def bPair : ByteArray := ⟨#[112, 97, 105, 114]⟩
def leafX (i : Int) : T := .mk bLeaf ⟨#[120]⟩ i (i + 1) []
def findsT : Nat → T
  | 0 => .mk bLeaf ⟨#[48]⟩ 0 1 []
  | m + 1 => .mk bPair ⟨#[]⟩ 0 ((m : Int) + 1 + 1) [findsT m, leafX ((m : Int) + 1)]

theorem finds_size (m : Nat) : T.size (findsT m) = 2 * m + 1 := by
  induction m with
  | zero => rfl
  | succ m ih => simp [findsT, T.size, T.sizes, ih, leafX]; omega

theorem finds_leaves (m : Nat) : T.leaves (findsT m) = (List.range (m + 1)).map fun i : Nat => (i : Int) := by
  induction m with
  | zero => rfl
  | succ m ih =>
    rw [List.range_succ, List.map_append, ← ih]
    simp [findsT, T.leaves, T.leavess, leafX]
    decide

theorem finds_has (m : Nat) (tok : Int) : (findsT m).has tok ↔ 0 ≤ tok ∧ tok < m + 1 := by
  cases m with
  | zero => simp [findsT, T.has, T.from_, T.to_]
  | succ m => simp [findsT, T.has, T.from_, T.to_]

theorem leafX_way {i tok : Int} {l : List ByteArray} (h : Way tok (leafX i) l) : l = [bLeaf] := by
  cases h with
  | stop => rfl
  | go j hj => simp [leafX, T.kids] at hj

theorem finds_way (m : Nat) (tok : Int) (h0 : 0 ≤ tok) (h1 : tok < m + 1) (l : List ByteArray) (h : Way tok (findsT m) l) :
    ∃ k : Nat, l = List.replicate k bPair ++ [bLeaf] ∧ ((k : Int) + 1 = if m = 0 then 1 else (m + 1) - max tok 1 + 1) := by
  induction m generalizing l with
  | zero =>
    cases h with
    | stop => exact ⟨0, rfl, rfl⟩
    | go j hj => simp [findsT, T.kids] at hj
  | succ m ih =>
    have hx : (leafX (m + 1)).has tok ↔ (m : Int) + 1 ≤ tok ∧ tok < m + 2 := by simp [leafX, T.has, T.from_, T.to_]; omega
    have hm := finds_has m tok
    cases h with
    | stop h =>
      exfalso
      by_cases ht : tok < m + 1
      · exact h (findsT m) (by simp [findsT, T.kids]) (hm.2 ⟨h0, ht⟩)
      · exact h (leafX (m + 1)) (by simp [findsT, T.kids]) (hx.2 ⟨by omega, by push_cast at h1; omega⟩)
    | @go _ y l' i hi hy hn hw =>
      match i, hi with
      | 0, hi =>
        simp [findsT, T.kids] at hi
        subst hi
        have ht := (hm.1 hy).2
        obtain ⟨k, rfl, hk⟩ := ih ht l' hw
        refine ⟨k + 1, by simp [List.replicate_succ, findsT, T.kind], ?_⟩
        rw [if_neg (Nat.succ_ne_zero _)]
        by_cases hm0 : m = 0
        · subst hm0
          simp at hk
          omega
        · rw [if_neg hm0] at hk
          push_cast
          omega
      | 1, hi =>
        simp [findsT, T.kids] at hi
        subst hi
        have ht := (hx.1 hy).1
        obtain rfl := leafX_way hw
        refine ⟨1, by simp [findsT, T.kind], ?_⟩
        rw [if_neg (Nat.succ_ne_zero _)]
        push_cast at h1 ⊢
        omega
      | i + 2, hi => simp [findsT, T.kids] at hi

theorem Rep.form {w : World} {F : Nat → Prop} {t : T} {cs : List Value} (h : Rep w F t cs) : ∃ (k x : ByteArray) (f o : Int) (ao : Option Addr) (n cap : Nat), cs = [.string k, .string x, .int .i64 f, .int .i64 o, .slice ao n cap] := by
  cases h; exact ⟨_, _, _, _, _, _, _, rfl⟩

theorem KeptOn.trans {F : Nat → Prop} {w w1 w2 : World} (h : KeptOn F w w1) (k : KeptOn F w1 w2) (hs : w.heap.size ≤ w1.heap.size) : KeptOn F w w2 :=
  fun i hf hi => (k i hf (Nat.lt_of_lt_of_le hi hs)).trans (h i hf hi)
theorem KeptOn.row {F : Nat → Prop} (w : World) (g : Nat) (cs : Array Value) (hg : ¬ F g) : KeptOn F w (w.setRow g cs) :=
  fun _ hf _ => setRow_other _ _ _ _ (fun e => hg (e ▸ hf))
theorem KeptOn.alloc {F : Nat → Prop} (w : World) (o : Obj) : KeptOn F w (w.alloc o) := KeptOn.of_below ((Below.refl _ w).alloc (Nat.le_refl _) o)
end Go.Proofs.Ytcafiaoinonpgaa
