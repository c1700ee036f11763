/-
  Layer 32: groups of the same ones: what they come to, number by number. No program in sight.
-/
import Derived.Test.YthemogfniohdiaaOwn
namespace Go.Proofs.Ythemogfniohdiaa
open Go.RowKit
/-- Groups that are over; the last number; how many of it (0: none yet). -/
structure Ust where
  p : List (Int × Int)
  v : Int
  n : Nat
def ust (l : List Int) : Nat → Ust
  | 0 => ⟨[], 0, 0⟩
  | k + 1 => if 0 < (ust l k).n ∧ atL l k ≠ (ust l k).v then ⟨(ust l k).p ++ [(((ust l k).n : Int), (ust l k).v)], atL l k, 1⟩ else ⟨(ust l k).p, atL l k, (ust l k).n + 1⟩
def uq (l : List Int) (k : Nat) : List (Int × Int) := if (ust l k).n = 0 then (ust l k).p else (ust l k).p ++ [(((ust l k).n : Int), (ust l k).v)]
theorem ust_n (l : List Int) (k : Nat) : (ust l k).n ≤ k ∧ (0 < k → 0 < (ust l k).n ∧ (ust l k).v = atL l (k - 1)) := by
  induction k with
  | zero => exact ⟨Nat.le_refl _, fun h => by omega⟩
  | succ k ih =>
    rw [ust]
    split
    · exact ⟨by simp, fun _ => ⟨by simp, by simp⟩⟩
    · exact ⟨by simp; omega, fun _ => ⟨by simp, by simp⟩⟩
theorem ust_zero (l : List Int) {k : Nat} (h : (ust l k).n = 0) : k = 0 := by
  rcases Nat.eq_zero_or_pos k with h0 | h0
  · exact h0
  · have := ((ust_n l k).2 h0).1; omega
theorem uq_same (l : List Int) {k : Nat} (h : 0 < k) (e : atL l k = atL l (k - 1)) : uq l (k + 1) = (ust l k).p ++ [((((ust l k).n + 1 : Nat) : Int), (ust l k).v)] ∧ uq l k = (ust l k).p ++ [(((ust l k).n : Int), (ust l k).v)] := by
  obtain ⟨h1, h2⟩ := (ust_n l k).2 h
  refine ⟨?_, by unfold uq; rw [if_neg (by omega)]⟩
  have e3 : ust l (k + 1) = ⟨(ust l k).p, atL l k, (ust l k).n + 1⟩ := by rw [ust]; exact if_neg (by rw [h2]; exact fun c => c.2 e)
  unfold uq
  rw [e3, if_neg (show ¬ (ust l k).n + 1 = 0 by omega), h2, e]
theorem uq_new (l : List Int) {k : Nat} (e : k = 0 ∨ atL l k ≠ atL l (k - 1)) : uq l (k + 1) = uq l k ++ [(1, atL l k)] := by
  rcases Nat.eq_zero_or_pos k with h0 | h0
  · subst h0
    simp [uq, ust]
  · obtain ⟨h1, h2⟩ := (ust_n l k).2 h0
    have e' : atL l k ≠ (ust l k).v := by rw [h2]; exact e.resolve_left (by omega)
    have e3 : ust l (k + 1) = ⟨(ust l k).p ++ [(((ust l k).n : Int), (ust l k).v)], atL l k, 1⟩ := by rw [ust]; exact if_pos ⟨h1, e'⟩
    unfold uq
    rw [e3, if_neg (show ¬ (1 : Nat) = 0 by omega), if_neg (by omega)]
    simp
theorem uq_length (l : List Int) (k : Nat) : (uq l k).length ≤ k := by
  induction k with
  | zero => simp [uq, ust]
  | succ k ih =>
    rcases Nat.eq_zero_or_pos k with h0 | h0
    · rw [uq_new l (.inl h0)]; simp; omega
    · by_cases e : atL l k = atL l (k - 1)
      · obtain ⟨e1, e2⟩ := uq_same l h0 e
        rw [e1]
        rw [e2] at ih
        simp at ih ⊢
        omega
      · rw [uq_new l (.inr e)]; simp; omega
theorem ust_step (l : List Int) (k : Nat) : (ust l k).p <+: (ust l (k + 1)).p := by
  rw [ust]
  split
  · exact List.prefix_append _ _
  · exact List.prefix_refl _
theorem ust_pre (l : List Int) {j m : Nat} (h : j ≤ m) : (ust l j).p <+: (ust l m).p := by
  induction m with
  | zero => obtain rfl : j = 0 := by omega
            exact List.prefix_refl _
  | succ m ih =>
    by_cases e : j = m + 1
    · subst e; exact List.prefix_refl _
    · exact (ih (by omega)).trans (ust_step l m)
theorem ust_uq (l : List Int) (k : Nat) : (ust l k).p <+: uq l k := by
  unfold uq
  split
  · exact List.prefix_refl _
  · exact List.prefix_append _ _
/-- A group that ends at the k-th number. -/
theorem ust_closed (l : List Int) {k : Nat} (h0 : 0 < (ust l k).n) (e : atL l k ≠ (ust l k).v) : (ust l (k + 1)).p = (ust l k).p ++ [(((ust l k).n : Int), (ust l k).v)] ∧ (ust l (k + 1)).v = atL l k ∧ (ust l (k + 1)).n = 1 := by
  rw [ust, if_pos ⟨h0, e⟩]; exact ⟨rfl, rfl, rfl⟩
theorem ust_open (l : List Int) {k : Nat} (e : (ust l k).n = 0 ∨ atL l k = (ust l k).v) : (ust l (k + 1)).p = (ust l k).p ∧ (ust l (k + 1)).v = atL l k ∧ (ust l (k + 1)).n = (ust l k).n + 1 := by
  rw [ust, if_neg (fun c => by rcases e with e | e; omega; exact c.2 e)]; exact ⟨rfl, rfl, rfl⟩
end Go.Proofs.Ythemogfniohdiaa
