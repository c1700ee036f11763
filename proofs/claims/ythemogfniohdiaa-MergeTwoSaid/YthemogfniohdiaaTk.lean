/-
  Layer 32: the first ones of a list: plain laws. No condition.
-/
import Derived.Test.YthemogfniohdiaaFirstI
namespace Go.Proofs.Ythemogfniohdiaa
open Go.RowKit Go.ChangeShapes Go.WideShapes Go.ChangeAt
theorem take_all {α : Type} (m : List α) (h : m.length ≤ 200) : takeF m 200 = m := by
  unfold takeF
  rw [if_neg (by omega), List.take_of_length_le (by simpa using h)]
theorem take_min {α : Type} (m : List α) (n : Int) (K : Nat) (h : (n < 0 ∧ K = 0) ∨ (0 ≤ n ∧ n ≤ m.length ∧ (K : Int) = n) ∨ (0 ≤ n ∧ (m.length : Int) < n ∧ K = m.length)) : takeF m n = m.take K := by
  unfold takeF
  rcases h with ⟨h1, rfl⟩ | ⟨h1, h2, h3⟩ | ⟨h1, h2, rfl⟩
  · rw [if_pos (by omega)]; simp
  · by_cases h0 : n < 1
    · rw [if_pos h0, show K = 0 by omega]; simp
    · rw [if_neg h0, show n.toNat = K by omega]
  · rw [if_neg (by omega), List.take_of_length_le (by omega), List.take_length]
end Go.Proofs.Ythemogfniohdiaa
