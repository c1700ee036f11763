/-
  Layer 02: values put one by one, with their numbers: where they lie, and what a loop over them hands on. No program in sight.
-/
import Derived.Test.YtgaenonggnkknaaRunS
namespace Go.Proofs.Ytgaenonggnkknaa
open Go.RowKit
abbrev P2 := Int × Int
abbrev z2 : P2 := (0, 0)
def putsL (l : List Int) (k : Nat) : List (Slot P2) := (List.range k).map fun (i : Nat) => (((i : Int), atL l i), true, 0)
def putsA (l : List Int) (k : Nat) : Ar P2 := ⟨putsL l k, 0, k⟩
theorem putsL_length (l : List Int) (k : Nat) : (putsL l k).length = k := by simp [putsL]
theorem puts_put (l : List Int) (k : Nat) (hk : k < 100) : putA z2 100 (putsA l k) ((k : Int), atL l k) = (putsA l (k + 1), k, 0) := by
  unfold putA
  rw [if_neg (show ¬ (100 : Int) ≤ (putsA l k).n by show ¬ (100 : Int) ≤ (k : Int); omega), if_pos (show (putsA l k).free = 0 from rfl)]
  have e : (putsA l k).l ++ [(((k : Int), atL l k), true, 0)] = putsL l (k + 1) := by simp [putsA, putsL, List.range_succ]
  rw [e]
  simp [putsA, putsL_length]
theorem puts_slot (l : List Int) {k j : Nat} (h : j < k) : slotA z2 (putsL l k) j = (((j : Int), atL l j), true, 0) := by
  simp [slotA, putsL, h]
theorem puts_ok (l : List Int) (k : Nat) : OkA k (putsA l k) := by
  refine ⟨by simp [putsA, putsL_length], by simp [putsA], fun s hs => ?_, by simp [putsA], by simp [putsA]⟩
  simp [putsA, putsL] at hs
  obtain ⟨a, _, rfl⟩ := hs
  simp
/-- What is handed on. -/
def gives (l : List Int) (m : Nat) : List (Int × P2) := (List.range m).map fun (i : Nat) => ((i : Int), ((i : Int), atL l i))
theorem gives_length (l : List Int) (m : Nat) : (gives l m).length = m := by simp [gives]
theorem all_puts (l : List Int) (k : Nat) : ∀ m, m ≤ k → allA (z := z2) (putsL l k) m = gives l m
  | 0, _ => rfl
  | m + 1, h => by
    rw [allA, all_puts l k m (by omega), puts_slot l (by omega)]
    simp [gives, List.range_succ]
theorem gives_next {l : List Int} {m : Nat} {pre : List (Int × P2)} {x : Int × P2} (h : pre ++ [x] <+: gives l m) : pre.length < m ∧ x = ((pre.length : Int), ((pre.length : Int), atL l pre.length)) := by
  have hl := h.length_le
  rw [gives_length] at hl
  simp at hl
  refine ⟨by omega, ?_⟩
  obtain ⟨t, ht⟩ := h
  have : (gives l m)[pre.length]? = some x := by rw [← ht]; simp
  rw [gives, List.getElem?_map, List.getElem?_range (by omega)] at this
  simpa using this.symm
end Go.Proofs.Ytgaenonggnkknaa
