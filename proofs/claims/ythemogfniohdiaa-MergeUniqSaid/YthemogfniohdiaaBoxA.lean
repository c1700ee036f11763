/-
  'out = append(out, v)' of a boxed variable, whose row lies beyond all boxes: plain laws for the walk of a loop over an iterator. No condition.
-/
import Derived.RangeFuncBox
import Derived.RangeFuncNested
import Derived.Test.YthemogfniohdiaaOwn
namespace Go
open Go.RowKit
/-- Behind an append to the row of a box, and the store back: that box, that row, all other boxes, and what is kept. -/
theorem boxed_append {W w1 : World} {n₀ n1 B : Nat} {t e : TypeId} {size : Nat} {v v' : Value} {k m : Nat} {xs ys : List Value} {tmp : Obj}
    (hv : Boxed W B t v) (hrow : W.ownsRow n1 e size v k xs) (hn1 : n1 ≤ W.heap.size) (hB1 : B < n1) (hB : n₀ ≤ B)
    (hown' : w1.ownsRow n1 e size v' m ys) (hgrow : (W.alloc tmp).grownBy w1 v.ownBlock) :
    Boxed w1 B t v ∧ Boxed (w1.setCell ⟨B, 0, none⟩ v') B t v' ∧ (w1.setCell ⟨B, 0, none⟩ v').ownsRow n1 e size v' m ys ∧ KeepsOthers W (w1.setCell ⟨B, 0, none⟩ v') ∧ Below n₀ W (w1.setCell ⟨B, 0, none⟩ v') ∧
      (∀ B2 t2 u, Boxed W B2 t2 u → B2 < n1 → Boxed w1 B2 t2 u ∧ (B2 ≠ B → Boxed (w1.setCell ⟨B, 0, none⟩ v') B2 t2 u)) := by
  have hne : ∀ B2, B2 < n1 → some B2 ≠ v.ownBlock := fun B2 h e => by have := (hrow.lt B2 e.symm).1; omega
  have hne' : ∀ B2, B2 < n1 → some B2 ≠ v'.ownBlock := fun B2 h e => by have := (hown'.lt B2 e.symm).1; omega
  have hv1 : Boxed w1 B t v := (hv.alloc tmp).kept hgrow (hne B hB1)
  refine ⟨hv1, hv1.set v', hown'.kept (grownBy_setCell' w1 B v') (.inr (hne' B hB1).symm), ?_, ?_, fun B2 t2 u h2 hlt => ?_⟩
  · refine ((KeepsOthers.alloc W tmp).trans (KeepsOthers.of_grownBy hgrow fun j o ej hj => ?_)).trans (KeepsOthers.setCell _ _ _)
    rcases (hrow.alloc tmp).2 with ⟨rfl, _⟩ | ⟨g, cap, cur, rfl, _, hgb, _⟩
    · simp [Value.ownBlock] at ej
    · obtain rfl : g = j := by simpa [Value.ownBlock] using ej
      rw [hgb] at hj; cases hj; rfl
  · refine (((Below.refl n₀ W).alloc (by omega) tmp).grown hgrow (by simp; omega) fun j ej => ?_).setCell (p := ⟨B, 0, none⟩) hB v'
    have := (hrow.lt j ej).1
    omega
  · have h3 : Boxed w1 B2 t2 u := (h2.alloc tmp).kept hgrow (hne B2 hlt)
    exact ⟨h3, fun hn => h3.other hn v'⟩
end Go
