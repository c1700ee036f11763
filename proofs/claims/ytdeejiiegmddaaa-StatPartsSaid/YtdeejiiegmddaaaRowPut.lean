/-
  One cell of an element of a row of the call's own: read, and stored to. Plain laws for the walk. No condition.
-/
import Derived.Test.YtdeejiiegmddaaaTabSet
namespace Go
open Go.RowKit
section
variable {α : Type} {f : α → List Value} {c : Nat} {B g cap : Nat} {e T : TypeId} {l : List α} {w : World} {b : Nat} {cs : Array Value} {k j : Nat} {x y : α} {u : Value}
theorem tab_set1 (hf : ∀ x, (f x).length = c) (hc : 0 < c) (hk : l[k]? = some x) (hj : j < c) (hy : f y = (f x).set j u) : (tab f l).set (k * c + j) u = tab f (l.set k y) := by
  have hkl : k < l.length := (List.getElem?_eq_some_iff.1 hk).1
  rw [← tab_set hf hc l k y hkl]
  have hkc : (k + 1) * c ≤ l.length * c := Nat.mul_le_mul_right _ hkl
  rw [Nat.add_mul] at hkc
  apply List.ext_getElem?
  intro m
  rw [setL_get _ _ _ (by rw [hf, tab_length hf]; omega), hf]
  by_cases hm : k * c ≤ m ∧ m < k * c + c
  · rw [if_pos hm, hy]
    have e1 := tab_get hf l k x (m - k * c) hk (by omega)
    rw [show k * c + (m - k * c) = m by omega] at e1
    by_cases hq : m = k * c + j
    · subst hq
      rw [List.getElem?_set_self (by rw [tab_length hf]; omega), show k * c + j - k * c = j by omega, List.getElem?_set_self (by rw [hf]; exact hj)]
    · rw [List.getElem?_set_ne (by omega), List.getElem?_set_ne (by omega), e1]
  · rw [if_neg hm, List.getElem?_set_ne (by omega)]
theorem own_cell (hf : ∀ x, (f x).length = c) (hown : w.ownsRow B e c (.slice (some ⟨g, 0, none⟩) l.length cap) l.length (tab f l)) (hk : l[k]? = some x) (hj : j < c) : w.cell? ⟨g, k * c + j, none⟩ = (f x)[j]? := by
  have hkl : k < l.length := (List.getElem?_eq_some_iff.1 hk).1
  have hkc : (k + 1) * c ≤ l.length * c := Nat.mul_le_mul_right _ hkl
  rw [Nat.add_mul] at hkc
  rw [hown.cellAt (k * c + j) (by omega), tab_get hf l k x j hk hj]
theorem own_put1 (hf : ∀ x, (f x).length = c) (hc : 0 < c) (hrec : Rec w b T cs) (hT : T ≠ e) (hown : w.ownsRow B e c (.slice (some ⟨g, 0, none⟩) l.length cap) l.length (tab f l)) (hk : l[k]? = some x) (hj : j < c) (hy : f y = (f x).set j u) :
    Rec (w.setCell ⟨g, k * c + j, none⟩ u) b T cs ∧ (w.setCell ⟨g, k * c + j, none⟩ u).ownsRow B e c (.slice (some ⟨g, 0, none⟩) (l.set k y).length cap) (l.set k y).length (tab f (l.set k y)) ∧
      Below B w (w.setCell ⟨g, k * c + j, none⟩ u) ∧ KeptT b (fun t => t = e) w (w.setCell ⟨g, k * c + j, none⟩ u) := by
  have hst := hown.stored (k * c + j) u
  rw [tab_set1 hf hc hk hj hy] at hst
  refine ⟨Rec.grown hrec hown hst.2 hT, by rw [List.length_set]; exact hst.1, (Below.refl B w).setCell (p := ⟨g, k * c + j, none⟩) (hown.lt g rfl).1 _, KeptT.grown hown hst.2 rfl⟩
end
end Go
