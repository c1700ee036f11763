/-
  An own row that is cut at its end. Plain laws. No condition.
-/
import Derived.Test.YtdeejiiegmddaaaTab
namespace Go
open Go.RowKit
theorem own_cut {w : World} {B : Nat} {e : TypeId} {s n c m : Nat} {a : Option Addr} {xs : List Value} (h : w.ownsRow B e s (.slice a n c) n xs) (hm : m ≤ n) : w.ownsRow B e s (.slice a m c) m (xs.take (m * s)) := by
  refine ⟨by rw [List.length_take, h.1, Nat.min_eq_left (Nat.mul_le_mul_right _ hm)], ?_⟩
  rcases h.2 with ⟨h0, h1⟩ | ⟨g, cap, cur, hv, hg, hh, hn, hc, hcs, ht⟩
  · injection h0 with e1 e2 e3
    subst e1 e2 e3
    have : m = 0 := by omega
    subst this
    exact .inl ⟨rfl, rfl⟩
  · injection hv with e1 e2 e3
    subst e1 e3
    exact .inr ⟨g, c, cur, rfl, hg, hh, by omega, hc, hcs, by rw [← ht, List.take_take, Nat.min_eq_left (Nat.mul_le_mul_right _ hm)]⟩
theorem own_cap {w : World} {B : Nat} {e : TypeId} {s n c : Nat} {a : Option Addr} {xs : List Value} (h : w.ownsRow B e s (.slice a n c) n xs) : n ≤ c := by
  rcases h.2 with ⟨h0, h1⟩ | ⟨g, cap, cur, hv, hg, hh, hn, hc, hcs, ht⟩
  · injection h0 with e1 e2 e3; omega
  · injection hv with e1 e2 e3; omega
theorem tab_take {α : Type} {f : α → List Value} {c : Nat} (hf : ∀ x, (f x).length = c) : ∀ (l : List α) (m : Nat), (tab f l).take (m * c) = tab f (l.take m)
  | [], m => by simp [tab]
  | x :: l, 0 => by simp [tab]
  | x :: l, m + 1 => by
    have e : tab f (x :: l) = f x ++ tab f l := rfl
    have e2 : tab f ((x :: l).take (m + 1)) = f x ++ tab f (l.take m) := rfl
    rw [e, e2, ← tab_take hf l m, List.take_append, hf, List.take_of_length_le (by rw [hf, Nat.add_mul]; omega)]
    congr 2
    rw [Nat.add_mul]; omega
end Go
