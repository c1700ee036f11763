/-
  Layer 05: places that hold values, and a chain of free ones (layer 02's text, cut). No program in sight.
-/
import Derived.Test.YtifdogmlaengoaaObj
import Derived.Test.YtifdogmlaengoaaTab
namespace Go.Proofs.Ytifdogmlaengoaa
open Go.RowKit
/-- A place: its value, whether there is one, and what was dropped ahead of it. -/
abbrev Slot (α : Type) := α × Bool × Nat
structure Ar (α : Type) where
  l : List (Slot α)
  free : Nat
  n : Int
section
variable {α : Type} (z : α)
def slotA (l : List (Slot α)) (k : Nat) : Slot α := l[k]?.getD (z, false, 0)
def isA (l : List (Slot α)) (i : Int) : Bool := decide (0 ≤ i) && decide (i < l.length) && (slotA z l i.toNat).2.1
def putA (most : Int) (S : Ar α) (v : α) : Ar α × Nat × Nat :=
  if most ≤ S.n then (S, 0, 3) else
  if S.free = 0 then (⟨S.l ++ [(v, true, 0)], 0, S.n + 1⟩, S.l.length, 0) else
  (⟨S.l.set (S.free - 1) (v, true, 0), (slotA z S.l (S.free - 1)).2.2, S.n + 1⟩, S.free - 1, 0)
def getA (S : Ar α) (i : Int) : α × Bool := if isA z S.l i then ((slotA z S.l i.toNat).1, true) else (z, false)
def setA (S : Ar α) (i : Int) (v : α) : Ar α := if isA z S.l i then ⟨S.l.set i.toNat (v, true, (slotA z S.l i.toNat).2.2), S.free, S.n⟩ else S
def dropA (S : Ar α) (i : Int) : Ar α := if isA z S.l i then ⟨S.l.set i.toNat (z, false, S.free), i.toNat + 1, S.n - 1⟩ else S
/-- All that is small. -/
structure OkA (c : Nat) (S : Ar α) : Prop where
  len : S.l.length ≤ c
  free : S.free ≤ S.l.length
  n0 : -(c : Int) ≤ S.n
  n1 : S.n ≤ c
variable {z}
theorem slot_at {l : List (Slot α)} {k : Nat} (h : k < l.length) : l[k]? = some (slotA z l k) := by simp [slotA, h]
theorem slot_mem {l : List (Slot α)} {k : Nat} (h : k < l.length) : slotA z l k ∈ l := by
  have e : slotA z l k = l[k] := by simp [slotA, h]
  rw [e]; exact List.getElem_mem h
theorem isA_iff {l : List (Slot α)} {i : Int} : isA z l i = true ↔ 0 ≤ i ∧ i < l.length ∧ (slotA z l i.toNat).2.1 = true := by simp [isA, and_assoc]
theorem slot_set {l : List (Slot α)} {k j : Nat} {s : Slot α} (h : k < l.length) : slotA z (l.set k s) j = if j = k then s else slotA z l j := by
  unfold slotA
  by_cases e : j = k
  · subst e; simp [h]
  · rw [if_neg e, List.getElem?_set_ne (by omega)]
theorem slot_snoc {l : List (Slot α)} {s : Slot α} (j : Nat) : slotA z (l ++ [s]) j = if j = l.length then s else slotA z l j := by
  unfold slotA
  by_cases e : j = l.length
  · subst e; simp
  · rw [if_neg e]
    by_cases h : j < l.length
    · rw [List.getElem?_append_left h]
    · rw [List.getElem?_append_right (by omega), List.getElem?_eq_none (l := l) (by omega), List.getElem?_eq_none (by simp; omega)]
/-- Of the first m places those with values. -/
def allA (l : List (Slot α)) : Nat → List (Int × α)
  | 0 => []
  | k + 1 => allA l k ++ (if (slotA z l k).2.1 then [((k : Int), (slotA z l k).1)] else [])
end
end Go.Proofs.Ytifdogmlaengoaa
