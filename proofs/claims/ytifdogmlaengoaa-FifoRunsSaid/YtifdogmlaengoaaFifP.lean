/-
  Layer 05: a chain of places: what join, push and take do. No program in sight.
-/
import Derived.Test.YtifdogmlaengoaaAreS
import Derived.Test.YtifdogmlaengoaaMapI
namespace Go.Proofs.Ytifdogmlaengoaa
open Go.RowKit
abbrev LkG (α : Type) := α × Int × Int × Int
structure Fq (α : Type) where
  S : Ar (LkG α)
  fi : Int
  la : Int
section
variable {α : Type} (z : LkG α)
/-- The one half of join. -/
def joA (q : Fq α) (a b : Int) : Fq α :=
  if isA z q.S.l a = true then ⟨setA z q.S a ((getA z q.S a).1.1, (getA z q.S a).1.2.1, (getA z q.S a).1.2.2.1, b), q.fi, q.la⟩ else ⟨q.S, b, q.la⟩
def joB (q : Fq α) (a b : Int) : Fq α :=
  if isA z q.S.l b = true then ⟨setA z q.S b ((getA z q.S b).1.1, (getA z q.S b).1.2.1, a, (getA z q.S b).1.2.2.2), q.fi, q.la⟩ else ⟨q.S, q.fi, a⟩
def joinF (q : Fq α) (a b : Int) : Fq α := joB z (joA z q a b) a b
end
/-- Behind a push into a place. -/
def pushQ {α : Type} (z : LkG α) (q : Fq α) (S' : Ar (LkG α)) (p : Int) : Fq α := ⟨(joinF z ⟨S', q.fi, q.la⟩ q.la p).S, (joinF z ⟨S', q.fi, q.la⟩ q.la p).fi, p⟩
/-- Behind what is taken off a place. -/
def takeQ {α : Type} (z : LkG α) (q : Fq α) (p : Int) : Fq α := if isA z q.S.l p = true then joinF z ⟨dropA z q.S p, q.fi, q.la⟩ (getA z q.S p).1.2.2.1 (getA z q.S p).1.2.2.2 else q
theorem getA_2 {β : Type} {z : β} {S : Ar β} {i : Int} : (getA z S i).2 = isA z S.l i := by
  unfold getA; by_cases h : isA z S.l i = true
  · rw [if_pos h, h]
  · rw [if_neg h, Bool.eq_false_iff.2 h]
/-- The blocks of a queue. -/
def ft (b ba mb : Nat) (G : Option Nat) (k : Nat) : Prop := k = b ∨ k = ba ∨ k = mb ∨ some k = G
theorem MapI.cells {P : Program} {t T : TypeId} {w : World} {mb k c : Nat} {f : Int → Option Int} {cs : Array Value} (h : MapI P t w mb f c) (hk : w.heap[k]? = some (.cells cs T (0, 0))) : k ≠ mb := by
  rintro rfl
  obtain ⟨D, ⟨es, clock, h1, _⟩, _⟩ := h
  rw [h1] at hk; cases hk
theorem kept_one {F : Nat → Prop} {m : Nat} {w w' : World} (h : Kept (fun k => k = m) w w') (hm : F m) : Kept F w w' := h.mono fun k _ e => by rw [e]; exact hm
end Go.Proofs.Ytifdogmlaengoaa
