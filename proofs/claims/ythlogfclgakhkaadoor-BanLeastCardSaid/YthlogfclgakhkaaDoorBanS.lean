/-
  Layer 21: who has the least V of a set, what a turn costs, what the next turn is. Plain laws. No condition.
-/
import Derived.Test.YthlogfclgakhkaaDoorTurn
import Derived.Test.YthlogfclgakhkaaDoorIdset
namespace Go.Proofs.YthlogfclgakhkaaDoor
open Go.RowKit
/-! The least of a set. -/
def encB : Option Nat → Int | none => -1 | some j => j
def stepV (v : List Int) (b : Option Nat) (p : Nat) : Option Nat :=
  if p < v.length ∧ (∀ j, b = some j → atD v p < atD v j) then some p else b
def leastK (v : List Int) (has : Nat → Bool) : Nat → Option Nat
  | 0 => none
  | k + 1 => if has k then stepV v (leastK v has k) k else leastK v has k
theorem foldl_bits {β : Type} (f : β → Nat → β) (s : Nat) (z : β) : (bitsL s).foldl f z = (List.range 64).foldl (fun b i => if s.testBit i then f b i else b) z := by
  unfold bitsL; rw [List.foldl_filter]
theorem least_range (v : List Int) (has : Nat → Bool) (n : Nat) : (List.range n).foldl (fun b i => if has i then stepV v b i else b) none = leastK v has (min n v.length) := by
  induction n with
  | zero => rw [Nat.zero_min]; rfl
  | succ n ih =>
    rw [List.range_succ, List.foldl_append, ih]
    by_cases h : n < v.length
    · rw [Nat.min_eq_left (by omega), Nat.min_eq_left (by omega)]; rfl
    · rw [Nat.min_eq_right (by omega), Nat.min_eq_right (by omega)]
      simp only [List.foldl_cons, List.foldl_nil]
      split
      · unfold stepV; rw [if_neg (by omega)]
      · rfl
def leastV (v : List Int) (s : Nat) : Option Nat := leastK v (fun i => s.testBit i) v.length
theorem least_bits {v : List Int} (hl : v.length ≤ 8) (s : Nat) : (bitsL s).foldl (stepV v) none = leastV v s := by
  rw [foldl_bits, least_range v (fun i => s.testBit i) 64, Nat.min_eq_right (by omega)]; rfl
theorem stepV_lt {v : List Int} {b : Option Nat} {p j : Nat} (hb : ∀ j, b = some j → j < v.length) (h : stepV v b p = some j) : j < v.length := by
  unfold stepV at h
  split at h
  · rename_i e; injection h with h; subst h; exact e.1
  · exact hb j h
theorem foldl_least_lt {v : List Int} : ∀ (ps : List Nat) (b : Option Nat), (∀ j, b = some j → j < v.length) → ∀ j, ps.foldl (stepV v) b = some j → j < v.length
  | [], b, hb, j, h => hb j h
  | p :: ps, b, hb, j, h => foldl_least_lt ps (stepV v b p) (fun i hi => stepV_lt hb hi) j h
/-! A play. -/
structure Bn where
  p : Int
  u : Int
  s : Int
  wt : Nat
  v : List Int
  g : List Int
/-- What n ticks cost party p. -/
def payF (v g : List Int) (p n : Int) : List Int := v.set p.toNat (addF (atD v p.toNat) (mulF (lockF (g[p.toNat]?.getD 0)) n))
def nxP (S : Bn) : Int := nextP S.p S.u S.s S.wt (encB (leastV S.v S.wt))
def nxU (S : Bn) : Int := nextU S.p S.u S.s S.wt
def nxN (S : Bn) : Int := leftF (nxU S) S.s
def nxS (S : Bn) : Bn := { S with p := nxP S, u := endF (nxU S) S.s, v := payF S.v S.g (nxP S) (nxN S) }
end Go.Proofs.YthlogfclgakhkaaDoor
