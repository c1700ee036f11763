/-
  Layer 18: how many ticks others would hold ahead of a party. No program in sight.
-/
import Derived.Test.YtookaodcdglhfaaDoorLedS
namespace Go.Proofs.YtookaodcdglhfaaDoor
theorem lock_lo (n : Int) : 45045 ≤ lockF n := by
  have h := bring_in n 1 16 (by omega)
  unfold lockF
  generalize bringF n 1 16 = b at h
  have : b = 1 ∨ b = 2 ∨ b = 3 ∨ b = 4 ∨ b = 5 ∨ b = 6 ∨ b = 7 ∨ b = 8 ∨ b = 9 ∨ b = 10 ∨ b = 11 ∨ b = 12 ∨ b = 13 ∨ b = 14 ∨ b = 15 ∨ b = 16 := by omega
  rcases this with rfl | rfl | rfl | rfl | rfl | rfl | rfl | rfl | rfl | rfl | rfl | rfl | rfl | rfl | rfl | rfl <;> decide
def tkF (gap each : Int) : Int := gap / each + (if gap % each > 0 then 1 else 0)
theorem tkF_in {gap each : Int} (hg : 0 ≤ gap) (hg2 : gap < 18446744073709551616) (he : 45045 ≤ each) : 0 ≤ gap / each ∧ gap / each ≤ 409518128176259 ∧ 0 ≤ gap % each ∧ gap % each < each ∧ 0 ≤ tkF gap each ∧ tkF gap each ≤ 409518128176260 := by
  have h1 : 0 ≤ gap / each := Int.ediv_nonneg hg (by omega)
  have h2 : gap / each ≤ 409518128176259 := by
    have : gap / each < 409518128176260 := by
      apply Int.ediv_lt_of_lt_mul (by omega)
      have : 409518128176260 * 45045 ≤ 409518128176260 * each := Int.mul_le_mul_of_nonneg_left he (by omega)
      omega
    omega
  have h3 := Int.emod_nonneg gap (show each ≠ 0 by omega)
  have h4 := Int.emod_lt_of_pos gap (show 0 < each by omega)
  refine ⟨h1, h2, h3, h4, ?_, ?_⟩ <;> unfold tkF <;> split <;> omega
/-- What party k is ahead of p. -/
def tk (l : List Pt) (p k : Nat) : Int := if (pt l k).v < (pt l p).v then tkF ((pt l p).v - (pt l k).v) (lockF (pt l k).w) else 0
def stepT (l : List Pt) (p : Int) (n : Int) (k : Nat) : Int := if isP l p ∧ k < l.length then n + tk l p.toNat k else n
theorem tk_in {l : List Pt} (hv : ∀ k, k < l.length → U64 (pt l k).v) {p k : Nat} (hp : p < l.length) (hk : k < l.length) : 0 ≤ tk l p k ∧ tk l p k ≤ 409518128176260 := by
  unfold tk
  split
  · have h1 := hv p hp
    have h2 := hv k hk
    have := tkF_in (gap := (pt l p).v - (pt l k).v) (each := lockF (pt l k).w) (by omega) (by have := h1.2; have := h2.1; omega) (lock_lo _)
    exact ⟨this.2.2.2.2.1, this.2.2.2.2.2⟩
  · omega
theorem foldl_tick {l : List Pt} (hv : ∀ k, k < l.length → U64 (pt l k).v) {p : Int} : ∀ (ps : List Nat) (n : Int), 0 ≤ n → n ≤ ps.foldl (stepT l p) n ∧ ps.foldl (stepT l p) n ≤ n + 409518128176260 * ps.length
  | [], n, h => by simp
  | k :: ps, n, h => by
    have h1 : n ≤ stepT l p n k ∧ stepT l p n k ≤ n + 409518128176260 := by
      unfold stepT
      split
      · rename_i c
        obtain ⟨c0, c1⟩ := isP_iff.1 c.1
        have := tk_in hv (p := p.toNat) (by omega) c.2
        omega
      · omega
    have := foldl_tick hv (p := p) ps (stepT l p n k) (by omega)
    simp only [List.foldl_cons, List.length_cons]
    omega
def behK (l : List Pt) (p : Int) (has : Nat → Bool) : Nat → Int
  | 0 => 0
  | k + 1 => if has k then stepT l p (behK l p has k) k else behK l p has k
theorem beh_range (l : List Pt) (p : Int) (has : Nat → Bool) (n : Nat) : (List.range n).foldl (fun b i => if has i then stepT l p b i else b) 0 = behK l p has (min n l.length) := by
  induction n with
  | zero => rw [Nat.zero_min]; rfl
  | succ n ih =>
    rw [List.range_succ, List.foldl_append, ih]
    by_cases h : n < l.length
    · rw [Nat.min_eq_left (by omega), Nat.min_eq_left (by omega)]; rfl
    · rw [Nat.min_eq_right (by omega), Nat.min_eq_right (by omega)]
      simp only [List.foldl_cons, List.foldl_nil]
      split
      · unfold stepT; rw [if_neg (by omega)]
      · rfl
def behF (l : List Pt) (p : Int) (s : Nat) : Int := behK l p (fun i => s.testBit i) l.length
theorem beh_bits {l : List Pt} (hl : l.length ≤ 8) (p : Int) (s : Nat) : (bitsL s).foldl (stepT l p) 0 = behF l p s := by
  rw [foldl_bits, beh_range l p (fun i => s.testBit i) 64, Nat.min_eq_right (by omega)]; rfl
theorem behK_in {l : List Pt} (hv : ∀ k, k < l.length → U64 (pt l k).v) (p : Int) (has : Nat → Bool) : ∀ k, 0 ≤ behK l p has k ∧ behK l p has k ≤ 409518128176260 * k
  | 0 => by simp [behK]
  | k + 1 => by
    have ih := behK_in hv p has k
    have e : behK l p has (k + 1) = if has k then stepT l p (behK l p has k) k else behK l p has k := rfl
    rw [e]
    have := foldl_tick hv (p := p) [k] (behK l p has k) ih.1
    simp only [List.foldl_cons, List.foldl_nil, List.length_cons, List.length_nil] at this
    split <;> omega
end Go.Proofs.YtookaodcdglhfaaDoor
