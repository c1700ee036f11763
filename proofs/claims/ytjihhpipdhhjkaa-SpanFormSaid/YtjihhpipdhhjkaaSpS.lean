/-
  Layer 33: where a number would stand in a row, found by halves. Plain laws. No condition.
-/
import Derived.Test.YtjihhpipdhhjkaaTab
import Derived.Test.YtjihhpipdhhjkaaTabSet
import Derived.Test.YtjihhpipdhhjkaaLift
import Derived.Test.YtjihhpipdhhjkaaRows
namespace Go.Proofs.Ytjihhpipdhhjkaa
open Go.RowKit
theorem beq_cases (a b : Int) : (a == b) = true ∨ (a == b) = false := Bool.eq_false_or_eq_true _
theorem dec_cases (p : Prop) [Decidable p] : decide p = true ∨ decide p = false := Bool.eq_false_or_eq_true _
def bsF (f : Nat → Int) : Nat → Nat → Nat → Nat
  | 0, i, _ => i
  | m + 1, i, j => if i < j then (if f ((i + j) / 2) < 0 then bsF f m ((i + j) / 2 + 1) j else bsF f m i ((i + j) / 2)) else i
def bsN (f : Nat → Int) (n : Nat) : Nat := bsF f n 0 n
theorem bsF_end (f : Nat → Int) (m i : Nat) : bsF f m i i = i := by
  cases m with
  | zero => rfl
  | succ m => unfold bsF; rw [if_neg (by omega)]
theorem bsF_le (f : Nat → Int) : ∀ (m i j : Nat), i ≤ j → i ≤ bsF f m i j ∧ bsF f m i j ≤ j
  | 0, i, j, h => ⟨Nat.le_refl _, h⟩
  | m + 1, i, j, h => by
    unfold bsF
    split
    · split
      · have := bsF_le f m ((i + j) / 2 + 1) j (by omega); omega
      · have := bsF_le f m i ((i + j) / 2) (by omega); omega
    · omega
theorem bsN_le (f : Nat → Int) (n : Nat) : bsN f n ≤ n := (bsF_le f n 0 n (by omega)).2
/-- Where all that is below 0 stands first. -/
theorem bsF_spec {f : Nat → Int} {n : Nat} (hm : ∀ i j, i ≤ j → j < n → f j < 0 → f i < 0) : ∀ (m i j : Nat), i ≤ j → j ≤ n → j - i ≤ m → (∀ k, k < i → f k < 0) → (∀ k, j ≤ k → k < n → ¬ f k < 0) →
    (∀ k, k < bsF f m i j → f k < 0) ∧ (∀ k, bsF f m i j ≤ k → k < n → ¬ f k < 0)
  | 0, i, j, h, hj, hd, h1, h2 => by
    obtain rfl : i = j := by omega
    exact ⟨h1, h2⟩
  | m + 1, i, j, h, hj, hd, h1, h2 => by
    unfold bsF
    split
    · split
      · rename_i hlt hc
        refine bsF_spec hm m _ j (by omega) hj (by omega) (fun k hk => ?_) h2
        exact hm k _ (by omega) (by omega) hc
      · rename_i hlt hc
        refine bsF_spec hm m i _ (by omega) (by omega) (by omega) h1 (fun k hk hk2 hf => hc (hm _ k hk hk2 hf))
    · obtain rfl : i = j := by omega
      exact ⟨h1, h2⟩
theorem bsN_spec {f : Nat → Int} {n : Nat} (hm : ∀ i j, i ≤ j → j < n → f j < 0 → f i < 0) : (∀ k, k < bsN f n → f k < 0) ∧ (∀ k, bsN f n ≤ k → k < n → ¬ f k < 0) :=
  bsF_spec hm n 0 n (by omega) (Nat.le_refl _) (by omega) (fun k h => by omega) (fun k h1 h2 => by omega)
theorem bsN_uniq {f : Nat → Int} {n : Nat} (hm : ∀ i j, i ≤ j → j < n → f j < 0 → f i < 0) {k : Nat} (hk : k ≤ n) (h1 : ∀ i, i < k → f i < 0) (h2 : ∀ i, k ≤ i → i < n → ¬ f i < 0) : bsN f n = k := by
  obtain ⟨g1, g2⟩ := bsN_spec hm
  have hl := bsN_le f n
  rcases Nat.lt_trichotomy (bsN f n) k with h | h | h
  · exact (g2 _ (Nat.le_refl _) (by omega) (h1 _ h)).elim
  · exact h
  · exact (h2 k (Nat.le_refl _) (by omega) (g1 k h)).elim
def cmpT (there : Bool) (c : Int) : Int := if c == 0 && there then -1 else c
def lenS : Value → Nat | .slice _ n _ => n | _ => 0
def natI : Value → Nat | .int _ z => z.toNat | _ => 0
def BsP (r : Nat) (w : World) (e : Ending) (w' : World) : Prop := ∃ (bb : Bool) (x : Past), e = .returned (.tuple #[.int .i64 (r : Int), .bool bb]) ∧ w' = w.past x
end Go.Proofs.Ytjihhpipdhhjkaa
