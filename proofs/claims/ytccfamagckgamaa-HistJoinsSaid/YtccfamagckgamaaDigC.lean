/-
  The document's numbers of digits held against each other, their difference, and what a product of them comes to. No condition but on lengths.
-/
import Derived.Test.YtccfamagckgamaaDigB
import Derived.Test.YtccfamagckgamaaNearL
namespace Go.Proofs.Ytccfamagckgamaa
open Go.RowKit
/-! Values of rows put together. -/
theorem valN_split (f : Nat → Int) (n : Nat) : ∀ m, valN f (n + m) = valN f n + 65536 ^ n * valN (fun i => f (n + i)) m := by
  intro m
  induction m with
  | zero => simp [valN]
  | succ m ih =>
    rw [← Nat.add_assoc, valN, ih, valN, Int.mul_add, Int.pow_add, Int.add_assoc]
    congr 2
    rw [Int.mul_comm (f (n + m)), Int.mul_assoc, Int.mul_comm (65536 ^ m)]
theorem val_append (a b : List Int) : val (a ++ b) = val a + 65536 ^ a.length * val b := by
  rw [val, List.length_append, valN_split]
  congr 1
  · exact valN_congr _ (fun i hi => by rw [atD, atD, List.getElem?_append_left hi])
  · congr 1
    exact valN_congr _ (fun i hi => by rw [atD, atD, List.getElem?_append_right (by omega)]; congr 2; omega)
theorem val_zeros (i : Nat) : val (List.replicate i 0) = 0 := by
  have : ∀ n, valN (atD (List.replicate i 0)) n = 0 := by
    intro n
    induction n with
    | zero => rfl
    | succ n ih =>
      rw [valN, ih]
      have : atD (List.replicate i 0) n = 0 := by
        unfold atD
        rw [List.getElem?_replicate]
        split <;> rfl
      rw [this]; simp
  exact this _
theorem val_one (x : Int) : val [x] = x := by simp [val, valN, atD]
theorem mul_val (a : List Int) (y : Int) : ∀ n, valN (fun t => mulX a y t % 65536) n + mulC a y n * 65536 ^ n = y * valN (atD a) n := by
  intro n
  induction n with
  | zero => simp [valN, mulC]
  | succ n ih =>
    have e : mulX a y n % 65536 + mulC a y (n + 1) * 65536 = atD a n * y + mulC a y n := by
      simp only [mulX, mulC]; omega
    simp only [valN]
    rw [Int.pow_succ, ← Int.mul_assoc, Int.mul_right_comm (mulC a y (n + 1)), Int.mul_add, ← ih]
    have e2 : (mulX a y n % 65536 + mulC a y (n + 1) * 65536) * 65536 ^ n = (atD a n * y + mulC a y n) * 65536 ^ n := by rw [e]
    simp only [Int.add_mul] at e2
    have e3 : y * (atD a n * 65536 ^ n) = atD a n * y * 65536 ^ n := by rw [← Int.mul_assoc, Int.mul_comm y]
    rw [e3]
    omega
theorem rowD_val (a : List Int) (y : Int) (i : Nat) : val (rowD a y i) = 65536 ^ i * (y * val a) := by
  have e1 : val ((List.range a.length).map fun t => mulX a y t % 65536) = valN (fun t => mulX a y t % 65536) a.length := by
    rw [val]
    rw [show ((List.range a.length).map fun t => mulX a y t % 65536).length = a.length by simp]
    exact valN_congr _ (fun i hi => by simp [atD, hi])
  rw [rowD, rowK, List.append_assoc, val_append, val_append, val_zeros, val_one, e1]
  simp only [List.length_replicate, List.length_map, List.length_range, Int.zero_add]
  congr 1
  have := mul_val a y a.length
  rw [show valN (atD a) a.length = val a from rfl] at this
  rw [Int.mul_comm (65536 ^ a.length)]
  exact this
theorem timesK_val {a b : List Int} (ha : Digs a) (hb : Digs b) : ∀ i, val (timesK a b i) = val a * valN (atD b) i := by
  intro i
  induction i with
  | zero => simp [timesK, valN, val_one]
  | succ i ih =>
    rw [timesK, sum_val (timesK_digs a b i) (rowD_digs ha (hb.at i) i), ih, rowD_val, valN, Int.mul_add]
    congr 1
    rw [Int.mul_comm (65536 ^ i), Int.mul_comm (atD b i), Int.mul_assoc]
theorem times_val {a b : List Int} (ha : Digs a) (hb : Digs b) : val (timesD a b) = val a * val b := timesK_val ha hb b.length
theorem times_digs (a b : List Int) : Digs (timesD a b) := timesK_digs a b _
/-! Held against each other. -/
theorem valN_lt {l : List Int} (h : Digs l) : ∀ n, valN (atD l) n < 65536 ^ n := by
  intro n
  induction n with
  | zero => simp [valN]
  | succ n ih =>
    have a := Int.mul_le_mul_of_nonneg_right (show atD l n ≤ 65535 by have := (h.at n).2; omega) (show (0 : Int) ≤ 65536 ^ n from Int.pow_nonneg (by omega))
    rw [valN, Int.pow_succ]
    omega
theorem val_top {a b : List Int} (ha : Digs a) (hb : Digs b) {i : Nat} (hi : atD a i < atD b i) : ∀ m, (∀ j, i < j → j < i + 1 + m → atD a j = atD b j) → valN (atD a) (i + 1 + m) < valN (atD b) (i + 1 + m) := by
  intro m
  induction m with
  | zero =>
    intro _
    have h1 := valN_lt ha i
    have h2 := (valN_pos hb i 0).1
    have h3 := Int.mul_le_mul_of_nonneg_right (show atD a i + 1 ≤ atD b i by omega) (show (0 : Int) ≤ 65536 ^ i from Int.pow_nonneg (by omega))
    rw [Int.add_mul] at h3
    simp only [Nat.add_zero, valN]
    omega
  | succ m ih =>
    intro h
    have := ih (fun j h1 h2 => h j h1 (by omega))
    rw [← Nat.add_assoc, valN, valN, h (i + 1 + m) (by omega) (by omega)]
    omega
theorem val_eq_of {a b : List Int} {n : Nat} (hn : lonD a b ≤ n) (h : ∀ j, j < n → atD a j = atD b j) : val a = val b := by
  have hM : a.length ≤ lonD a b ∧ b.length ≤ lonD a b := by unfold lonD; split <;> omega
  rw [← valN_ge a (show a.length ≤ n by omega), ← valN_ge b (show b.length ≤ n by omega)]
  exact valN_congr _ h
theorem val_lt_of {a b : List Int} (ha : Digs a) (hb : Digs b) {i : Nat} (hl : i < lonD a b) (hi : atD a i < atD b i) (h : ∀ j, i < j → j < lonD a b → atD a j = atD b j) : val a < val b := by
  have hM : a.length ≤ lonD a b ∧ b.length ≤ lonD a b := by unfold lonD; split <;> omega
  have := val_top ha hb hi (lonD a b - (i + 1)) (fun j h1 h2 => h j h1 (by omega))
  rw [show i + 1 + (lonD a b - (i + 1)) = lonD a b by omega] at this
  rwa [valN_ge a hM.1, valN_ge b hM.2] at this
theorem lonD_comm (a b : List Int) : lonD a b = lonD b a := by unfold lonD; split <;> split <;> omega
end Go.Proofs.Ytccfamagckgamaa
