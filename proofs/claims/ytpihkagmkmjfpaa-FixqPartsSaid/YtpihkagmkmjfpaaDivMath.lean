/-
  Division of two words by one, digit by digit: plain numbers. No condition.
-/
import Derived.Lib.BitFns
namespace Go.DivMath

/-- A digit. -/
def kQ (u d y1 y0 : Int) : Int := (u * 4294967296 + d) / (y1 * 4294967296 + y0)
/-- What is left behind it. -/
def kR (u d y1 y0 : Int) : Int := u * 4294967296 + d - kQ u d y1 y0 * (y1 * 4294967296 + y0)
/-- What the digits are made of. -/
structure Dig (u d y1 y0 : Int) : Prop where
  u0 : 0 ≤ u
  u1 : u < y1 * 4294967296 + y0
  d0 : 0 ≤ d
  d1 : d < 4294967296
  a0 : 0 < y1
  b0 : 0 ≤ y0
  b1 : y0 < 4294967296

theorem kQ_spec {u d y1 y0 : Int} (h : Dig u d y1 y0) : 0 ≤ kQ u d y1 y0 ∧ kQ u d y1 y0 < 4294967296 ∧
    (kQ u d y1 y0 * y1) * 4294967296 + kQ u d y1 y0 * y0 ≤ u * 4294967296 + d ∧ u * 4294967296 + d < (kQ u d y1 y0 * y1) * 4294967296 + kQ u d y1 y0 * y0 + (y1 * 4294967296 + y0) := by
  obtain ⟨u0, u1, d0, d1, a0, b0, b1⟩ := h
  have hY : 0 < y1 * 4294967296 + y0 := by omega
  have e1 : kQ u d y1 y0 * (y1 * 4294967296 + y0) ≤ u * 4294967296 + d := Int.ediv_mul_le _ (by omega)
  have e2 : u * 4294967296 + d < (kQ u d y1 y0 + 1) * (y1 * 4294967296 + y0) := Int.lt_ediv_add_one_mul_self _ hY
  have e0 : 0 ≤ kQ u d y1 y0 := Int.ediv_nonneg (by omega) (by omega)
  generalize kQ u d y1 y0 = Q at *
  have x1 : Q * (y1 * 4294967296 + y0) = (Q * y1) * 4294967296 + Q * y0 := by rw [Int.mul_add, Int.mul_assoc]
  have x2 : (Q + 1) * (y1 * 4294967296 + y0) = (Q * y1) * 4294967296 + Q * y0 + (y1 * 4294967296 + y0) := by rw [Int.add_mul, x1, Int.one_mul]
  refine ⟨e0, ?_, by omega, by omega⟩
  by_cases hb : Q < 4294967296
  · exact hb
  · have := Int.mul_le_mul_of_nonneg_right (show (4294967296 : Int) ≤ Q by omega) (show 0 ≤ y1 * 4294967296 + y0 by omega)
    omega

theorem k_init {u d y1 y0 : Int} (h : Dig u d y1 y0) : kQ u d y1 y0 ≤ u / y1 := by
  obtain ⟨h0, _, h1, _⟩ := kQ_spec h
  obtain ⟨u0, u1, d0, d1, a0, b0, b1⟩ := h
  rw [Int.le_ediv_iff_mul_le a0]
  have := Int.mul_nonneg h0 b0
  omega

theorem k_yes {u d y1 y0 q r : Int} (h : Dig u d y1 y0) (hu : u = q * y1 + r) (hq : kQ u d y1 y0 ≤ q) (hc : 4294967296 ≤ q ∨ 4294967296 * r + d < q * y0) : kQ u d y1 y0 ≤ q - 1 := by
  obtain ⟨h0, h1, h2, h3⟩ := kQ_spec h
  rcases hc with hc | hc
  · omega
  · by_cases e : kQ u d y1 y0 = q
    · rw [e] at h2; omega
    · omega

theorem k_no {u d y1 y0 q r : Int} (h : Dig u d y1 y0) (hu : u = q * y1 + r) (hq : kQ u d y1 y0 ≤ q) (hc : q * y0 ≤ 4294967296 * r + d) : q = kQ u d y1 y0 := by
  obtain ⟨h0, h1, h2, h3⟩ := kQ_spec h
  by_cases e : kQ u d y1 y0 = q
  · exact e.symm
  · have hlt : kQ u d y1 y0 + 1 ≤ q := by omega
    obtain ⟨u0, u1, d0, d1, a0, b0, b1⟩ := h
    generalize kQ u d y1 y0 = Q at *
    have m1 := Int.mul_le_mul_of_nonneg_right hlt (show 0 ≤ y1 by omega)
    have m2 := Int.mul_le_mul_of_nonneg_right hlt b0
    rw [Int.add_mul, Int.one_mul] at m1 m2
    omega

theorem k_break {u d y1 y0 q r : Int} (h : Dig u d y1 y0) (hu : u = q * y1 + r) (hq : kQ u d y1 y0 ≤ q) (hr : 4294967296 ≤ r) : q = kQ u d y1 y0 := by
  obtain ⟨h0, _, _, _⟩ := kQ_spec h
  refine k_no h hu hq ?_
  obtain ⟨u0, u1, d0, d1, a0, b0, b1⟩ := h
  have hqB : q < 4294967296 := by
    by_cases hb : q < 4294967296
    · exact hb
    · have := Int.mul_le_mul_of_nonneg_right (show (4294967296 : Int) ≤ q by omega) (show 0 ≤ y1 by omega)
      omega
  have := Int.mul_le_mul_of_nonneg_left (show y0 ≤ 4294967296 by omega) (show 0 ≤ q by omega)
  omega

theorem kR_spec {u d y1 y0 : Int} (h : Dig u d y1 y0) : 0 ≤ kR u d y1 y0 ∧ kR u d y1 y0 < y1 * 4294967296 + y0 := by
  obtain ⟨h0, h1, h2, h3⟩ := kQ_spec h
  unfold kR
  have x1 : kQ u d y1 y0 * (y1 * 4294967296 + y0) = (kQ u d y1 y0 * y1) * 4294967296 + kQ u d y1 y0 * y0 := by rw [Int.mul_add, Int.mul_assoc]
  rw [x1]
  omega

/-- No product of a digit is greater than a word. -/
theorem k_fit {q y0 : Int} (hq : q < 4294967296) (b0 : 0 ≤ y0) (b1 : y0 < 4294967296) (h0 : 0 ≤ q) : 0 ≤ q * y0 ∧ q * y0 < 18446744073709551616 := by
  refine ⟨Int.mul_nonneg h0 b0, ?_⟩
  have := Int.mul_le_mul_of_nonneg_left (show y0 ≤ 4294967296 by omega) h0
  omega

theorem div_unique {n y k r : Int} (hy : 0 < y) (e : n = k * y + r) (h0 : 0 ≤ r) (h1 : r < y) : k = n / y ∧ r = n % y := by
  have a := Int.ediv_mul_le n (show y ≠ 0 by omega)
  have b := Int.lt_ediv_add_one_mul_self n hy
  have c := Int.mul_ediv_add_emod n y
  rw [Int.mul_comm] at c
  have hk : k = n / y := by
    generalize n / y = q at *
    rcases Int.lt_trichotomy k q with h | h | h
    · have := Int.mul_le_mul_of_nonneg_right (show k + 1 ≤ q by omega) (show 0 ≤ y by omega)
      rw [Int.add_mul, Int.one_mul] at this
      omega
    · exact h
    · have := Int.mul_le_mul_of_nonneg_right (show q + 1 ≤ k by omega) (show 0 ≤ y by omega)
      omega
  refine ⟨hk, ?_⟩
  rw [hk] at e
  omega

/-- Two digits. -/
theorem two_digits {N y p y1 y0 u1 d1 d0 : Int} (hy : 0 < y) (hp : 0 < p) (ey : y * p = y1 * 4294967296 + y0) (eN : N * p = u1 * 18446744073709551616 + d1 * 4294967296 + d0)
    (h1 : Dig u1 d1 y1 y0) (h0 : Dig (kR u1 d1 y1 y0) d0 y1 y0) :
    kQ u1 d1 y1 y0 * 4294967296 + kQ (kR u1 d1 y1 y0) d0 y1 y0 = N / y ∧ kR (kR u1 d1 y1 y0) d0 y1 y0 / p = N % y := by
  have r0 := kR_spec h0
  have e1 : kR u1 d1 y1 y0 = u1 * 4294967296 + d1 - kQ u1 d1 y1 y0 * (y1 * 4294967296 + y0) := rfl
  have e0 : kR (kR u1 d1 y1 y0) d0 y1 y0 = kR u1 d1 y1 y0 * 4294967296 + d0 - kQ (kR u1 d1 y1 y0) d0 y1 y0 * (y1 * 4294967296 + y0) := rfl
  rw [← ey] at r0 e1 e0
  clear h1 h0
  generalize kR (kR u1 d1 y1 y0) d0 y1 y0 = R at *
  generalize kQ (kR u1 d1 y1 y0) d0 y1 y0 = q0 at *
  generalize kQ u1 d1 y1 y0 = q1 at *
  generalize kR u1 d1 y1 y0 = R1 at *
  have e : (N - (q1 * 4294967296 + q0) * y) * p = R := by
    rw [Int.sub_mul, eN, Int.mul_assoc, Int.add_mul, Int.mul_right_comm q1]
    omega
  have hR : R / p = N - (q1 * 4294967296 + q0) * y := by rw [← e]; exact Int.mul_ediv_cancel _ (by omega)
  have k0 : 0 ≤ N - (q1 * 4294967296 + q0) * y := by rw [← hR]; exact Int.ediv_nonneg r0.1 (by omega)
  have k1 : N - (q1 * 4294967296 + q0) * y < y := by rw [← hR]; exact Int.ediv_lt_of_lt_mul hp r0.2
  have := div_unique (n := N) (y := y) (k := q1 * 4294967296 + q0) (r := N - (q1 * 4294967296 + q0) * y) hy (by omega) k0 k1
  exact ⟨this.1, by rw [hR]; exact this.2⟩
end Go.DivMath
