/-
  The document's answers of layer 1: differences, products, fractions held against each other, shares told to be near. No condition.
-/
import Derived.Test.YtccfamagckgamaaDigC
namespace Go.Proofs.Ytccfamagckgamaa
open Go.RowKit
def bowD (a b : List Int) : Nat → Int
  | 0 => 0
  | i + 1 => 1 - (65536 + atD a i - atD b i - bowD a b i) / 65536
def minX (a b : List Int) (i : Nat) : Int := 65536 + atD a i - atD b i - bowD a b i
def minK (a b : List Int) (k : Nat) : List Int := (List.range k).map fun i => minX a b i % 65536
def minD (a b : List Int) : List Int := minK a b (lonD a b)
theorem bowD_in {a b : List Int} (ha : Digs a) (hb : Digs b) (i : Nat) : 0 ≤ bowD a b i ∧ bowD a b i ≤ 1 := by
  induction i with
  | zero => simp [bowD]
  | succ i ih => have := ha.at i; have := hb.at i; simp only [bowD]; omega
theorem minD_digs (a b : List Int) : Digs (minD a b) := by
  intro x hx
  simp only [minD, minK, List.mem_map] at hx
  obtain ⟨i, _, rfl⟩ := hx
  omega
theorem minK_succ (a b : List Int) (k : Nat) : minK a b (k + 1) = minK a b k ++ [minX a b k % 65536] := by simp [minK, List.range_succ]
theorem minN_val (a b : List Int) : ∀ n, valN (fun i => minX a b i % 65536) n - bowD a b n * 65536 ^ n = valN (atD a) n - valN (atD b) n := by
  intro n
  induction n with
  | zero => simp [valN, bowD]
  | succ n ih =>
    have e : minX a b n % 65536 - bowD a b (n + 1) * 65536 = atD a n - atD b n - bowD a b n := by
      simp only [minX, bowD]; omega
    simp only [valN]
    rw [Int.pow_succ, ← Int.mul_assoc, Int.mul_right_comm (bowD a b (n + 1))]
    have e2 : (minX a b n % 65536 - bowD a b (n + 1) * 65536) * 65536 ^ n = (atD a n - atD b n - bowD a b n) * 65536 ^ n := by rw [e]
    simp only [Int.sub_mul] at e2
    omega
theorem min_val {a b : List Int} (ha : Digs a) (hb : Digs b) (h : val b ≤ val a) : val (minD a b) = val a - val b := by
  have hM : a.length ≤ lonD a b ∧ b.length ≤ lonD a b := by unfold lonD; split <;> omega
  have e := minN_val a b (lonD a b)
  rw [valN_ge a hM.1, valN_ge b hM.2] at e
  have hv : val (minD a b) = valN (fun i => minX a b i % 65536) (lonD a b) := by
    rw [val, show (minD a b).length = lonD a b by simp [minD, minK]]
    exact valN_congr _ (fun i hi => by simp [minD, minK, atD, hi])
  have hlt := valN_lt (minD_digs a b) (lonD a b)
  rw [show valN (atD (minD a b)) (lonD a b) = val (minD a b) from by rw [val, show (minD a b).length = lonD a b by simp [minD, minK]]] at hlt
  rw [← hv] at e
  have hb := bowD_in ha hb (lonD a b)
  have hc : bowD a b (lonD a b) = 0 ∨ bowD a b (lonD a b) = 1 := by omega
  rcases hc with hc | hc
  · rw [hc] at e; omega
  · rw [hc] at e; omega
theorem mulF_val {a b : Int} (ha : U64 a) (hb : U64 b) : mulF a b = (if a * b < 18446744073709551616 then a * b else 18446744073709551615) ∧ mulE a b = (if a * b < 18446744073709551616 then 0 else 2) := by
  have h0 := Int.mul_nonneg ha.1 hb.1
  have x := hilo a b
  unfold mulF mulE
  by_cases h : a * b < 18446744073709551616
  · have e : hiF a b = 0 := by unfold hiF top64; omega
    rw [e] at x ⊢
    simp [h]
    omega
  · have e : (hiF a b == 0) = false := beq_eq_false_iff_ne.2 (by unfold hiF top64; omega)
    rw [e]; simp [h]
theorem digs_times (a b : Int) (ha : U64 a) (hb : U64 b) : val (timesD (numD a) (numD b)) = a * b := by
  rw [times_val (num_digs ha) (num_digs hb), num_val ha, num_val hb]
theorem len_times (a b : Int) : (timesD (numD a) (numD b)).length ≤ 100 := by
  have := timesK_length (numD a) (numD b) (numD b).length
  simp [numD] at this
  exact Nat.le_trans this (by omega)
set_option maxHeartbeats 1000000 in
theorem RMul_any (a b : Int) (ha : U64 a) (hb : U64 b) (w : World) :
    Calls Try.prog 32 #[.int .u64 a, .int .u64 b] w (Gives (.tuple #[.int .u64 (mulF a b), .int .i64 (mulE a b)]) w) := by
  have hf := fits_val (times_digs (numD a) (numD b))
  have hg := mulF_val ha hb
  rw [digs_times a b ha hb, ← hg.1, ← hg.2] at hf
  have HF := hid hf
  have Ha := hid ha
  have Hb := hid hb
  clear hf hg ha hb
  go_enter Try.func32, Try.ntmps32
  go_wp2_with fail
  refine (number_any a Ha.out _).mono ?_
  rintro _ w1 ⟨A, ca, rfl, hb1, ho1⟩
  go_wp2_with fail
  refine (number_any b Hb.out _).mono ?_
  rintro _ w2 ⟨B, cb, rfl, hb2, ho2⟩
  go_wp2_with fail
  refine (Times_ref A B ca cb (numD a) (numD b) _ (by simp [numD]) (by simp [numD]) (num_digs Ha.out) (num_digs Hb.out) ((Cells.of_own ho1).below hb2) (Cells.of_own ho2)).mono ?_
  rintro _ w3 ⟨C, cc, rfl, hb3, ho3⟩
  go_wp2_with fail
  refine (Fits_any C cc (timesD (numD a) (numD b)) _ (by have := len_times a b; omega) (times_digs _ _) (Cells.of_own ho3)).mono ?_
  rintro _ _ ⟨rfl, _, rfl⟩
  go_wp2
  go_ret2
  refine Gives.mk (by rw [HF.out.1, HF.out.2]; rfl) ?_
  exact RowKit.Below.past (below_trans' (below_trans' hb1 hb2) hb3) _
end Go.Proofs.Ytccfamagckgamaa
