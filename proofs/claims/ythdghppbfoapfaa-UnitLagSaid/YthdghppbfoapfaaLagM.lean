/-
  The plain law under UnitLag: ticks that were paid for are fair. No condition.
-/
import Derived.Test.YthdghppbfoapfaaFair
namespace Go.Proofs.Ythdghppbfoapfaa
open Go.RowKit
def tK (a : List Int) (k : Nat) : List Int := (List.range k).map (atL a)
def wOf (b : List Int) (i : Nat) : Int := 1 + atL b i % 16
def wK (b : List Int) (k : Nat) : List Int := (List.range k).map (wOf b)
def vOf (a b : List Int) (i : Nat) : Int := atL a i * lockF (wOf b i)
def vK (a b : List Int) (k : Nat) : List Int := (List.range k).map (vOf a b)
def leastK (a b : List Int) : Nat → Int
  | 0 => 18446744073709551615
  | k + 1 => if decide (leastK a b k < vOf a b k) then leastK a b k else vOf a b k
theorem tK_succ (a : List Int) (k : Nat) : tK a (k + 1) = tK a k ++ [atL a k] := by simp [tK, List.range_succ]
theorem wK_succ (b : List Int) (k : Nat) : wK b (k + 1) = wK b k ++ [wOf b k] := by simp [wK, List.range_succ]
theorem vK_succ (a b : List Int) (k : Nat) : vK a b (k + 1) = vK a b k ++ [vOf a b k] := by simp [vK, List.range_succ]
theorem map_at (f : Nat → Int) (n i : Nat) (h : i < n) : atL ((List.range n).map f) i = f i := by simp [atL, h]
def U16s (l : List Int) : Prop := ∀ i, 0 ≤ atL l i ∧ atL l i < 65536
def U8s (l : List Int) : Prop := ∀ i, 0 ≤ atL l i ∧ atL l i < 256
theorem wOf_in {b : List Int} (db : U8s b) (i : Nat) : 1 ≤ wOf b i ∧ wOf b i ≤ 16 := by have := db i; unfold wOf; omega
theorem lock_mul {n : Int} (h0 : 1 ≤ n) (h1 : n ≤ 16) : n * lockF n = 720720 ∧ 0 < lockF n := by
  have h : n = 1 ∨ n = 2 ∨ n = 3 ∨ n = 4 ∨ n = 5 ∨ n = 6 ∨ n = 7 ∨ n = 8 ∨ n = 9 ∨ n = 10 ∨ n = 11 ∨ n = 12 ∨ n = 13 ∨ n = 14 ∨ n = 15 ∨ n = 16 := by omega
  rcases h with rfl | rfl | rfl | rfl | rfl | rfl | rfl | rfl | rfl | rfl | rfl | rfl | rfl | rfl | rfl | rfl <;> decide
theorem vOf_in {a b : List Int} (da : U16s a) (db : U8s b) (i : Nat) : 0 ≤ vOf a b i ∧ vOf a b i ≤ 47233105920 := by
  have lk := lock_in (wOf b i)
  obtain ⟨p, q⟩ := da i
  have m1 := Int.mul_nonneg p lk.1
  have m2 := Int.mul_le_mul (show atL a i ≤ 65536 by omega) lk.2 lk.1 (show (0 : Int) ≤ 65536 by omega)
  unfold vOf
  omega
theorem least_le {a b : List Int} (da : U16s a) (db : U8s b) : ∀ n, 0 ≤ leastK a b n ∧ ∀ i, i < n → leastK a b n ≤ vOf a b i := by
  intro n
  induction n with
  | zero => simp [leastK]
  | succ n ih =>
    have hv := vOf_in da db n
    by_cases h : leastK a b n < vOf a b n
    · have e : leastK a b (n + 1) = leastK a b n := by simp [leastK, h]
      rw [e]
      refine ⟨ih.1, fun i hi => ?_⟩
      by_cases e2 : i = n
      · subst e2; omega
      · exact ih.2 i (by omega)
    · have e : leastK a b (n + 1) = vOf a b n := by simp [leastK, h]
      rw [e]
      refine ⟨hv.1, fun i hi => ?_⟩
      by_cases e2 : i = n
      · subst e2; omega
      · have := ih.2 i (by omega); omega
/-- What one is ahead, by weights. -/
def sOf (a b : List Int) (l : Int) (i : Nat) : Int := atL a i * 720720 - l * wOf b i
theorem s_in {a b : List Int} (db : U8s b) {l q : Int} {i : Nat} (h1 : l ≤ vOf a b i) (h2 : vOf a b i ≤ l + lockF (wOf b i) * q) : 0 ≤ sOf a b l i ∧ sOf a b l i ≤ 720720 * q := by
  obtain ⟨w0, w1⟩ := wOf_in db i
  obtain ⟨e, p⟩ := lock_mul w0 w1
  have m1 := Int.mul_le_mul_of_nonneg_right h1 (show 0 ≤ wOf b i by omega)
  have m2 := Int.mul_le_mul_of_nonneg_right h2 (show 0 ≤ wOf b i by omega)
  have e1 : vOf a b i * wOf b i = atL a i * 720720 := by unfold vOf; rw [Int.mul_assoc, Int.mul_comm (lockF _), e]
  have e2 : (l + lockF (wOf b i) * q) * wOf b i = l * wOf b i + 720720 * q := by
    rw [Int.add_mul, Int.mul_right_comm, Int.mul_comm (lockF _) (wOf b i), e]
  rw [e1] at m1 m2
  rw [e2] at m2
  unfold sOf
  omega
def sumN (f : Nat → Int) : Nat → Int
  | 0 => 0
  | k + 1 => sumN f k + f k
theorem sum_s (a b : List Int) (l : Int) : ∀ n, sumN (sOf a b l) n = sumN (atL a) n * 720720 - l * sumN (wOf b) n := by
  intro n
  induction n with
  | zero => simp [sumN]
  | succ n ih => simp only [sumN]; rw [ih]; unfold sOf; rw [Int.add_mul, Int.mul_add]; omega
theorem sumN_in {f : Nat → Int} {lo hi : Int} : ∀ n, (∀ i, i < n → lo ≤ f i ∧ f i ≤ hi) → (n : Int) * lo ≤ sumN f n ∧ sumN f n ≤ n * hi := by
  intro n
  induction n with
  | zero => intro _; simp [sumN]
  | succ n ih =>
    intro h
    have a := ih (fun i hi => h i (by omega))
    have b := h n (by omega)
    simp only [sumN]
    have e : ∀ x : Int, ((n + 1 : Nat) : Int) * x = n * x + x := fun x => by rw [Int.natCast_add, Int.add_mul]; simp
    rw [e, e]
    omega
theorem sumN_ge {f : Nat → Int} : ∀ n, (∀ i, i < n → 0 ≤ f i) → ∀ i, i < n → f i ≤ sumN f n := by
  intro n
  induction n with
  | zero => intro _ i hi; omega
  | succ n ih =>
    intro h i hi
    have h0 : 0 ≤ sumN f n := by
      have := (sumN_in (f := f) (lo := 0) (hi := 0 + sumN f n + (0 - sumN f n)) n)
      clear this
      have : ∀ m, m ≤ n → 0 ≤ sumN f m := by
        intro m
        induction m with
        | zero => intro _; simp [sumN]
        | succ m ihm => intro hm; have := ihm (by omega); have := h m (by omega); simp only [sumN]; omega
      exact this n (Nat.le_refl _)
    have hn := h n (by omega)
    simp only [sumN]
    by_cases e : i = n
    · subst e; omega
    · have := ih (fun j hj => h j (by omega)) i (by omega); omega
theorem sumB_map {lo hi : Int} (f : Nat → Int) (n : Nat) (h : ∀ i, i < n → lo ≤ f i ∧ f i ≤ hi) : ∀ k, k ≤ n → sumB lo hi ((List.range n).map f) k = sumN f k := by
  intro k
  induction k with
  | zero => intro _; rfl
  | succ k ih =>
    intro hk
    have := h k (by omega)
    rw [sumB, sumN, ih (by omega), map_at f n k (by omega), bringF, if_neg (by omega), if_neg (by omega)]
theorem lag_fair {a b : List Int} (da : U16s a) (db : U8s b) {n : Nat} (hn : n ≤ 64) {q : Int} (q0 : 1 ≤ q) (q1 : q ≤ 32) (h : ∀ i, i < n → vOf a b i ≤ leastK a b n + lockF (wOf b i) * q) (N : Int) (hN : N = n * q) :
    fairF (tK a n) (wK b n) N = true := by
  have hl := least_le da db n
  have lt : (tK a n).length = n := by simp [tK]
  have lw : (wK b n).length = n := by simp [wK]
  have hs : ∀ i, i < n → 0 ≤ sOf a b (leastK a b n) i ∧ sOf a b (leastK a b n) i ≤ 720720 * q := fun i hi => s_in db (hl.2 i hi) (h i hi)
  unfold fairF
  rw [lt, lw]
  simp only [fitsF, beq_self_eq_true, Bool.true_and, Bool.and_eq_true, decide_eq_true_eq]
  refine ⟨hn, ?_⟩
  rw [List.all_eq_true]
  intro i hi
  rw [List.mem_range] at hi
  have ht : ∀ j, j < n → (0 : Int) ≤ atL a j ∧ atL a j ≤ 2147483648 := fun j _ => by have := da j; omega
  have hw : ∀ j, j < n → (1 : Int) ≤ wOf b j ∧ wOf b j ≤ 4096 := fun j _ => by have := wOf_in db j; omega
  have eT := sumB_map (lo := 0) (hi := 2147483648) (atL a) n ht n (Nat.le_refl _)
  have eW := sumB_map (lo := 1) (hi := 4096) (wOf b) n hw n (Nat.le_refl _)
  have n1 : (1 : Int) ≤ n := by omega
  have hN0 : 0 ≤ N := by rw [hN]; exact Int.mul_nonneg (by omega) (by omega)
  have hN1 : N ≤ 2147483648 := by
    rw [hN]
    have := Int.mul_le_mul (show (n : Int) ≤ 64 by omega) q1 (by omega) (show (0 : Int) ≤ 64 by omega)
    omega
  unfold fairAt
  rw [lt, lw]
  rw [show sumB 0 2147483648 (tK a n) n = sumN (atL a) n from eT, show sumB 1 4096 (wK b n) n = sumN (wOf b) n from eW]
  rw [show atL (tK a n) i = atL a i from map_at _ _ _ hi, show atL (wK b n) i = wOf b i from map_at _ _ _ hi]
  have ti := ht i hi
  have wi := hw i hi
  rw [show bringF (atL a i) 0 2147483648 = atL a i by rw [bringF, if_neg (by omega), if_neg (by omega)], show bringF (wOf b i) 1 4096 = wOf b i by rw [bringF, if_neg (by omega), if_neg (by omega)], show bringF N 0 2147483648 = N by rw [bringF, if_neg (by omega), if_neg (by omega)]]
  have sT := sumN_in (f := atL a) (lo := 0) (hi := 2147483648) n ht
  have sW := sumN_in (f := wOf b) (lo := 1) (hi := 4096) n hw
  have sS := sumN_in (f := sOf a b (leastK a b n)) (lo := 0) (hi := 720720 * q) n hs
  have eS := sum_s a b (leastK a b n) n
  have si := hs i hi
  have wW := sumN_ge (f := wOf b) n (fun j hj => by have := (hw j hj).1; omega) i hi
  have es : sOf a b (leastK a b n) i = atL a i * 720720 - leastK a b n * wOf b i := rfl
  rw [near_iff _ _ _ _ _ ⟨by omega, by omega⟩ ⟨by omega, by omega⟩ ⟨by omega, by omega⟩ ⟨by omega, by omega⟩]
  generalize sumN (atL a) n = T at *
  generalize sumN (wOf b) n = W at *
  generalize sumN (sOf a b (leastK a b n)) n = S at *
  generalize sOf a b (leastK a b n) i = s at *
  generalize atL a i = t at *
  generalize wOf b i = x at *
  generalize leastK a b n = l at *
  have key : 720720 * (t * W - x * T) = s * W - x * S := by
    rw [es, eS, Int.mul_sub, Int.sub_mul, Int.mul_sub]
    have p1 : t * 720720 * W = 720720 * (t * W) := by rw [Int.mul_comm t, Int.mul_assoc]
    have p2 : x * (T * 720720) = 720720 * (x * T) := by rw [Int.mul_comm T, ← Int.mul_assoc, Int.mul_comm x, Int.mul_assoc]
    have p3 : l * x * W = x * (l * W) := by rw [Int.mul_comm l, Int.mul_assoc]
    rw [p1, p2, p3]
    omega
  have W0 : 0 ≤ W := by omega
  have u1 := Int.mul_le_mul_of_nonneg_right si.2 W0
  have u2 := Int.mul_nonneg (show 0 ≤ x by omega) (show 0 ≤ S by omega)
  have u3 := Int.mul_nonneg si.1 W0
  have u4 := Int.mul_le_mul wW sS.2 (show 0 ≤ S by omega) W0
  have u5 : W * ((n : Int) * (720720 * q)) = 720720 * (N * W) := by
    rw [hN, Int.mul_comm W, Int.mul_left_comm (n : Int), Int.mul_assoc]
  have u6 : 720720 * q * W ≤ 720720 * (N * W) := by
    rw [Int.mul_assoc, hN]
    have := Int.mul_le_mul_of_nonneg_right n1 (Int.mul_nonneg (show 0 ≤ q by omega) W0)
    rw [Int.one_mul, ← Int.mul_assoc] at this
    omega
  rw [u5] at u4
  omega
end Go.Proofs.Ythdghppbfoapfaa
