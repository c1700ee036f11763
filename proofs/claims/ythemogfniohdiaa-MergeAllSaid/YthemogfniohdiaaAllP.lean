/-
  Layer 32: any lists, brought into one: plain laws of which is next. No condition.
-/
import Derived.Test.YthemogfniohdiaaFirstI
namespace Go.Proofs.Ythemogfniohdiaa
open Go.RowKit
section
variable (len : Nat → Nat) (v : Nat → Nat → Int)
def bestF (pos : Nat → Nat) : Nat → Int
  | 0 => -1
  | k + 1 => if pos k < len k ∧ (bestF pos k < 0 ∨ v k (pos k) < v (bestF pos k).toNat (pos (bestF pos k).toNat)) then (k : Int) else bestF pos k
def bump (pos : Nat → Nat) (b : Int) : Nat → Nat := fun i => if (i : Int) = b then pos i + 1 else pos i
def posF (n : Nat) : Nat → Nat → Nat
  | 0 => fun _ => 0
  | j + 1 => bump (posF n j) (bestF len v (posF n j) n)
def nextF (n j : Nat) : Int := bestF len v (posF len v n j) n
def itemF (n j : Nat) : Int × Int := (nextF len v n j, v (nextF len v n j).toNat (posF len v n j (nextF len v n j).toNat))
def itemsF (n : Nat) (N : Nat) : List (Int × Int) := (List.range N).map (itemF len v n)
end
theorem best_in (len : Nat → Nat) (v : Nat → Nat → Int) (pos : Nat → Nat) (k : Nat) : bestF len v pos k = -1 ∨ ∃ b : Nat, bestF len v pos k = b ∧ b < k ∧ pos b < len b := by
  induction k with
  | zero => exact .inl rfl
  | succ k ih =>
    rw [bestF]
    split
    · rename_i h
      exact .inr ⟨k, rfl, by omega, h.1⟩
    · rcases ih with h | ⟨b, h1, h2, h3⟩
      · exact .inl h
      · exact .inr ⟨b, h1, by omega, h3⟩
def sumN (f : Nat → Nat) : Nat → Nat
  | 0 => 0
  | k + 1 => sumN f k + f k
theorem sum_same (f g : Nat → Nat) (n : Nat) (h : ∀ i, i < n → f i = g i) : sumN f n = sumN g n := by
  induction n with
  | zero => rfl
  | succ n ih => rw [sumN, sumN, ih (fun i hi => h i (by omega)), h n (by omega)]
theorem sum_le (f g : Nat → Nat) (n : Nat) (h : ∀ i, i < n → f i ≤ g i) : sumN f n ≤ sumN g n := by
  induction n with
  | zero => exact Nat.le_refl _
  | succ n ih => rw [sumN, sumN]; have := ih (fun i hi => h i (by omega)); have := h n (by omega); omega
theorem sum_const (n c : Nat) : sumN (fun _ => c) n = n * c := by
  induction n with
  | zero => simp [sumN]
  | succ n ih => rw [sumN, ih, Nat.succ_mul]
theorem sum_bump (f : Nat → Nat) (b n : Nat) (h : b < n) : sumN (bump f b) n = sumN f n + 1 := by
  induction n with
  | zero => omega
  | succ n ih =>
    rw [sumN, sumN]
    by_cases e : b = n
    · subst e
      rw [sum_same (bump f b) f b (fun i hi => by simp [bump]; omega)]
      simp [bump]; omega
    · rw [ih (by omega)]
      have : bump f b n = f n := by simp [bump]; omega
      omega
theorem pos_le (len : Nat → Nat) (v : Nat → Nat → Int) (n j i : Nat) : posF len v n j i ≤ len i := by
  induction j with
  | zero => exact Nat.zero_le _
  | succ j ih =>
    rw [posF]
    unfold bump
    split
    · rename_i h
      rcases best_in len v (posF len v n j) n with e | ⟨b, e, _, hb⟩
      · rw [e] at h; omega
      · rw [e] at h
        have : i = b := by omega
        subst this; omega
    · exact ih
theorem pos_sum (len : Nat → Nat) (v : Nat → Nat → Int) (n : Nat) : ∀ j, (∀ i, i < j → 0 ≤ nextF len v n i) → sumN (posF len v n j) n = j
  | 0, _ => by rw [show posF len v n 0 = fun _ => 0 from rfl, sum_const]; simp
  | j + 1, h => by
    have ih := pos_sum len v n j (fun i hi => h i (by omega))
    have hj := h j (by omega)
    rcases best_in len v (posF len v n j) n with e | ⟨b, e, hb, _⟩
    · unfold nextF at hj; rw [e] at hj; omega
    · rw [posF, e, sum_bump _ _ _ hb, ih]
/-- How many there are. -/
theorem all_ends (len : Nat → Nat) (v : Nat → Nat → Int) (n c : Nat) (hc : ∀ i, i < n → len i ≤ c) : ∃ N, N ≤ n * c ∧ (∀ i, i < N → 0 ≤ nextF len v n i) ∧ nextF len v n N = -1 := by
  have key : ∀ m, (∃ N, N < m ∧ (∀ i, i < N → 0 ≤ nextF len v n i) ∧ nextF len v n N = -1) ∨ ∀ i, i < m → 0 ≤ nextF len v n i := by
    intro m
    induction m with
    | zero => exact .inr (fun i h => by omega)
    | succ m ih =>
      rcases ih with ⟨N, h1, h2, h3⟩ | h
      · exact .inl ⟨N, by omega, h2, h3⟩
      · rcases best_in len v (posF len v n m) n with e | ⟨b, e, _, _⟩
        · exact .inl ⟨m, by omega, h, e⟩
        · refine .inr (fun i hi => ?_)
          by_cases him : i = m
          · subst him; unfold nextF; omega
          · exact h i (by omega)
  rcases key (n * c + 1) with ⟨N, h1, h2, h3⟩ | h
  · exact ⟨N, by omega, h2, h3⟩
  · have h1 := pos_sum len v n (n * c + 1) h
    have h2 := sum_le (posF len v n (n * c + 1)) (fun _ => c) n (fun i hi => Nat.le_trans (pos_le len v n _ i) (hc i hi))
    rw [sum_const] at h2
    omega
theorem items_length (len : Nat → Nat) (v : Nat → Nat → Int) (n N : Nat) : (itemsF len v n N).length = N := by simp [itemsF]
theorem items_snoc (len : Nat → Nat) (v : Nat → Nat → Int) (n N : Nat) : itemsF len v n N ++ [itemF len v n N] = itemsF len v n (N + 1) := by simp [itemsF, List.range_succ]
theorem items_at (len : Nat → Nat) (v : Nat → Nat → Int) (n N j : Nat) (h : j < N) : (itemsF len v n N)[j]? = some (itemF len v n j) := by simp [itemsF, h]
theorem items_take (len : Nat → Nat) (v : Nat → Nat → Int) (n N j : Nat) (h : j ≤ N) : itemsF len v n j <+: itemsF len v n N := by
  refine ⟨((List.range N).drop j).map (itemF len v n), ?_⟩
  unfold itemsF
  rw [← List.map_append]
  congr 1
  have : List.range j = (List.range N).take j := by rw [List.take_range, Nat.min_eq_left h]
  rw [this, List.take_append_drop]
/-! A row of places. -/
def posV (pos : Nat → Nat) (n : Nat) : List Int := (List.range n).map (fun i => (pos i : Int))
theorem posV_length (pos : Nat → Nat) (n : Nat) : (posV pos n).length = n := by simp [posV]
theorem posV_at (pos : Nat → Nat) {n i : Nat} (h : i < n) : atL (posV pos n) i = pos i := by simp [posV, atL, h]
theorem posV_zero (n : Nat) : i64s (posV (fun _ => 0) n) = List.replicate n (.int .i64 0) := by
  unfold i64s posV
  rw [List.map_map, List.eq_replicate_iff]
  simp
theorem posV_bump (pos : Nat → Nat) (n b : Nat) : (posV pos n).set b ((pos b : Int) + 1) = posV (bump pos b) n := by
  apply List.ext_getElem (by simp [posV])
  intro i h1 h2
  rw [List.getElem_set]
  simp only [posV, List.getElem_map, List.getElem_range, bump]
  by_cases e : b = i
  · subst e; simp
  · rw [if_neg e, if_neg (by omega)]
end Go.Proofs.Ythemogfniohdiaa
