/-
  Layer 37: how the turns are shared: the plain part. No condition.
-/
import Derived.Test.YtjhjkchcjpijaaaShares
namespace Go.Proofs.Ytjhjkchcjpijaaa
open Go Go.RowKit HpI
theorem add_small {a b : Int} (ha : 0 ≤ a) (hb : 0 ≤ b) (h : a + b < 18446744073709551616) : addF a b = a + b := by
  have h1 : (a + b) / 18446744073709551616 = 0 := Int.ediv_eq_zero_of_lt (by omega) h
  have h2 : (a + b) % 18446744073709551616 = a + b := Int.emod_eq_of_lt (by omega) h
  simp [addF, carF, sumF, top64, h1, h2]
/-- How often each had its turn. -/
def cK (W : List Int) (k : Nat) : List Int := cntL W.length (turnsF W k)
theorem cK_zero (W : List Int) (j : Nat) : atL (cK W 0) j = 0 := by
  have h := cntL_le W.length (turnsF W 0) j
  rw [turns_length] at h
  unfold cK
  omega
theorem cK_succ {W : List Int} (h : 0 < W.length) (k j : Nat) : atL (cK W (k + 1)) j = if j = turnF W k then atL (cK W k) j + 1 else atL (cK W k) j := by
  have hl := turn_lt h k
  unfold cK
  rw [turns_succ, ← cntL_snoc _ hl, atL_set (by rw [cntL_length]; exact hl)]
  by_cases e : j = turnF W k
  · rw [if_pos e, if_pos e, e]
  · rw [if_neg e, if_neg e]
theorem cK_in (W : List Int) (k j : Nat) : 0 ≤ atL (cK W k) j ∧ atL (cK W k) j ≤ k := by
  have h := cntL_le W.length (turnsF W k) j
  rwa [turns_length] at h
theorem pass_cnt {W : List Int} (h : 0 < W.length) : ∀ k, k ≤ 1000 → ∀ j, j < W.length → atL (passF W k) j = atL (cK W k) j * coreF (atL W j)
  | 0, _, j, hj => by
    rw [cK_zero]
    simp [passF, atL, hj]
  | k + 1, hk, j, hj => by
    have ih := pass_cnt h k (by omega)
    rw [cK_succ h]
    show atL (stepP W (passF W k)) j = _
    unfold stepP
    have hl := turn_lt h k
    rw [atL_set (by rw [pass_length]; exact hl)]
    by_cases e : j = pickP (passF W k)
    · rw [if_pos e, if_pos (show j = turnF W k from e), ← e, ih j hj]
      have hc := cK_in W k j
      have hr := core_in (atL W j)
      have h1 : 0 ≤ atL (cK W k) j * coreF (atL W j) := Int.mul_nonneg hc.1 hr.1
      have h2 : atL (cK W k) j * coreF (atL W j) ≤ 1000 * 1099511627776 := Int.mul_le_mul (by omega) hr.2 hr.1 (by omega)
      rw [add_small h1 hr.1 (by omega), Int.add_mul, Int.one_mul]
    · rw [if_neg e, if_neg (show ¬ j = turnF W k from e), ih j hj]
/-- Who had his turn last was behind all others. -/
theorem cnt_inv {W : List Int} (h : 0 < W.length) : ∀ k, k ≤ 1000 → ∀ i j, i < W.length → j < W.length → (atL (cK W k) i - 1) * coreF (atL W i) ≤ atL (cK W k) j * coreF (atL W j)
  | 0, _, i, j, hi, hj => by
    have hr := core_in (atL W i)
    rw [cK_zero, cK_zero]
    omega
  | k + 1, hk, i, j, hi, hj => by
    have ih := cnt_inv h k (by omega) i j hi hj
    have hp := pass_cnt h k (by omega)
    have hr := core_in (atL W j)
    have hri := core_in (atL W i)
    rw [cK_succ h, cK_succ h]
    have hle : atL (passF W k) (turnF W k) ≤ atL (passF W k) j := pickP_le (by rw [pass_length]; exact hj)
    have hlt := turn_lt h k
    rw [hp j hj] at hle
    by_cases e1 : i = turnF W k
    · rw [← e1, hp i hi] at hle
      rw [if_pos e1, Int.add_sub_cancel]
      split
      · rw [Int.add_mul]; omega
      · exact hle
    · rw [if_neg e1]
      split
      · rw [Int.add_mul]; omega
      · exact ih
theorem core_is {x : Int} (h : 1 ≤ x ∧ x ≤ 4096) : coreF x * x ≤ 1099511627776 ∧ 1099511627776 < (coreF x + 1) * x := by
  have e : bringF x 1 4096 = x := by unfold bringF; rw [if_neg (by omega), if_neg (by omega)]
  unfold coreF
  rw [e]
  have h1 := Int.ediv_mul_le 1099511627776 (show x ≠ 0 by omega)
  have h2 := Int.lt_ediv_add_one_mul_self 1099511627776 (show 0 < x by omega)
  exact ⟨h1, h2⟩
/-- The law of the shares. -/
theorem cnt_law {W : List Int} (h : 0 < W.length) (hW : ∀ j, j < W.length → 1 ≤ atL W j ∧ atL W j ≤ 256) {k : Nat} (hk : k ≤ 500) {i j : Nat} (hi : i < W.length) (hj : j < W.length) :
    (atL (cK W k) i - 1) * atL W j ≤ atL (cK W k) j * atL W i := by
  have h1 := cnt_inv h k (by omega) i j hi hj
  have wi := hW i hi
  have wj := hW j hj
  have ci := cK_in W k i
  have cj := cK_in W k j
  have ki := core_is (x := atL W i) (by omega)
  have kj := core_is (x := atL W j) (by omega)
  have hri := core_in (atL W i)
  have hrj := core_in (atL W j)
  generalize atL (cK W k) i = a at *
  generalize atL (cK W k) j = b at *
  generalize atL W i = x at *
  generalize atL W j = y at *
  generalize coreF x = p at *
  generalize coreF y = q at *
  rcases Int.lt_or_le a 1 with ha | ha
  · have : a = 0 := by omega
    subst this
    have := Int.mul_nonneg cj.1 (show 0 ≤ x by omega)
    omega
  · apply Int.not_lt.1
    intro hlt
    have s1 : (a - 1) * p * (x * y) ≤ b * q * (x * y) := Int.mul_le_mul_of_nonneg_right h1 (Int.mul_nonneg (by omega) (by omega))
    have s2 : (a - 1) * p * (x * y) = (a - 1) * y * (p * x) := by
      rw [Int.mul_assoc, Int.mul_assoc]; congr 1; rw [Int.mul_comm x y, ← Int.mul_assoc, Int.mul_comm p y, Int.mul_assoc]
    have s3 : b * q * (x * y) = b * x * (q * y) := by
      rw [Int.mul_assoc, Int.mul_assoc]; congr 1; rw [← Int.mul_assoc, Int.mul_comm q x, Int.mul_assoc]
    have s4 : b * x * (q * y) ≤ b * x * 1099511627776 := Int.mul_le_mul_of_nonneg_left kj.1 (Int.mul_nonneg cj.1 (by omega))
    have hpx : 1099511627776 - x < p * x := by rw [Int.add_mul] at ki; omega
    have hay : 0 ≤ (a - 1) * y := Int.mul_nonneg (by omega) (by omega)
    have s5 : (a - 1) * y * (1099511627776 - x) ≤ (a - 1) * y * (p * x) := Int.mul_le_mul_of_nonneg_left (by omega) hay
    have hb1 : (a - 1) * y ≤ 500 * 256 := Int.mul_le_mul (by omega) wj.2 (by omega) (by omega)
    have s6 : (a - 1) * y * x ≤ 128000 * 256 := Int.mul_le_mul (by omega) wi.2 (by omega) (by omega)
    rw [Int.mul_sub] at s5
    omega
def sT (l : List Int) : Nat → Int
  | 0 => 0
  | k + 1 => sT l k + atL l k
theorem sT_upd {l l' : List Int} {p : Nat} (h : ∀ j, atL l' j = if j = p then atL l j + 1 else atL l j) : ∀ k, sT l' k = sT l k + if p < k then 1 else 0
  | 0 => by simp [sT]
  | k + 1 => by
    have ih := sT_upd h k
    simp only [sT]
    rw [ih, h k]
    split <;> split <;> split <;> omega
theorem sT_cK {W : List Int} (h : 0 < W.length) : ∀ k, sT (cK W k) W.length = k
  | 0 => by
    have : ∀ j, sT (cK W 0) j = 0 := fun j => by
      induction j with
      | zero => rfl
      | succ j ih => simp only [sT]; rw [ih, cK_zero]; rfl
    rw [this]; rfl
  | k + 1 => by
    rw [sT_upd (cK_succ h k), sT_cK h k, if_pos (turn_lt h k)]
    omega
theorem sT_mul {a b : List Int} {x y : Int} : ∀ m, (∀ j, j < m → x * atL a j ≤ atL b j * y) → x * sT a m ≤ sT b m * y
  | 0, _ => by simp [sT]
  | m + 1, h => by
    have ih := sT_mul m (fun j hj => h j (by omega))
    have := h m (by omega)
    simp only [sT, Int.mul_add, Int.add_mul]
    omega
theorem sT_mul' {a b : List Int} {x y : Int} : ∀ m, (∀ j, j < m → (atL a j - 1) * x ≤ y * atL b j) → (sT a m - m) * x ≤ y * sT b m
  | 0, _ => by simp [sT]
  | m + 1, h => by
    have ih := sT_mul' m (fun j hj => h j (by omega))
    have h1 := h m (by omega)
    have e : sT a (m + 1) - ((m + 1 : Nat) : Int) = (sT a m - m) + (atL a m - 1) := by simp only [sT]; omega
    rw [e]
    simp only [sT, Int.mul_add, Int.add_mul]
    omega
theorem sT_ge {a : List Int} : ∀ m, (∀ j, j < m → 1 ≤ atL a j) → (m : Int) ≤ sT a m ∧ ∀ j, j < m → atL a j ≤ sT a m
  | 0, _ => ⟨by simp [sT], fun j hj => by omega⟩
  | m + 1, h => by
    obtain ⟨h1, h2⟩ := sT_ge (a := a) m (fun j hj => h j (by omega))
    have h3 := h m (by omega)
    refine ⟨by simp only [sT]; omega, fun j hj => ?_⟩
    simp only [sT]
    by_cases e : j = m
    · rw [e]; omega
    · have := h2 j (by omega); omega
/-- The shares are fair, up to as many as there are. -/
theorem fair_law {W : List Int} (h : 0 < W.length) (hW : ∀ j, j < W.length → 1 ≤ atL W j ∧ atL W j ≤ 256) {k : Nat} (hk : k ≤ 500) {i : Nat} (hi : i < W.length) :
    atL (cK W k) i * sT W W.length - atL W i * k ≤ W.length * sT W W.length ∧ atL W i * k - atL (cK W k) i * sT W W.length ≤ W.length * sT W W.length := by
  have hs := sT_ge (a := W) W.length (fun j hj => (hW j hj).1)
  have h1 := sT_mul (a := W) (b := cK W k) (x := atL (cK W k) i - 1) (y := atL W i) W.length (fun j hj => cnt_law h hW hk hi hj)
  have h2 := sT_mul' (a := cK W k) (b := W) (x := atL W i) (y := atL (cK W k) i) W.length (fun j hj => cnt_law h hW hk hj hi)
  rw [sT_cK h] at h1 h2
  have hS := hs.1
  have hw := hs.2 i hi
  have wi := (hW i hi).1
  generalize sT W W.length = S at *
  generalize atL (cK W k) i = c at *
  generalize atL W i = x at *
  generalize W.length = m at *
  have e1 : (c - 1) * S = c * S - S := by rw [Int.sub_mul, Int.one_mul]
  have e2 : ((k : Int) - m) * x = x * k - m * x := by rw [Int.sub_mul, Int.mul_comm (k : Int) x]
  have e3 : (k : Int) * x = x * k := Int.mul_comm _ _
  have h3 : (1 : Int) * S ≤ m * S := Int.mul_le_mul_of_nonneg_right (by omega) (by omega)
  have h4 : (m : Int) * x ≤ m * S := Int.mul_le_mul_of_nonneg_left hw (by omega)
  rw [e1] at h1
  rw [e2] at h2
  omega
/-- Heavier ones have no fewer turns, but for one. -/
theorem heavy_law {W : List Int} (h : 0 < W.length) (hW : ∀ j, j < W.length → 1 ≤ atL W j ∧ atL W j ≤ 256) {k : Nat} (hk : k ≤ 500) {i j : Nat} (hi : i < W.length) (hj : j < W.length) (hle : atL W j ≤ atL W i) :
    atL (cK W k) j - 1 ≤ atL (cK W k) i := by
  have h1 := cnt_law h hW hk hj hi
  have wi := (hW i hi).1
  have ci := (cK_in W k i).1
  have h2 : atL (cK W k) i * atL W j ≤ atL (cK W k) i * atL W i := Int.mul_le_mul_of_nonneg_left hle ci
  exact Int.le_of_mul_le_mul_right (Int.le_trans h1 h2) (by omega)
/-- Of equal weights each has its turn once in each row. -/
theorem pick_is {P : List Int} {r : Nat} (hr : r < P.length) (h1 : ∀ j, j < P.length → atL P r ≤ atL P j) (h2 : ∀ j, j < r → atL P r < atL P j) : pickP P = r := by
  have hl := pickP_lt (P := P) (by omega)
  rcases Nat.lt_trichotomy (pickP P) r with h | h | h
  · have a := h2 _ h
    have b := pickP_le (P := P) hr
    omega
  · exact h
  · have a := pickP_first (P := P) h
    have b := h1 _ hl
    omega
theorem same_cnt {W : List Int} {v : Int} (h : 0 < W.length) (hv : 1 ≤ v ∧ v ≤ 4096) (hW : ∀ j, j < W.length → atL W j = v) : ∀ k, k ≤ 1000 → (∀ j, j < W.length → atL (cK W k) j = (k / W.length : Nat) + (if j < k % W.length then 1 else 0)) ∧ turnF W k = k % W.length := by
  have key : ∀ k, k ≤ 1000 → (∀ j, j < W.length → atL (cK W k) j = (k / W.length : Nat) + (if j < k % W.length then 1 else 0)) → turnF W k = k % W.length := fun k hk hc => by
    have hr := Nat.mod_lt k h
    have hcore : 0 < coreF v := by
      have h2 := (core_is hv).2
      have h3 := (core_in v).1
      rcases Int.lt_or_le 0 (coreF v) with h' | h'
      · exact h'
      · have h4 : coreF v = 0 := by omega
        rw [h4, Int.zero_add, Int.one_mul] at h2
        omega
    refine pick_is (by rw [pass_length]; exact hr) (fun j hj => ?_) (fun j hj => ?_)
    · rw [pass_length] at hj
      rw [pass_cnt h k hk _ hr, pass_cnt h k hk _ hj, hW _ hr, hW _ hj, hc _ hr, hc _ hj, if_neg (Nat.lt_irrefl _)]
      refine Int.mul_le_mul_of_nonneg_right ?_ (by omega)
      split <;> omega
    · rw [pass_cnt h k hk _ hr, pass_cnt h k hk _ (by omega), hW _ hr, hW _ (by omega), hc _ hr, hc _ (by omega), if_neg (Nat.lt_irrefl _), if_pos hj]
      exact Int.mul_lt_mul_of_pos_right (by omega) hcore
  intro k
  induction k with
  | zero =>
    intro hk
    have h0 : ∀ j, j < W.length → atL (cK W 0) j = (0 / W.length : Nat) + (if j < 0 % W.length then 1 else 0) := fun j hj => by rw [cK_zero]; simp
    exact ⟨h0, key 0 hk h0⟩
  | succ k ih =>
    intro hk
    obtain ⟨h1, h2⟩ := ih (by omega)
    have h0 : ∀ j, j < W.length → atL (cK W (k + 1)) j = ((k + 1) / W.length : Nat) + (if j < (k + 1) % W.length then 1 else 0) := fun j hj => by
      rw [cK_succ h, h2, h1 j hj]
      have hr := Nat.mod_lt k h
      have hd := Nat.div_add_mod k W.length
      by_cases e : k % W.length + 1 = W.length
      · have hq : k + 1 = W.length * (k / W.length + 1) := by rw [Nat.mul_add]; omega
        have e1 : (k + 1) / W.length = k / W.length + 1 := by rw [hq, Nat.mul_div_cancel_left _ h]
        have e2 : (k + 1) % W.length = 0 := by rw [hq, Nat.mul_mod_right]
        rw [e1, e2]
        split <;> split <;> (try split) <;> omega
      · have hq : k + 1 = W.length * (k / W.length) + (k % W.length + 1) := by omega
        have e1 : (k + 1) / W.length = k / W.length := by
          rw [hq, Nat.mul_add_div h, Nat.div_eq_of_lt (by omega : k % W.length + 1 < W.length)]
          rfl
        have e2 : (k + 1) % W.length = k % W.length + 1 := by rw [hq, Nat.mul_add_mod, Nat.mod_eq_of_lt (by omega)]
        rw [e1, e2]
        split <;> split <;> (try split) <;> omega
    exact ⟨h0, key (k + 1) hk h0⟩
end Go.Proofs.Ytjhjkchcjpijaaa
