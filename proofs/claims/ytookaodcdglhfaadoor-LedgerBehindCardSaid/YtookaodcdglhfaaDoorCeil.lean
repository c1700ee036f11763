/-
  Layer 18: when as many ticks are held as are told to be ahead. No program in sight.
-/
import Derived.Test.YtookaodcdglhfaaDoorSetS
namespace Go.Proofs.YtookaodcdglhfaaDoor
theorem tkF_zero {gap each : Int} (hg : 0 < gap) (he : 0 < each) : 1 ≤ tkF gap each := by
  have h1 : 0 ≤ gap / each := Int.ediv_nonneg (by omega) (by omega)
  have h3 := Int.emod_nonneg gap (show each ≠ 0 by omega)
  have h4 := Int.mul_ediv_add_emod gap each
  unfold tkF
  split
  · omega
  · have h5 : gap % each = 0 := by omega
    rw [h5, Int.add_zero] at h4
    by_cases h6 : gap / each = 0
    · rw [h6, Int.mul_zero] at h4; omega
    · omega
theorem tkF_small {gap each : Int} (hg : 0 < gap) (he : gap ≤ each) : tkF gap each = 1 := by
  unfold tkF
  by_cases h : gap = each
  · subst h
    rw [Int.ediv_self (by omega), Int.emod_self]; rfl
  · rw [Int.ediv_eq_zero_of_lt (by omega) (by omega), Int.emod_eq_of_lt (by omega) (by omega), if_pos (by omega)]; rfl
theorem tkF_less {gap each : Int} (he : 0 < each) (hg : each < gap) : tkF (gap - each) each = tkF gap each - 1 := by
  have e1 : (gap - each) / each = gap / each - 1 := by
    have := Int.add_mul_ediv_right gap (-1) (show each ≠ 0 by omega)
    rw [show gap + -1 * each = gap - each by omega] at this
    rw [this]; omega
  have e2 : (gap - each) % each = gap % each := by
    have := Int.add_mul_emod_self_right gap (-1) each
    rw [show gap + -1 * each = gap - each by omega] at this
    exact this
  unfold tkF
  rw [e1, e2]
  split <;> omega
theorem tk_pos {l : List Pt} {p k : Nat} (h : (pt l k).v < (pt l p).v) : 1 ≤ tk l p k := by
  unfold tk
  rw [if_pos h]
  have := lock_lo (pt l k).w
  exact tkF_zero (by omega) (by omega)
theorem tk_zero {l : List Pt} {p k : Nat} (h : tk l p k = 0) : (pt l p).v ≤ (pt l k).v := by
  apply Int.not_lt.1
  intro hlt
  have := tk_pos hlt
  omega
/-- One tick of one that is ahead. -/
theorem tk_charge {l : List Pt} {p k : Nat} (hk : k < l.length) (hkp : k ≠ p) (hlt : (pt l k).v < (pt l p).v) (hv : addF (pt l k).v (lockF (pt l k).w) = (pt l k).v + lockF (pt l k).w) : tk (l.set k (chargeP (pt l k))) p k = tk l p k - 1 := by
  have hlo := lock_lo (pt l k).w
  unfold tk
  rw [pt_set_self hk, pt_set_ne hkp, if_pos hlt]
  show (if addF (pt l k).v (lockF (pt l k).w) < (pt l p).v then tkF ((pt l p).v - addF (pt l k).v (lockF (pt l k).w)) (lockF (pt l k).w) else 0) = _
  rw [hv]
  split
  · rename_i h
    have := tkF_less (gap := (pt l p).v - (pt l k).v) (each := lockF (pt l k).w) (by omega) (by omega)
    rw [← this]
    congr 1
    omega
  · rename_i h
    rw [tkF_small (by omega) (by omega)]; rfl
theorem tk_charge_ne {l : List Pt} {p k i : Nat} (hkp : k ≠ p) (hki : k ≠ i) : tk (l.set k (chargeP (pt l k))) p i = tk l p i := by
  unfold tk
  rw [pt_set_ne hkp, pt_set_ne hki]
theorem beh_charge {l : List Pt} {y k : Nat} (hk : k < l.length) (hkp : k ≠ y) (hlt : (pt l k).v < (pt l y).v) (hv : addF (pt l k).v (lockF (pt l k).w) = (pt l k).v + lockF (pt l k).w) (hy : y < l.length) {has : Nat → Bool} (hh : has k = true) :
    ∀ m, m ≤ l.length → behK (l.set k (chargeP (pt l k))) y has m = behK l y has m - (if k < m then 1 else 0)
  | 0, _ => by simp [behK]
  | m + 1, hm => by
    have ih := beh_charge hk hkp hlt hv hy hh m (by omega)
    have e1 : behK (l.set k (chargeP (pt l k))) y has (m + 1) = if has m then stepT (l.set k (chargeP (pt l k))) y (behK (l.set k (chargeP (pt l k))) y has m) m else behK (l.set k (chargeP (pt l k))) y has m := rfl
    have e2 : behK l y has (m + 1) = if has m then stepT l y (behK l y has m) m else behK l y has m := rfl
    have i1 : isP l (y : Int) = true := isP_iff.2 ⟨by omega, by omega⟩
    have i2 : isP (l.set k (chargeP (pt l k))) (y : Int) = true := isP_iff.2 ⟨by omega, by rw [List.length_set]; omega⟩
    have s1 : ∀ n, stepT (l.set k (chargeP (pt l k))) y n m = n + tk (l.set k (chargeP (pt l k))) y m := fun n => by unfold stepT; rw [if_pos ⟨i2, by rw [List.length_set]; omega⟩]; rfl
    have s2 : ∀ n, stepT l y n m = n + tk l y m := fun n => by unfold stepT; rw [if_pos ⟨i1, by omega⟩]; rfl
    rw [e1, e2, s1, s2, ih]
    by_cases c : k = m
    · subst c
      rw [hh, if_pos rfl, if_pos rfl, tk_charge hk hkp hlt hv, if_neg (show ¬ k < k by omega), if_pos (show k < k + 1 by omega)]
      omega
    · rw [tk_charge_ne hkp c]
      by_cases d : k < m
      · rw [if_pos d, if_pos (show k < m + 1 by omega)]; split <;> omega
      · rw [if_neg d, if_neg (show ¬ k < m + 1 by omega)]; split <;> omega
theorem beh_nil {l : List Pt} (hv : ∀ k, k < l.length → U64 (pt l k).v) {y : Nat} (hy : y < l.length) {has : Nat → Bool} : ∀ m, m ≤ l.length → behK l y has m ≤ 0 → ∀ i, i < m → has i = true → tk l y i = 0
  | 0, _, _, i, hi, _ => by omega
  | m + 1, hm, h, i, hi, hh => by
    have e2 : behK l y has (m + 1) = if has m then stepT l y (behK l y has m) m else behK l y has m := rfl
    have i1 : isP l (y : Int) = true := isP_iff.2 ⟨by omega, by omega⟩
    have s2 : ∀ n, stepT l y n m = n + tk l y m := fun n => by unfold stepT; rw [if_pos ⟨i1, by omega⟩]; rfl
    have hb := behK_in hv (y : Int) has m
    have ht := tk_in hv (p := y) (k := m) hy (by omega)
    rw [e2, s2] at h
    by_cases c : i = m
    · subst c
      rw [hh, if_pos rfl] at h
      omega
    · refine beh_nil hv hy m (by omega) ?_ i (by omega) hh
      split at h <;> omega
theorem beh_some {l : List Pt} {y : Nat} {has : Nat → Bool} : ∀ m, m ≤ l.length → 0 < behK l y has m → ∃ i, i < m ∧ has i = true ∧ (pt l i).v < (pt l y).v
  | 0, _, h => by simp [behK] at h
  | m + 1, hm, h => by
    have e2 : behK l y has (m + 1) = if has m then stepT l y (behK l y has m) m else behK l y has m := rfl
    by_cases c : 0 < behK l y has m
    · obtain ⟨i, h1, h2, h3⟩ := beh_some m (by omega) c
      exact ⟨i, by omega, h2, h3⟩
    · rw [e2] at h
      cases hm' : has m with
      | false => rw [hm'] at h; simp at h; omega
      | true =>
        rw [hm', if_pos rfl] at h
        unfold stepT at h
        split at h
        · rename_i q
          refine ⟨m, by omega, hm', ?_⟩
          apply Classical.byContradiction
          intro hn
          have : tk l y m = 0 := by unfold tk; rw [if_neg hn]
          simp only [Int.toNat_natCast] at h
          omega
        · omega
theorem beh_small {l : List Pt} (hv : ∀ k, k < l.length → U64 (pt l k).v) {y : Nat} (hy : (pt l y).v ≤ 28828800) (hyl : y < l.length) {has : Nat → Bool} : ∀ m, m ≤ l.length → 0 ≤ behK l y has m ∧ behK l y has m ≤ 641 * m
  | 0, _ => by simp [behK]
  | m + 1, hm => by
    have ih := beh_small hv hy hyl m (by omega) (has := has)
    have e2 : behK l y has (m + 1) = if has m then stepT l y (behK l y has m) m else behK l y has m := rfl
    have h0 := (hv m (by omega)).1
    have ht : 0 ≤ tk l y m ∧ tk l y m ≤ 641 := by
      refine ⟨(tk_in hv (p := y) (k := m) hyl (by omega)).1, ?_⟩
      unfold tk
      split
      · have hlo := lock_lo (pt l m).w
        have hq : ((pt l y).v - (pt l m).v) / lockF (pt l m).w < 641 := by
          apply Int.ediv_lt_of_lt_mul (by omega)
          have : 641 * 45045 ≤ 641 * lockF (pt l m).w := Int.mul_le_mul_of_nonneg_left hlo (by omega)
          omega
        unfold tkF
        split <;> omega
      · omega
    rw [e2]
    split
    · unfold stepT
      split
      · simp only [Int.toNat_natCast]; omega
      · omega
    · omega
end Go.Proofs.YtookaodcdglhfaaDoor
