/-
  Layer 1's Near, and its plain law. No condition.
-/
import Derived.Test.YtjhjkchcjpijaaaWide
namespace Go.Proofs.Ytjhjkchcjpijaaa
open Go.RowKit
def nearF (a w t l k : Int) : Bool := decide (agF (apH (hiF a l) (loF a l) (hiF w t) (loF w t)) (apL (hiF a l) (loF a l) (hiF w t) (loF w t)) (hiF k l) (loF k l) ≤ 0)
set_option maxHeartbeats 1000000 in
theorem Near_any (a b t l k : Int) (ha : U64 a) (hb : U64 b) (ht : U64 t) (hl : U64 l) (hk : U64 k) (w : World) :
    Calls Try.prog 28 #[.int .u64 a, .int .u64 b, .int .u64 t, .int .u64 l, .int .u64 k] w (Gives (.bool (nearF a b t l k)) w) := by
  have Ha := hid ha
  have Hb := hid hb
  have Ht := hid ht
  have Hl := hid hl
  have Hk := hid hk
  clear ha hb ht hl hk
  go_enter Try.func28, Try.ntmps28
  go_wp2_with (first | (go_at_call 39; refine (Times_any _ _ (by first | exact Ha.out | exact Hb.out | exact Hk.out) (by first | exact Hl.out | exact Ht.out) _).mono ?_; rintro _ _ ⟨rfl, _, rfl⟩) | (go_at_call 41; refine (Against_any _ _ _ _ _).mono ?_; rintro _ _ ⟨rfl, _, rfl⟩) | (go_at_call 40; refine (Apart_any _ _ _ _ (hi_word (by first | exact Ha.out | exact Hb.out) (by first | exact Hl.out | exact Ht.out)) (lo_word _ _) (hi_word (by first | exact Ha.out | exact Hb.out) (by first | exact Hl.out | exact Ht.out)) (lo_word _ _) _).mono ?_; rintro _ _ ⟨rfl, _, rfl⟩))
  go_ret
  refine Gives.mk rfl ?_
  (repeat (first | exact Below.refl _ _ | refine RowKit.Below.past ?_ _ | refine RowKit.Below.alloc' ?_ _ | refine RowKit.Below.drew' ?_ | refine RowKit.Below.drewN' ?_ _ | refine RowKit.Below.setCell' ?_ (by simp [go_sem]) _))
/-! The plain law. -/
theorem ag_spec (a b c d : Int) (hb : U64 b) (hd : U64 d) :
    (agF a b c d ≤ 0 ↔ a * 18446744073709551616 + b ≤ c * 18446744073709551616 + d) ∧ (agF a b c d < 0 ↔ a * 18446744073709551616 + b < c * 18446744073709551616 + d) ∧
    (agF a b c d = -1 ∨ agF a b c d = 0 ∨ agF a b c d = 1) := by
  obtain ⟨b0, b1⟩ := hb
  obtain ⟨d0, d1⟩ := hd
  unfold agF orF cmpF
  rcases Int.lt_trichotomy a c with h | h | h
  · simp [h] <;> omega
  · subst h
    rcases Int.lt_trichotomy b d with h | h | h
    · simp [h] <;> omega
    · subst h; simp
    · have h2 : ¬ b < d := by omega
      simp [h, h2]
  · have h2 : ¬ a < c := by omega
    simp [h, h2] <;> omega
theorem hilo (a b : Int) : hiF a b * 18446744073709551616 + loF a b = a * b := by
  unfold hiF loF top64
  have := Int.mul_ediv_add_emod (a * b) 18446744073709551616
  omega
theorem ap_spec (a b c d : Int) (ha : U64 a) (hb : U64 b) (hc : U64 c) (hd : U64 d) :
    (apH a b c d * 18446744073709551616 + apL a b c d = (a * 18446744073709551616 + b) - (c * 18446744073709551616 + d) ∨ apH a b c d * 18446744073709551616 + apL a b c d = (c * 18446744073709551616 + d) - (a * 18446744073709551616 + b)) ∧
    0 ≤ apH a b c d ∧ U64 (apL a b c d) := by
  obtain ⟨_, h, _⟩ := ag_spec a b c d hb hd
  obtain ⟨a0, a1⟩ := ha
  obtain ⟨b0, b1⟩ := hb
  obtain ⟨c0, c1⟩ := hc
  obtain ⟨d0, d1⟩ := hd
  unfold apH apL U64
  by_cases hlt : agF a b c d < 0
  · have h2 := h.1 hlt
    simp only [hlt, decide_true, if_true, difF, borF, top64]
    split <;> omega
  · have h2 : ¬ (a * 18446744073709551616 + b < c * 18446744073709551616 + d) := fun hh => hlt (h.2 hh)
    simp only [hlt, decide_false, Bool.false_eq_true, if_false, difF, borF, top64]
    split <;> omega
theorem near_iff (a w t l k : Int) (ha : U64 a) (hw : U64 w) (ht : U64 t) (hl : U64 l) :
    nearF a w t l k = true ↔ (a * l - w * t ≤ k * l ∧ w * t - a * l ≤ k * l) := by
  unfold nearF
  rw [decide_eq_true_eq]
  have h1 := ap_spec (hiF a l) (loF a l) (hiF w t) (loF w t) (hi_word ha hl) (lo_word _ _) (hi_word hw ht) (lo_word _ _)
  have h2 := ag_spec (apH (hiF a l) (loF a l) (hiF w t) (loF w t)) (apL (hiF a l) (loF a l) (hiF w t) (loF w t)) (hiF k l) (loF k l) h1.2.2 (lo_word _ _)
  rw [h2.1, hilo]
  have p := h1.1
  have q := h1.2.1
  have r := h1.2.2.1
  rw [hilo, hilo] at p
  omega
theorem near_more {a w t l k k' : Int} (ha : U64 a) (hw : U64 w) (ht : U64 t) (hl : U64 l) (h : nearF a w t l k = true) (hk : k ≤ k') : nearF a w t l k' = true := by
  rw [near_iff _ _ _ _ _ ha hw ht hl] at h ⊢
  have := Int.mul_le_mul_of_nonneg_right hk hl.1
  omega
theorem add_spec (a b : Int) (ha : U64 a) (hb : U64 b) (h : addE a b = 0) : addF a b = a + b ∧ U64 (addF a b) := by
  unfold addE at h
  unfold addF
  have hc : carF a b 0 = 0 := by
    by_cases e : carF a b 0 = 0
    · exact e
    · simp [e] at h
  rw [hc]
  have h2 : sumF a b 0 = a + b := by
    unfold carF top64 at hc
    unfold sumF top64
    have := ha.1; have := hb.1
    omega
  simp only [beq_self_eq_true, if_true]
  refine ⟨h2, ?_⟩
  unfold sumF top64
  exact ⟨by omega, by omega⟩
end Go.Proofs.Ytjhjkchcjpijaaa
