/-
  The document's fractions held against each other, and shares told to be near. No condition.
-/
import Derived.Test.YtpihkagmkmjfpaaDigD
namespace Go.Proofs.Ytpihkagmkmjfpaa
open Go.RowKit
theorem ag_cmp (a b c d : Int) (hb : U64 b) (hd : U64 d) : agF a b c d = cmpF (a * 18446744073709551616 + b) (c * 18446744073709551616 + d) := by
  obtain ⟨h1, h2, h3⟩ := ag_spec a b c d hb hd
  unfold cmpF
  rcases Int.lt_trichotomy (a * 18446744073709551616 + b) (c * 18446744073709551616 + d) with h | h | h
  · have := h2.2 h
    simp [h]; omega
  · have p : ¬ (a * 18446744073709551616 + b < c * 18446744073709551616 + d) := by omega
    have q : ¬ (c * 18446744073709551616 + d < a * 18446744073709551616 + b) := by omega
    simp only [p, q, decide_false, Bool.false_eq_true, if_false]
    have x := h1.2 (by omega)
    have y : ¬ agF a b c d < 0 := fun hh => p (h2.1 hh)
    omega
  · have p : ¬ (a * 18446744073709551616 + b < c * 18446744073709551616 + d) := by omega
    simp only [p, h, decide_false, decide_true, Bool.false_eq_true, if_false, if_true]
    have x : ¬ agF a b c d ≤ 0 := fun hh => by have := h1.1 hh; omega
    omega
theorem ag_mul (a b c d : Int) : agF (hiF a b) (loF a b) (hiF c d) (loF c d) = cmpF (a * b) (c * d) := by
  rw [ag_cmp _ _ _ _ (lo_word _ _) (lo_word _ _), hilo, hilo]
set_option maxHeartbeats 1000000 in
theorem RCompare_any (a b c d : Int) (ha : U64 a) (hb : U64 b) (hc : U64 c) (hd : U64 d) (w : World) :
    Calls Try.prog 12 #[.int .u64 a, .int .u64 b, .int .u64 c, .int .u64 d] w (Gives (.tuple #[.int .i64 (compF a b c d), .int .i64 (compE b d)]) w) := by
  have Ha := hid ha
  have Hb := hid hb
  have Hc := hid hc
  have Hd := hid hd
  clear ha hb hc hd
  by_cases hz : b = 0 ∨ d = 0
  · rcases beq_cases b 0 with h | h <;> rcases beq_cases d 0 with h2 | h2
    case inr.inr => simp at h h2; omega
    all_goals
      clear hz
      go_enter Try.func12, Try.ntmps12
      go_wp2
      go_ret2
      refine Gives.mk (by simp [compF, compE, h, h2]) ?_
      (repeat (first | exact Below.refl _ _ | refine RowKit.Below.past ?_ _ | refine RowKit.Below.alloc' ?_ _ | refine RowKit.Below.drew' ?_ | refine RowKit.Below.drewN' ?_ _ | refine RowKit.Below.setCell' ?_ (by simp [go_sem]) _))
  have h : (b == 0) = false := beq_eq_false_iff_ne.2 (by omega)
  have h2 : (d == 0) = false := beq_eq_false_iff_ne.2 (by omega)
  have e := hid (show compF a b c d = cmpF (val (timesD (numD a) (numD d))) (val (timesD (numD b) (numD c))) ∧ compE b d = 0 by
    rw [digs_times a d Ha.out Hd.out, digs_times b c Hb.out Hc.out, ← ag_mul]
    simp [compF, compE, h, h2])
  clear hz
  go_enter Try.func12, Try.ntmps12
  go_wp2_with fail
  refine (number_any a Ha.out _).mono ?_
  rintro _ w1a ⟨A1, ca1, rfl, hb1a, ho1a⟩
  go_wp2_with fail
  refine (number_any d Hd.out _).mono ?_
  rintro _ w1b ⟨B1, cb1, rfl, hb1b, ho1b⟩
  go_wp2_with fail
  refine (Times_ref A1 B1 ca1 cb1 (numD a) (numD d) _ (by simp [numD]) (by simp [numD]) (num_digs Ha.out) (num_digs Hd.out) ((Cells.of_own ho1a).below hb1b) (Cells.of_own ho1b)).mono ?_
  rintro _ w1 ⟨C1, cc1, rfl, hb1c, ho1⟩
  have hb1 := below_trans' (below_trans' hb1a hb1b) hb1c
  have HO1 := hid ho1
  have HB1 := hid hb1
  clear hb1a hb1b hb1c ho1a ho1b ho1 hb1
  go_wp2_with fail
  refine (number_any b Hb.out _).mono ?_
  rintro _ w2a ⟨A2, ca2, rfl, hb2a, ho2a⟩
  go_wp2_with fail
  refine (number_any c Hc.out _).mono ?_
  rintro _ w2b ⟨B2, cb2, rfl, hb2b, ho2b⟩
  go_wp2_with fail
  refine (Times_ref A2 B2 ca2 cb2 (numD b) (numD c) _ (by simp [numD]) (by simp [numD]) (num_digs Hb.out) (num_digs Hc.out) ((Cells.of_own ho2a).below hb2b) (Cells.of_own ho2b)).mono ?_
  rintro _ w2 ⟨C2, cc2, rfl, hb2c, ho2⟩
  have hb2 := below_trans' (below_trans' hb2a hb2b) hb2c
  have HO2 := hid ho2
  have HB2 := hid hb2
  clear hb2a hb2b hb2c ho2a ho2b ho2 hb2
  go_wp2_with fail
  refine (Less_any C1 C2 cc1 cc2 (timesD (numD a) (numD d)) (timesD (numD b) (numD c)) _ (by have := len_times a d; omega) (by have := len_times b c; omega) (times_digs _ _) (times_digs _ _) ((Cells.of_own HO1.out).below HB2.out) (Cells.of_own HO2.out)).mono ?_
  rintro _ _ ⟨rfl, _, rfl⟩
  go_wp2
  go_ret2
  refine Gives.mk (by rw [e.out.1, e.out.2]; rfl) ?_
  exact RowKit.Below.past (below_trans' HB1.out HB2.out) _
theorem near_val (a q t l k : Int) (ha : U64 a) (hq : U64 q) (ht : U64 t) (hl : U64 l) (hk : U64 k) :
    (a * l < q * t → nearF a q t l k = decide (cmpF (q * t - a * l) (k * l) ≤ 0)) ∧ (¬ a * l < q * t → nearF a q t l k = decide (cmpF (a * l - q * t) (k * l) ≤ 0)) := by
  have h := near_iff a q t l k ha hq ht hl
  have hn := Int.mul_nonneg hk.1 hl.1
  have hc : ∀ x y : Int, cmpF x y ≤ 0 ↔ x ≤ y := by
    intro x y
    unfold cmpF
    rcases Int.lt_trichotomy x y with h | h | h
    · simp [h]; omega
    · subst h; simp
    · have : ¬ x < y := by omega
      simp [h, this]
  constructor
  · intro hlt
    rw [Bool.eq_iff_iff, h, decide_eq_true_eq, hc]
    omega
  · intro hlt
    rw [Bool.eq_iff_iff, h, decide_eq_true_eq, hc]
    omega
set_option maxHeartbeats 2000000 in
theorem RNear_any (a b t l k : Int) (ha : U64 a) (hb : U64 b) (ht : U64 t) (hl : U64 l) (hk : U64 k) (w : World) :
    Calls Try.prog 13 #[.int .u64 a, .int .u64 b, .int .u64 t, .int .u64 l, .int .u64 k] w (Gives (.bool (nearF a b t l k)) w) := by
  have hnv := near_val a b t l k ha hb ht hl hk
  rw [← digs_times a l ha hl, ← digs_times b t hb ht, ← digs_times k l hk hl] at hnv
  have lx := len_times a l
  have ly := len_times b t
  have lz := len_times k l
  have Ha := hid ha
  have Hb := hid hb
  have Ht := hid ht
  have Hl := hid hl
  have Hk := hid hk
  have NV := hid hnv
  have LM : ∀ x y : List Int, x.length ≤ 100 → y.length ≤ 100 → (minD x y).length ≤ 1000000 := fun x y h1 h2 => by simp [minD, minK, lonD]; split <;> omega
  have LM := hid LM
  have LX := hid lx
  have LY := hid ly
  have LZ := hid lz
  clear ha hb ht hl hk hnv lx ly lz
  have dx := hid (times_digs (numD a) (numD l))
  have dy := hid (times_digs (numD b) (numD t))
  have dz := hid (times_digs (numD k) (numD l))
  go_enter Try.func13, Try.ntmps13
  go_wp2_with fail
  refine (number_any a Ha.out _).mono ?_
  rintro _ w1a ⟨A1, ca1, rfl, hb1a, ho1a⟩
  go_wp2_with fail
  refine (number_any l Hl.out _).mono ?_
  rintro _ w1b ⟨B1, cb1, rfl, hb1b, ho1b⟩
  go_wp2_with fail
  refine (Times_ref A1 B1 ca1 cb1 (numD a) (numD l) _ (by simp [numD]) (by simp [numD]) (num_digs Ha.out) (num_digs Hl.out) ((Cells.of_own ho1a).below hb1b) (Cells.of_own ho1b)).mono ?_
  rintro _ w1 ⟨C1, cc1, rfl, hb1c, ho1⟩
  have hb1 := below_trans' (below_trans' hb1a hb1b) hb1c
  have HO1 := hid ho1
  have HB1 := hid hb1
  clear hb1a hb1b hb1c ho1a ho1b ho1 hb1
  go_wp2_with fail
  refine (number_any b Hb.out _).mono ?_
  rintro _ w2a ⟨A2, ca2, rfl, hb2a, ho2a⟩
  go_wp2_with fail
  refine (number_any t Ht.out _).mono ?_
  rintro _ w2b ⟨B2, cb2, rfl, hb2b, ho2b⟩
  go_wp2_with fail
  refine (Times_ref A2 B2 ca2 cb2 (numD b) (numD t) _ (by simp [numD]) (by simp [numD]) (num_digs Hb.out) (num_digs Ht.out) ((Cells.of_own ho2a).below hb2b) (Cells.of_own ho2b)).mono ?_
  rintro _ w2 ⟨C2, cc2, rfl, hb2c, ho2⟩
  have hb2 := below_trans' (below_trans' hb2a hb2b) hb2c
  have HO2 := hid ho2
  have HB2 := hid hb2
  clear hb2a hb2b hb2c ho2a ho2b ho2 hb2
  have HC1 := hid ((Cells.of_own HO1.out).below HB2.out)
  have HC2 := hid (Cells.of_own HO2.out)
  have HB12 := hid (below_trans' HB1.out HB2.out)
  clear HO1 HB1 HO2 HB2
  go_wp2_with fail
  refine (Minus_any C1 C2 cc1 cc2 _ _ _ (by have := LX.out; omega) (by have := LY.out; omega) dx.out dy.out HC1.out HC2.out).mono ?_
  rintro _ w3 ⟨D, cd, rfl, hb3, ho3⟩
  have HB3 := hid hb3
  have HO3 := hid ho3
  clear hb3 ho3
  go_wp2_with fail
  refine (Less_any C1 C2 cc1 cc2 _ _ _ (by have := LX.out; omega) (by have := LY.out; omega) dx.out dy.out (HC1.out.below HB3.out) (HC2.out.below HB3.out)).mono ?_
  rintro _ _ ⟨rfl, x4, rfl⟩
  by_cases hlt : val (timesD (numD a) (numD l)) < val (timesD (numD b) (numD t))
  · have hc : cmpF (val (timesD (numD a) (numD l))) (val (timesD (numD b) (numD t))) = -1 := by simp [cmpF, hlt]
    have hmv := min_val dy.out dx.out (Int.le_of_lt hlt)
    have NV2 := NV.out.1 (by omega)
    rw [← hmv] at NV2
    have NV2 := hid NV2
    rw [hc]
    clear hc hmv hlt
    go_wp2_with fail
    refine (Minus_any C2 C1 cc2 cc1 _ _ _ (by have := LY.out; omega) (by have := LX.out; omega) dy.out dx.out ((HC2.out.below HB3.out).past _) ((HC1.out.below HB3.out).past _)).mono ?_
    rintro _ w4 ⟨E, ce, rfl, hb4, ho4⟩
    have HB4 := hid hb4
    have HO4 := hid ho4
    clear hb4 ho4
    go_wp2_with fail
    refine (number_any k Hk.out _).mono ?_
    rintro _ w5a ⟨A5, ca5, rfl, hb5a, ho5a⟩
    go_wp2_with fail
    refine (number_any l Hl.out _).mono ?_
    rintro _ w5b ⟨B5, cb5, rfl, hb5b, ho5b⟩
    go_wp2_with fail
    refine (Times_ref A5 B5 ca5 cb5 (numD k) (numD l) _ (by simp [numD]) (by simp [numD]) (num_digs Hk.out) (num_digs Hl.out) ((Cells.of_own ho5a).below hb5b) (Cells.of_own ho5b)).mono ?_
    rintro _ w5 ⟨C5, cc5, rfl, hb5c, ho5⟩
    have hb5 := below_trans' (below_trans' hb5a hb5b) hb5c
    have HO5 := hid ho5
    have HB5 := hid hb5
    clear hb5a hb5b hb5c ho5a ho5b ho5 hb5
    go_wp2_with fail
    refine (Less_any E C5 ce cc5 _ _ _ (LM.out _ _ LY.out LX.out) (by have := LZ.out; omega) (minD_digs _ _) dz.out ((Cells.of_own HO4.out).below HB5.out) (Cells.of_own HO5.out)).mono ?_
    rintro _ _ ⟨rfl, _, rfl⟩
    go_wp2
    go_ret
    refine Gives.mk (by rw [NV2.out]; rfl) ?_
    exact RowKit.Below.past (below_trans' (below_trans' (RowKit.Below.past (below_trans' HB12.out HB3.out) _) HB4.out) HB5.out) _
  · have hc : decide (cmpF (val (timesD (numD a) (numD l))) (val (timesD (numD b) (numD t))) < 0) = false := by
      unfold cmpF
      simp only [hlt, decide_false, Bool.false_eq_true, if_false]
      split <;> decide
    have hmv := min_val dx.out dy.out (by omega)
    have NV2 := NV.out.2 (by omega)
    rw [← hmv] at NV2
    have NV2 := hid NV2
    clear hmv hlt
    go_wp2_with fail
    refine (number_any k Hk.out _).mono ?_
    rintro _ w5a ⟨A5, ca5, rfl, hb5a, ho5a⟩
    go_wp2_with fail
    refine (number_any l Hl.out _).mono ?_
    rintro _ w5b ⟨B5, cb5, rfl, hb5b, ho5b⟩
    go_wp2_with fail
    refine (Times_ref A5 B5 ca5 cb5 (numD k) (numD l) _ (by simp [numD]) (by simp [numD]) (num_digs Hk.out) (num_digs Hl.out) ((Cells.of_own ho5a).below hb5b) (Cells.of_own ho5b)).mono ?_
    rintro _ w5 ⟨C5, cc5, rfl, hb5c, ho5⟩
    have hb5 := below_trans' (below_trans' hb5a hb5b) hb5c
    have HO5 := hid ho5
    have HB5 := hid hb5
    clear hb5a hb5b hb5c ho5a ho5b ho5 hb5
    go_wp2_with fail
    refine (Less_any D C5 cd cc5 _ _ _ (LM.out _ _ LX.out LY.out) (by have := LZ.out; omega) (minD_digs _ _) dz.out ((((Cells.of_own HO3.out).past x4)).below HB5.out) (Cells.of_own HO5.out)).mono ?_
    rintro _ _ ⟨rfl, _, rfl⟩
    go_wp2
    go_ret
    refine Gives.mk (by rw [NV2.out]; rfl) ?_
    exact RowKit.Below.past (below_trans' (RowKit.Below.past (below_trans' HB12.out HB3.out) _) HB5.out) _
end Go.Proofs.Ytpihkagmkmjfpaa
