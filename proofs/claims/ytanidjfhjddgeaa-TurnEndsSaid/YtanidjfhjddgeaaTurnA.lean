/-
  The walks over layer 19's functions: each returns what a plain function on numbers gives, and leaves what lay there as it was. No condition.
-/
import Derived.Test.YtanidjfhjddgeaaRows
import Derived.WalkKit
import Derived.WalkSpells
import Derived.WalkLawsBesides
import Derived.BigQuiet
import Derived.Test.YtanidjfhjddgeaaLift
namespace Go.Proofs.Ytanidjfhjddgeaa
open Go.RowKit
def bringF (x lo hi : Int) : Int := if x < lo then lo else if x > hi then hi else x
set_option maxHeartbeats 400000 in
theorem bring_any (a : Int) (w : World) :
    Calls Try.prog 18 #[.int .i64 a] w (Gives (.int .i64 (bringF a 1 16)) w) := by
  go_enter Try.func18, Try.ntmps18
  go_wp2
  all_goals (go_ret; refine Gives.refl ?_; simp [bringF]; omega)
set_option maxHeartbeats 400000 in
theorem Bring_any (a lo hi : Int) (w : World) :
    Calls Try.prog 19 #[.int .i64 a, .int .i64 lo, .int .i64 hi] w (Gives (.int .i64 (bringF a lo hi)) w) := by
  go_enter Try.func19, Try.ntmps19
  go_wp2
  all_goals (go_ret; refine Gives.refl ?_; simp [bringF]; omega)
def bitF (a : Int) : Int := if a < 0 then 0 else if 63 < a then 0 else 2 ^ a.toNat
theorem wrap_pow (n : Nat) (h : n ≤ 63) : IntKind.u64.wrap ((2 : Int) ^ n) = 2 ^ n := by
  have h2 : (2 : Int) ^ n ≤ 2 ^ 63 := by
    have := Nat.pow_le_pow_right (n := 2) (by omega) h
    exact_mod_cast this
  have h3 : (0 : Int) < 2 ^ n := Int.pow_pos (by omega)
  generalize (2 : Int) ^ n = x at *
  simp [IntKind.wrap, IntKind.min, IntKind.max, IntKind.signed, IntKind.bits]
  omega
set_option maxHeartbeats 400000 in
theorem bit_any (a : Int) (w : World) :
    Calls Try.prog 20 #[.int .i64 a] w (Gives (.int .u64 (bitF a)) w) := by
  go_enter Try.func20, Try.ntmps20
  go_wp2
  all_goals (go_ret; refine Gives.refl ?_; unfold bitF)
  · rw [if_neg (by omega), if_pos (by omega)]; rfl
  · rw [if_neg (by omega), if_neg (by omega)]; show Array.getD _ _ _ = _; simp [wrap_pow a.toNat (by omega)]
  · rw [if_pos (by omega)]; rfl
theorem dec_cases (p : Prop) [Decidable p] : decide p = true ∨ decide p = false := by by_cases h : p <;> simp [h]
theorem beq_cases (a b : Int) : (a == b) = true ∨ (a == b) = false := by by_cases h : a = b <;> simp [h]
def hasF (s a : Int) : Bool := decide (0 ≤ a) && (decide (a < 64) && ((s / 2 ^ a.toNat) % 2 == 1))
theorem nat_and_pow (n i : Nat) : n &&& 2 ^ i = (n.testBit i).toNat * 2 ^ i := by
  apply Nat.eq_of_testBit_eq
  intro j
  rw [Nat.testBit_and, Nat.testBit_two_pow]
  cases h : n.testBit i
  · by_cases e : i = j
    · subst e; simp [h]
    · simp [e]
  · by_cases e : i = j
    · subst e; simp [h]
    · simp [e, Nat.testBit_two_pow]
theorem and_bit (s a : Int) (h : U64 s) : (bits BinOp.and IntKind.u64 s (bitF a) != 0) = hasF s a := by
  obtain ⟨h0, h1⟩ := h
  unfold hasF bitF
  by_cases ha : a < 0
  · rw [if_pos ha, u64_and s 0 h0 h1 (by omega) (by omega)]
    have : ¬ 0 ≤ a := by omega
    simp [this]
  · rw [if_neg ha]
    by_cases hb : 63 < a
    · rw [if_pos hb, u64_and s 0 h0 h1 (by omega) (by omega)]
      have : ¬ a < 64 := by omega
      simp [this]
    · rw [if_neg hb]
      obtain ⟨k, rfl⟩ := Int.eq_ofNat_of_zero_le (by omega : 0 ≤ a)
      obtain ⟨n, rfl⟩ := Int.eq_ofNat_of_zero_le h0
      have hk : k ≤ 63 := by omega
      have h2 : (2 : Nat) ^ k ≤ 2 ^ 63 := Nat.pow_le_pow_right (by omega) hk
      have e : ((2 : Int) ^ (k : Int).toNat) = ((2 ^ k : Nat) : Int) := by simp
      rw [e, u64_and_nat _ _ (by omega) (by omega), nat_and_pow, Nat.testBit_eq_decide_div_mod_eq]
      have h4 : (k : Int) < 64 := by omega
      have h5 : (0 : Int) ≤ k := by omega
      have e3 : ((n : Int) / ((2 ^ k : Nat) : Int)) % 2 = ((n / 2 ^ k % 2 : Nat) : Int) := by simp
      rw [e3, decide_eq_true h4, decide_eq_true h5]
      rcases Nat.mod_two_eq_zero_or_one (n / 2 ^ k) with hr | hr
      · simp [hr]
      · have hp : (2 : Nat) ^ k ≠ 0 := Nat.pos_iff_ne_zero.1 (Nat.two_pow_pos k)
        simp [hr]
        exact_mod_cast hp
def mayF (p u s q : Int) : Bool := decide (0 ≤ q) && (p == q) && decide (u < bringF s 1 16)
set_option maxHeartbeats 400000 in
theorem May_any (p u s q : Int) (w : World) :
    Calls Try.prog 8 #[.agg #[.int .i64 p, .int .i64 u], .int .i64 s, .int .i64 q] w (Gives (.bool (mayF p u s q)) w) := by
  rcases dec_cases (0 ≤ q) with h1 | h1 <;> rcases beq_cases p q with h2 | h2
  all_goals
    go_enter Try.func8, Try.ntmps8
    go_wp2_with fail
    refine wp_region_past (by kernel_rfl) (by kernel_rfl) ?_
    repeat (go_big_quiet_step (((go_at_call 18; first | exact Calls.in_past (bring_any _ _) | exact Calls.in_past2 (bring_any _ _)))))
    refine wpQuiet_nil ?_
    rintro _ ⟨_, rfl⟩
    go_wp2
    go_ret
    refine Gives.mk (by simp [mayF, h1, h2]) ?_
    (repeat (first | exact Below.refl _ _ | refine RowKit.Below.past ?_ _ | refine RowKit.Below.alloc' ?_ _ | refine RowKit.Below.drew' ?_ | refine RowKit.Below.drewN' ?_ _ | refine RowKit.Below.setCell' ?_ (by simp [go_sem]) _))
set_option maxHeartbeats 400000 in
theorem RMay_any (p u s q : Int) (w : World) :
    Calls Try.prog 9 #[.agg #[.int .i64 p, .int .i64 u], .int .i64 s, .int .i64 q] w (Gives (.bool (mayF p u s q)) w) := by
  rcases dec_cases (0 ≤ q) with h1 | h1 <;> rcases beq_cases p q with h2 | h2
  all_goals
    go_enter Try.func9, Try.ntmps9
    go_wp2_with fail
    refine wp_region_past (by kernel_rfl) (by kernel_rfl) ?_
    repeat (go_big_quiet_step (((go_at_call 19; first | exact Calls.in_past (Bring_any _ _ _ _) | exact Calls.in_past2 (Bring_any _ _ _ _)))))
    refine wpQuiet_nil ?_
    rintro _ ⟨_, rfl⟩
    go_wp2
    go_ret
    refine Gives.mk (by simp [mayF, h1, h2]) ?_
    (repeat (first | exact Below.refl _ _ | refine RowKit.Below.past ?_ _ | refine RowKit.Below.alloc' ?_ _ | refine RowKit.Below.drew' ?_ | refine RowKit.Below.drewN' ?_ _ | refine RowKit.Below.setCell' ?_ (by simp [go_sem]) _))
set_option maxHeartbeats 400000 in
theorem Has_any (s a : Int) (w : World) (h : U64 s) :
    Calls Try.prog 16 #[.int .u64 s, .int .i64 a] w (Gives (.bool (hasF s a)) w) := by
  rw [← and_bit s a h]
  clear h
  go_enter Try.func16, Try.ntmps16
  go_wp2_with ((go_at_call 20; refine (bit_any _ _).mono ?_; rintro _ _ ⟨rfl, _, rfl⟩))
  go_ret
  refine Gives.mk rfl ?_
  (repeat (first | exact Below.refl _ _ | refine RowKit.Below.past ?_ _ | refine RowKit.Below.alloc' ?_ _ | refine RowKit.Below.drew' ?_ | refine RowKit.Below.drewN' ?_ _ | refine RowKit.Below.setCell' ?_ (by simp [go_sem]) _))
set_option maxHeartbeats 400000 in
theorem RHas_any (s a : Int) (w : World) (h : U64 s) :
    Calls Try.prog 17 #[.int .u64 s, .int .i64 a] w (Gives (.bool (hasF s a)) w) := by
  have h0 : 0 ≤ s := h.1
  clear h
  go_enter Try.func17, Try.ntmps17
  go_wp2_with (fail)
  all_goals (go_ret; refine Gives.refl ?_; unfold hasF)
  · rw [decide_eq_true (by omega : 0 ≤ a), decide_eq_true (by omega : a < 64)]
    have : 0 ≤ s / 2 ^ a.toNat := Int.ediv_nonneg h0 (Int.pow_nonneg (by omega))
    show Value.bool _ = _
    rw [Int.tmod_eq_emod_of_nonneg this]
    rfl
  · rw [decide_eq_true (by omega : 0 ≤ a), decide_eq_false (by omega : ¬ a < 64)]; rfl
  · rw [decide_eq_false (by omega : ¬ 0 ≤ a)]; rfl
def Out (v : Value) (w : World) (e : Ending) (w' : World) : Prop := Gives v w e w'
def nextP (p u s wt l : Int) : Int := if (wt == 0 || (hasF wt p && mayF p u s p)) = true then p else l
def nextU (p u s wt : Int) : Int := if (wt == 0 || (hasF wt p && mayF p u s p)) = true then u else 0
set_option maxHeartbeats 400000 in
theorem Next_any (p u s wt l : Int) (w : World) (h : U64 wt) :
    Calls Try.prog 6 #[.agg #[.int .i64 p, .int .i64 u], .int .i64 s, .int .u64 wt, .int .i64 l] w (Gives (.agg #[.int .i64 (nextP p u s wt l), .int .i64 (nextU p u s wt)]) w) := by
  rcases beq_cases wt 0 with h1 | h1 <;> rcases Bool.eq_false_or_eq_true (hasF wt p) with h2 | h2 <;> rcases Bool.eq_false_or_eq_true (mayF p u s p) with h3 | h3
  all_goals
    have H := hid h
    clear h
    go_enter Try.func6, Try.ntmps6
    go_wp2_with (first | (go_at_call 16; refine (Has_any _ _ _ H.out).mono ?_; rintro _ _ ⟨rfl, _, rfl⟩) | (go_at_call 8; refine (May_any _ _ _ _ _).mono ?_; rintro _ _ ⟨rfl, _, rfl⟩))
  all_goals first
    | (
      refine bodyPost_ret (v := .agg #[.int .i64 p, .int .i64 u]) ?_ rfl ?_
      · simp [results, Try.results6, go_sem]
      · refine Gives.mk (by simp [nextP, nextU, h1, h2, h3]) ?_
        (repeat (first | exact Below.refl _ _ | refine RowKit.Below.past ?_ _ | refine RowKit.Below.alloc' ?_ _ | refine RowKit.Below.drew' ?_ | refine RowKit.Below.drewN' ?_ _ | refine RowKit.Below.setCell' ?_ (by simp [go_sem]) _))
      done)
    | (
      refine bodyPost_ret (v := .agg #[.int .i64 l, .int .i64 0]) ?_ rfl ?_
      · simp [results, Try.results6, go_sem]
      · refine Gives.mk (by simp [nextP, nextU, h1, h2, h3]) ?_
        (repeat (first | exact Below.refl _ _ | refine RowKit.Below.past ?_ _ | refine RowKit.Below.alloc' ?_ _ | refine RowKit.Below.drew' ?_ | refine RowKit.Below.drewN' ?_ _ | refine RowKit.Below.setCell' ?_ (by simp [go_sem]) _))
      done)
set_option maxHeartbeats 400000 in
theorem RNext_any (p u s wt l : Int) (w : World) (h : U64 wt) :
    Calls Try.prog 7 #[.agg #[.int .i64 p, .int .i64 u], .int .i64 s, .int .u64 wt, .int .i64 l] w (Gives (.agg #[.int .i64 (nextP p u s wt l), .int .i64 (nextU p u s wt)]) w) := by
  rcases beq_cases wt 0 with h1 | h1 <;> rcases Bool.eq_false_or_eq_true (hasF wt p) with h2 | h2 <;> rcases Bool.eq_false_or_eq_true (mayF p u s p) with h3 | h3
  all_goals
    have H := hid h
    clear h
    go_enter Try.func7, Try.ntmps7
    go_wp2_with (first | (go_at_call 17; refine (RHas_any _ _ _ H.out).mono ?_; rintro _ _ ⟨rfl, _, rfl⟩) | (go_at_call 9; refine (RMay_any _ _ _ _ _).mono ?_; rintro _ _ ⟨rfl, _, rfl⟩))
  all_goals first
    | (
      refine bodyPost_ret (v := .agg #[.int .i64 p, .int .i64 u]) ?_ rfl ?_
      · simp [results, Try.results7, go_sem]
      · refine Gives.mk (by simp [nextP, nextU, h1, h2, h3]) ?_
        (repeat (first | exact Below.refl _ _ | refine RowKit.Below.past ?_ _ | refine RowKit.Below.alloc' ?_ _ | refine RowKit.Below.drew' ?_ | refine RowKit.Below.drewN' ?_ _ | refine RowKit.Below.setCell' ?_ (by simp [go_sem]) _))
      done)
    | (
      refine bodyPost_ret (v := .agg #[.int .i64 l, .int .i64 0]) ?_ rfl ?_
      · simp [results, Try.results7, go_sem]
      · refine Gives.mk (by simp [nextP, nextU, h1, h2, h3]) ?_
        (repeat (first | exact Below.refl _ _ | refine RowKit.Below.past ?_ _ | refine RowKit.Below.alloc' ?_ _ | refine RowKit.Below.drew' ?_ | refine RowKit.Below.drewN' ?_ _ | refine RowKit.Below.setCell' ?_ (by simp [go_sem]) _))
      done)
def spendU (u : Int) : Int := if decide (u < 2147483648) = true then u + 1 else u
set_option maxHeartbeats 400000 in
theorem Spend_any (p u : Int) (w : World) (h : I64 u) :
    Calls Try.prog 10 #[.agg #[.int .i64 p, .int .i64 u]] w (Gives (.agg #[.int .i64 p, .int .i64 (spendU u)]) w) := by
  rcases dec_cases (u < 2147483648) with h1 | h1
  · have H : -9223372036854775808 ≤ u := h.1
    have H2 : u < 2147483648 := by simpa using h1
    clear h
    go_enter Try.func10, Try.ntmps10
    go_wp2
    refine bodyPost_ret (v := .agg #[.int .i64 p, .int .i64 (u + 1)]) ?_ rfl ?_
    · simp [results, Try.results10, go_sem]
    · refine Gives.mk (by simp [spendU, h1]) ?_
      (repeat (first | exact Below.refl _ _ | refine RowKit.Below.past ?_ _ | refine RowKit.Below.alloc' ?_ _ | refine RowKit.Below.drew' ?_ | refine RowKit.Below.drewN' ?_ _ | refine RowKit.Below.setCell' ?_ (by simp [go_sem]) _))
  · clear h
    go_enter Try.func10, Try.ntmps10
    go_wp2
    refine bodyPost_ret (v := .agg #[.int .i64 p, .int .i64 u]) ?_ rfl ?_
    · simp [results, Try.results10, go_sem]
    · refine Gives.mk (by simp [spendU, h1]) ?_
      (repeat (first | exact Below.refl _ _ | refine RowKit.Below.past ?_ _ | refine RowKit.Below.alloc' ?_ _ | refine RowKit.Below.drew' ?_ | refine RowKit.Below.drewN' ?_ _ | refine RowKit.Below.setCell' ?_ (by simp [go_sem]) _))
set_option maxHeartbeats 400000 in
theorem RSpend_any (p u : Int) (w : World) (h : I64 u) :
    Calls Try.prog 11 #[.agg #[.int .i64 p, .int .i64 u]] w (Gives (.agg #[.int .i64 p, .int .i64 (spendU u)]) w) := by
  rcases dec_cases (u < 2147483648) with h1 | h1
  · have H : -9223372036854775808 ≤ u := h.1
    have H2 : u < 2147483648 := by simpa using h1
    clear h
    go_enter Try.func11, Try.ntmps11
    go_wp2
    refine bodyPost_ret (v := .agg #[.int .i64 p, .int .i64 (u + 1)]) ?_ rfl ?_
    · simp [results, Try.results11, go_sem]
    · refine Gives.mk (by simp [spendU, h1]) ?_
      (repeat (first | exact Below.refl _ _ | refine RowKit.Below.past ?_ _ | refine RowKit.Below.alloc' ?_ _ | refine RowKit.Below.drew' ?_ | refine RowKit.Below.drewN' ?_ _ | refine RowKit.Below.setCell' ?_ (by simp [go_sem]) _))
  · clear h
    go_enter Try.func11, Try.ntmps11
    go_wp2
    refine bodyPost_ret (v := .agg #[.int .i64 p, .int .i64 u]) ?_ rfl ?_
    · simp [results, Try.results11, go_sem]
    · refine Gives.mk (by simp [spendU, h1]) ?_
      (repeat (first | exact Below.refl _ _ | refine RowKit.Below.past ?_ _ | refine RowKit.Below.alloc' ?_ _ | refine RowKit.Below.drew' ?_ | refine RowKit.Below.drewN' ?_ _ | refine RowKit.Below.setCell' ?_ (by simp [go_sem]) _))
end Go.Proofs.Ytanidjfhjddgeaa
