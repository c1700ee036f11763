/-
  Layer 21: what its functions call of layers 06, 15 and 19. No condition.
-/
import Derived.Test.YthlogfclgakhkaaDoorRows
import Derived.WalkKit
import Derived.WalkSpells
import Derived.WalkLawsBesides
import Derived.BigQuiet
import Derived.Deep.RegionHeld3
import Derived.Test.YthlogfclgakhkaaDoorLift
import Derived.Test.YthlogfclgakhkaaDoorFixq
import Derived.Test.YthlogfclgakhkaaDoorUnit
namespace Go.Proofs.YthlogfclgakhkaaDoor
open Go.RowKit
set_option maxHeartbeats 400000 in
theorem tbring_any (a : Int) (w : World) :
    Calls Tryd.prog 29 #[.int .i64 a] w (Gives (.int .i64 (bringF a 1 16)) w) := by
  go_enter Tryd.func29, Tryd.ntmps29
  go_wp2
  all_goals (go_ret; refine Gives.refl ?_; simp [bringF]; omega)
def bitF (a : Int) : Int := if a < 0 then 0 else if 63 < a then 0 else 2 ^ a.toNat
theorem wrap_pow (n : Nat) (h : n ≤ 63) : IntKind.u64.wrap ((2 : Int) ^ n) = 2 ^ n := by
  have h2 : (2 : Int) ^ n ≤ 2 ^ 63 := by
    have := Nat.pow_le_pow_right (n := 2) (by omega) h
    exact_mod_cast this
  have h3 : (0 : Int) < 2 ^ n := Int.pow_pos (by omega)
  generalize (2 : Int) ^ n = x at *
  simp [IntKind.wrap, IntKind.min, IntKind.max, IntKind.signed, IntKind.bits]
  omega
set_option maxHeartbeats 400000 in
theorem bit_any (a : Int) (w : World) :
    Calls Tryd.prog 25 #[.int .i64 a] w (Gives (.int .u64 (bitF a)) w) := by
  go_enter Tryd.func25, Tryd.ntmps25
  go_wp2
  all_goals (go_ret; refine Gives.refl ?_; unfold bitF)
  · rw [if_neg (by omega), if_pos (by omega)]; rfl
  · rw [if_neg (by omega), if_neg (by omega)]; show Array.getD _ _ _ = _; simp [wrap_pow a.toNat (by omega)]
  · rw [if_pos (by omega)]; rfl
def hasF (s a : Int) : Bool := decide (0 ≤ a) && (decide (a < 64) && ((s / 2 ^ a.toNat) % 2 == 1))
theorem nat_and_pow (n i : Nat) : n &&& 2 ^ i = (n.testBit i).toNat * 2 ^ i := by
  apply Nat.eq_of_testBit_eq
  intro j
  rw [Nat.testBit_and, Nat.testBit_two_pow]
  cases h : n.testBit i
  · by_cases e : i = j
    · subst e; simp [h]
    · simp [e]
  · by_cases e : i = j
    · subst e; simp [h]
    · simp [e, Nat.testBit_two_pow]
theorem and_bit (s a : Int) (h : U64 s) : (bits BinOp.and IntKind.u64 s (bitF a) != 0) = hasF s a := by
  obtain ⟨h0, h1⟩ := h
  unfold hasF bitF
  by_cases ha : a < 0
  · rw [if_pos ha, u64_and s 0 h0 h1 (by omega) (by omega)]
    have : ¬ 0 ≤ a := by omega
    simp [this]
  · rw [if_neg ha]
    by_cases hb : 63 < a
    · rw [if_pos hb, u64_and s 0 h0 h1 (by omega) (by omega)]
      have : ¬ a < 64 := by omega
      simp [this]
    · rw [if_neg hb]
      obtain ⟨k, rfl⟩ := Int.eq_ofNat_of_zero_le (by omega : 0 ≤ a)
      obtain ⟨n, rfl⟩ := Int.eq_ofNat_of_zero_le h0
      have hk : k ≤ 63 := by omega
      have h2 : (2 : Nat) ^ k ≤ 2 ^ 63 := Nat.pow_le_pow_right (by omega) hk
      have e : ((2 : Int) ^ (k : Int).toNat) = ((2 ^ k : Nat) : Int) := by simp
      rw [e, u64_and_nat _ _ (by omega) (by omega), nat_and_pow, Nat.testBit_eq_decide_div_mod_eq]
      have h4 : (k : Int) < 64 := by omega
      have h5 : (0 : Int) ≤ k := by omega
      have e3 : ((n : Int) / ((2 ^ k : Nat) : Int)) % 2 = ((n / 2 ^ k % 2 : Nat) : Int) := by simp
      rw [e3, decide_eq_true h4, decide_eq_true h5]
      rcases Nat.mod_two_eq_zero_or_one (n / 2 ^ k) with hr | hr
      · simp [hr]
      · have hp : (2 : Nat) ^ k ≠ 0 := Nat.pos_iff_ne_zero.1 (Nat.two_pow_pos k)
        simp [hr]
        exact_mod_cast hp
def mayF (p u s q : Int) : Bool := decide (0 ≤ q) && (p == q) && decide (u < bringF s 1 16)
set_option maxHeartbeats 400000 in
theorem May_any (p u s q : Int) (w : World) :
    Calls Tryd.prog 22 #[.agg #[.int .i64 p, .int .i64 u], .int .i64 s, .int .i64 q] w (Gives (.bool (mayF p u s q)) w) := by
  rcases dec_cases (0 ≤ q) with h1 | h1 <;> rcases beq_cases p q with h2 | h2
  all_goals
    go_enter Tryd.func22, Tryd.ntmps22
    go_wp2_with fail
    refine wp_region_past (by kernel_rfl) (by kernel_rfl) ?_
    repeat (go_big_quiet_step ((first | (go_at_call 29; first | with_reducible exact Calls.in_past (tbring_any _ _) | with_reducible exact Calls.in_past2 (tbring_any _ _)) | (go_at_call 29; first | exact Calls.in_past (tbring_any _ _) | exact Calls.in_past2 (tbring_any _ _)))))
    refine wpQuiet_nil ?_
    rintro _ ⟨_, rfl⟩
    go_wp2
    go_ret
    refine Gives.mk (by simp [mayF, h1, h2]) ?_
    (repeat (first | exact Below.refl _ _ | refine RowKit.Below.past ?_ _ | refine RowKit.Below.alloc' ?_ _ | refine RowKit.Below.drew' ?_ | refine RowKit.Below.drewN' ?_ _ | refine RowKit.Below.setCell' ?_ (by simp [go_sem]) _))
set_option maxHeartbeats 400000 in
theorem Has_any (s a : Int) (w : World) (h : U64 s) :
    Calls Tryd.prog 20 #[.int .u64 s, .int .i64 a] w (Gives (.bool (hasF s a)) w) := by
  rw [← and_bit s a h]
  clear h
  go_enter Tryd.func20, Tryd.ntmps20
  go_wp2_with ((go_at_call 25; refine (bit_any _ _).mono ?_; rintro _ _ ⟨rfl, _, rfl⟩))
  go_ret
  refine Gives.mk rfl ?_
  (repeat (first | exact Below.refl _ _ | refine RowKit.Below.past ?_ _ | refine RowKit.Below.alloc' ?_ _ | refine RowKit.Below.drew' ?_ | refine RowKit.Below.drewN' ?_ _ | refine RowKit.Below.setCell' ?_ (by simp [go_sem]) _))
set_option maxHeartbeats 400000 in
theorem RHas_any (s a : Int) (w : World) (h : U64 s) :
    Calls Tryd.prog 11 #[.int .u64 s, .int .i64 a] w (Gives (.bool (hasF s a)) w) := by
  have h0 : 0 ≤ s := h.1
  clear h
  go_enter Tryd.func11, Tryd.ntmps11
  go_wp2_with (fail)
  all_goals (go_ret; refine Gives.refl ?_; unfold hasF)
  · rw [decide_eq_true (by omega : 0 ≤ a), decide_eq_true (by omega : a < 64)]
    have : 0 ≤ s / 2 ^ a.toNat := Int.ediv_nonneg h0 (Int.pow_nonneg (by omega))
    show Value.bool _ = _
    rw [Int.tmod_eq_emod_of_nonneg this]
    rfl
  · rw [decide_eq_true (by omega : 0 ≤ a), decide_eq_false (by omega : ¬ a < 64)]; rfl
  · rw [decide_eq_false (by omega : ¬ 0 ≤ a)]; rfl
def Out (v : Value) (w : World) (e : Ending) (w' : World) : Prop := Gives v w e w'
def nextP (p u s wt l : Int) : Int := if (wt == 0 || (hasF wt p && mayF p u s p)) = true then p else l
def nextU (p u s wt : Int) : Int := if (wt == 0 || (hasF wt p && mayF p u s p)) = true then u else 0
set_option maxHeartbeats 400000 in
theorem Next_any (p u s wt l : Int) (w : World) (h : U64 wt) :
    Calls Tryd.prog 16 #[.agg #[.int .i64 p, .int .i64 u], .int .i64 s, .int .u64 wt, .int .i64 l] w (Gives (.agg #[.int .i64 (nextP p u s wt l), .int .i64 (nextU p u s wt)]) w) := by
  rcases beq_cases wt 0 with h1 | h1 <;> rcases Bool.eq_false_or_eq_true (hasF wt p) with h2 | h2 <;> rcases Bool.eq_false_or_eq_true (mayF p u s p) with h3 | h3
  all_goals
    have H := hid h
    clear h
    go_enter Tryd.func16, Tryd.ntmps16
    go_wp2_with (first | (go_at_call 20; refine (Has_any _ _ _ H.out).mono ?_; rintro _ _ ⟨rfl, _, rfl⟩) | (go_at_call 22; refine (May_any _ _ _ _ _).mono ?_; rintro _ _ ⟨rfl, _, rfl⟩))
  all_goals first
    | (
      refine bodyPost_ret (v := .agg #[.int .i64 p, .int .i64 u]) ?_ rfl ?_
      · simp [results, Tryd.results16, go_sem]
      · refine Gives.mk (by simp [nextP, nextU, h1, h2, h3]) ?_
        (repeat (first | exact Below.refl _ _ | refine RowKit.Below.past ?_ _ | refine RowKit.Below.alloc' ?_ _ | refine RowKit.Below.drew' ?_ | refine RowKit.Below.drewN' ?_ _ | refine RowKit.Below.setCell' ?_ (by simp [go_sem]) _))
      done)
    | (
      refine bodyPost_ret (v := .agg #[.int .i64 l, .int .i64 0]) ?_ rfl ?_
      · simp [results, Tryd.results16, go_sem]
      · refine Gives.mk (by simp [nextP, nextU, h1, h2, h3]) ?_
        (repeat (first | exact Below.refl _ _ | refine RowKit.Below.past ?_ _ | refine RowKit.Below.alloc' ?_ _ | refine RowKit.Below.drew' ?_ | refine RowKit.Below.drewN' ?_ _ | refine RowKit.Below.setCell' ?_ (by simp [go_sem]) _))
      done)
def endF (u s : Int) : Int := if u < bringF s 1 16 then bringF s 1 16 else u
set_option maxHeartbeats 400000 in
theorem End_any (p u s : Int) (w : World) :
    Calls Tryd.prog 28 #[.agg #[.int .i64 p, .int .i64 u], .int .i64 s] w (Gives (.agg #[.int .i64 p, .int .i64 (endF u s)]) w) := by
  go_enter Tryd.func28, Tryd.ntmps28
  go_wp2_with fail
  go_region_with ((go_at_call 29; refine (tbring_any _ _).mono ?_; rintro _ _ ⟨rfl, _, rfl⟩))
  all_goals go_wp2
  all_goals
    refine bodyPost_ret (v := .agg #[.int .i64 p, .int .i64 (endF u s)]) ?_ rfl ?_
    · simp [results, Tryd.results28, go_sem]; (simp [endF]; omega)
    · refine Gives.mk (rfl) ?_
      (repeat (first | exact Below.refl _ _ | refine RowKit.Below.past ?_ _ | refine RowKit.Below.alloc' ?_ _ | refine RowKit.Below.drew' ?_ | refine RowKit.Below.drewN' ?_ _ | refine RowKit.Below.setCell' ?_ (by simp [go_sem]) _))
def leftF (u s : Int) : Int := bringF s 1 16 - bringF u 0 (bringF s 1 16)
theorem bring_le (s : Int) : 1 ≤ bringF s 1 16 ∧ bringF s 1 16 ≤ 16 := by unfold bringF; split <;> (try split) <;> omega
theorem bring_le2 (u n : Int) (h : 1 ≤ n) : 0 ≤ bringF u 0 n ∧ bringF u 0 n ≤ n := by unfold bringF; split <;> (try split) <;> omega
set_option maxHeartbeats 400000 in
theorem Left_any (p u s : Int) (w : World) (hI : I64 u) :
    Calls Tryd.prog 26 #[.agg #[.int .i64 p, .int .i64 u], .int .i64 s] w (Gives (.int .i64 (leftF u s)) w) := by
  have hb1 := (bring_le s).1
  have hb2 := (bring_le s).2
  have hI2 := hI.2
  clear hI
  have hcase : u < 0 ∨ (0 ≤ u ∧ u ≤ bringF s 1 16) ∨ bringF s 1 16 < u := by omega
  rcases hcase with hu | hu | hu
  · go_enter Tryd.func26, Tryd.ntmps26
    go_wp2_with fail
    refine wp_region_past (by kernel_rfl) (by kernel_rfl) ?_
    repeat (go_big_quiet_step ((first | (go_at_call 29; first | with_reducible exact Calls.in_past (tbring_any _ _) | with_reducible exact Calls.in_past2 (tbring_any _ _)) | (go_at_call 29; first | exact Calls.in_past (tbring_any _ _) | exact Calls.in_past2 (tbring_any _ _)))))
    refine wpQuiet_nil ?_
    rintro _ ⟨_, rfl⟩
    go_wp2
    go_ret
    refine Gives.mk (congrArg (Value.int .i64) ?_) ?_
    · unfold leftF; rw [show bringF u 0 (bringF s 1 16) = 0 from by unfold bringF; rw [if_pos (by omega)]]; omega
    · (repeat (first | exact Below.refl _ _ | refine RowKit.Below.past ?_ _ | refine RowKit.Below.alloc' ?_ _ | refine RowKit.Below.drew' ?_ | refine RowKit.Below.drewN' ?_ _ | refine RowKit.Below.setCell' ?_ (by simp [go_sem]) _))
  · have hv := hu.1
    have hw := hu.2
    clear hu
    go_enter Tryd.func26, Tryd.ntmps26
    go_wp2_with fail
    refine wp_region_past (by kernel_rfl) (by kernel_rfl) ?_
    repeat (go_big_quiet_step ((first | (go_at_call 29; first | with_reducible exact Calls.in_past (tbring_any _ _) | with_reducible exact Calls.in_past2 (tbring_any _ _)) | (go_at_call 29; first | exact Calls.in_past (tbring_any _ _) | exact Calls.in_past2 (tbring_any _ _)))))
    refine wpQuiet_nil ?_
    rintro _ ⟨_, rfl⟩
    go_wp2
    go_ret
    refine Gives.mk (congrArg (Value.int .i64) ?_) ?_
    · unfold leftF; rw [show bringF u 0 (bringF s 1 16) = u from by rw [bringF, if_neg (by omega), if_neg (by omega)]]
    · (repeat (first | exact Below.refl _ _ | refine RowKit.Below.past ?_ _ | refine RowKit.Below.alloc' ?_ _ | refine RowKit.Below.drew' ?_ | refine RowKit.Below.drewN' ?_ _ | refine RowKit.Below.setCell' ?_ (by simp [go_sem]) _))
  · have hz : (0 : Int) < u := by omega
    go_enter Tryd.func26, Tryd.ntmps26
    go_wp2_with fail
    refine wp_region_past (by kernel_rfl) (by kernel_rfl) ?_
    repeat (go_big_quiet_step ((first | (go_at_call 29; first | with_reducible exact Calls.in_past (tbring_any _ _) | with_reducible exact Calls.in_past2 (tbring_any _ _)) | (go_at_call 29; first | exact Calls.in_past (tbring_any _ _) | exact Calls.in_past2 (tbring_any _ _)))))
    refine wpQuiet_nil ?_
    rintro _ ⟨_, rfl⟩
    go_wp2
    go_ret
    refine Gives.mk (congrArg (Value.int .i64) ?_) ?_
    · unfold leftF; rw [show bringF u 0 (bringF s 1 16) = bringF s 1 16 from by rw [bringF, if_neg (by omega), if_pos (by omega)]]; omega
    · (repeat (first | exact Below.refl _ _ | refine RowKit.Below.past ?_ _ | refine RowKit.Below.alloc' ?_ _ | refine RowKit.Below.drew' ?_ | refine RowKit.Below.drewN' ?_ _ | refine RowKit.Below.setCell' ?_ (by simp [go_sem]) _))
set_option maxHeartbeats 400000 in
theorem RLeft_any (p u s : Int) (w : World) :
    Calls Tryd.prog 10 #[.agg #[.int .i64 p, .int .i64 u], .int .i64 s] w (Gives (.int .i64 (leftF u s)) w) := by
  have hb1 := (bring_le s).1
  have hb2 := (bring_le s).2
  have hb3 := (bring_le2 u _ hb1).1
  have hb4 := (bring_le2 u _ hb1).2
  go_enter Tryd.func10, Tryd.ntmps10
  go_wp2_with ((go_at_call 12; refine (Bring_any _ _ _ _).mono ?_; rintro _ _ ⟨rfl, _, rfl⟩))
  go_ret
  refine Gives.mk rfl ?_
  (repeat (first | exact Below.refl _ _ | refine RowKit.Below.past ?_ _ | refine RowKit.Below.alloc' ?_ _ | refine RowKit.Below.drew' ?_ | refine RowKit.Below.drewN' ?_ _ | refine RowKit.Below.setCell' ?_ (by simp [go_sem]) _))
end Go.Proofs.YthlogfclgakhkaaDoor
