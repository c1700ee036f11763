/-
  The walks over layer 19's functions: each returns what a plain function on numbers gives, and leaves what lay there as it was. No condition.
-/
import Derived.Test.YtanidjfhjddgeaaRows
import Derived.WalkKit
import Derived.WalkSpells
import Derived.WalkLawsBesides
import Derived.BigQuiet
import Derived.Deep.RegionHeld3
import Derived.Test.YtanidjfhjddgeaaTurnA
namespace Go.Proofs.Ytanidjfhjddgeaa
open Go.RowKit
def endF (u s : Int) : Int := if u < bringF s 1 16 then bringF s 1 16 else u
set_option maxHeartbeats 400000 in
theorem End_any (p u s : Int) (w : World) :
    Calls Try.prog 12 #[.agg #[.int .i64 p, .int .i64 u], .int .i64 s] w (Gives (.agg #[.int .i64 p, .int .i64 (endF u s)]) w) := by
  go_enter Try.func12, Try.ntmps12
  go_wp2_with fail
  go_region_with ((go_at_call 18; refine (bring_any _ _).mono ?_; rintro _ _ ⟨rfl, _, rfl⟩))
  all_goals go_wp2
  all_goals
    refine bodyPost_ret (v := .agg #[.int .i64 p, .int .i64 (endF u s)]) ?_ rfl ?_
    · simp [results, Try.results12, go_sem]; (simp [endF]; omega)
    · refine Gives.mk (rfl) ?_
      (repeat (first | exact Below.refl _ _ | refine RowKit.Below.past ?_ _ | refine RowKit.Below.alloc' ?_ _ | refine RowKit.Below.drew' ?_ | refine RowKit.Below.drewN' ?_ _ | refine RowKit.Below.setCell' ?_ (by simp [go_sem]) _))
set_option maxHeartbeats 400000 in
theorem REnd_any (p u s : Int) (w : World) :
    Calls Try.prog 13 #[.agg #[.int .i64 p, .int .i64 u], .int .i64 s] w (Gives (.agg #[.int .i64 p, .int .i64 (endF u s)]) w) := by
  rcases dec_cases (u < bringF s 1 16) with h1 | h1
  all_goals
    go_enter Try.func13, Try.ntmps13
    go_wp2_with ((go_at_call 19; refine (Bring_any _ _ _ _).mono ?_; rintro _ _ ⟨rfl, _, rfl⟩))
  · refine bodyPost_ret (v := .agg #[.int .i64 p, .int .i64 (bringF s 1 16)]) ?_ rfl ?_
    · simp [results, Try.results13, go_sem]
    · refine Gives.mk (by simp at h1; rw [endF]; split <;> first | rfl | omega) ?_
      (repeat (first | exact Below.refl _ _ | refine RowKit.Below.past ?_ _ | refine RowKit.Below.alloc' ?_ _ | refine RowKit.Below.drew' ?_ | refine RowKit.Below.drewN' ?_ _ | refine RowKit.Below.setCell' ?_ (by simp [go_sem]) _))
  · refine bodyPost_ret (v := .agg #[.int .i64 p, .int .i64 u]) ?_ rfl ?_
    · simp [results, Try.results13, go_sem]
    · refine Gives.mk (by simp at h1; rw [endF]; split <;> first | rfl | omega) ?_
      (repeat (first | exact Below.refl _ _ | refine RowKit.Below.past ?_ _ | refine RowKit.Below.alloc' ?_ _ | refine RowKit.Below.drew' ?_ | refine RowKit.Below.drewN' ?_ _ | refine RowKit.Below.setCell' ?_ (by simp [go_sem]) _))
def leftF (u s : Int) : Int := bringF s 1 16 - bringF u 0 (bringF s 1 16)
theorem bring_le (s : Int) : 1 ≤ bringF s 1 16 ∧ bringF s 1 16 ≤ 16 := by unfold bringF; split <;> (try split) <;> omega
theorem bring_le2 (u n : Int) (h : 1 ≤ n) : 0 ≤ bringF u 0 n ∧ bringF u 0 n ≤ n := by unfold bringF; split <;> (try split) <;> omega
set_option maxHeartbeats 400000 in
theorem Left_any (p u s : Int) (w : World) (hI : I64 u) :
    Calls Try.prog 14 #[.agg #[.int .i64 p, .int .i64 u], .int .i64 s] w (Gives (.int .i64 (leftF u s)) w) := by
  have hb1 := (bring_le s).1
  have hb2 := (bring_le s).2
  have hI2 := hI.2
  clear hI
  have hcase : u < 0 ∨ (0 ≤ u ∧ u ≤ bringF s 1 16) ∨ bringF s 1 16 < u := by omega
  rcases hcase with hu | hu | hu
  · go_enter Try.func14, Try.ntmps14
    go_wp2_with fail
    refine wp_region_past (by kernel_rfl) (by kernel_rfl) ?_
    repeat (go_big_quiet_step (((go_at_call 18; first | exact Calls.in_past (bring_any _ _) | exact Calls.in_past2 (bring_any _ _)))))
    refine wpQuiet_nil ?_
    rintro _ ⟨_, rfl⟩
    go_wp2
    go_ret
    refine Gives.mk (congrArg (Value.int .i64) ?_) ?_
    · unfold leftF; rw [show bringF u 0 (bringF s 1 16) = 0 from by unfold bringF; rw [if_pos (by omega)]]; omega
    · (repeat (first | exact Below.refl _ _ | refine RowKit.Below.past ?_ _ | refine RowKit.Below.alloc' ?_ _ | refine RowKit.Below.drew' ?_ | refine RowKit.Below.drewN' ?_ _ | refine RowKit.Below.setCell' ?_ (by simp [go_sem]) _))
  · have hv := hu.1
    have hw := hu.2
    clear hu
    go_enter Try.func14, Try.ntmps14
    go_wp2_with fail
    refine wp_region_past (by kernel_rfl) (by kernel_rfl) ?_
    repeat (go_big_quiet_step (((go_at_call 18; first | exact Calls.in_past (bring_any _ _) | exact Calls.in_past2 (bring_any _ _)))))
    refine wpQuiet_nil ?_
    rintro _ ⟨_, rfl⟩
    go_wp2
    go_ret
    refine Gives.mk (congrArg (Value.int .i64) ?_) ?_
    · unfold leftF; rw [show bringF u 0 (bringF s 1 16) = u from by rw [bringF, if_neg (by omega), if_neg (by omega)]]
    · (repeat (first | exact Below.refl _ _ | refine RowKit.Below.past ?_ _ | refine RowKit.Below.alloc' ?_ _ | refine RowKit.Below.drew' ?_ | refine RowKit.Below.drewN' ?_ _ | refine RowKit.Below.setCell' ?_ (by simp [go_sem]) _))
  · have hz : (0 : Int) < u := by omega
    go_enter Try.func14, Try.ntmps14
    go_wp2_with fail
    refine wp_region_past (by kernel_rfl) (by kernel_rfl) ?_
    repeat (go_big_quiet_step (((go_at_call 18; first | exact Calls.in_past (bring_any _ _) | exact Calls.in_past2 (bring_any _ _)))))
    refine wpQuiet_nil ?_
    rintro _ ⟨_, rfl⟩
    go_wp2
    go_ret
    refine Gives.mk (congrArg (Value.int .i64) ?_) ?_
    · unfold leftF; rw [show bringF u 0 (bringF s 1 16) = bringF s 1 16 from by rw [bringF, if_neg (by omega), if_pos (by omega)]]; omega
    · (repeat (first | exact Below.refl _ _ | refine RowKit.Below.past ?_ _ | refine RowKit.Below.alloc' ?_ _ | refine RowKit.Below.drew' ?_ | refine RowKit.Below.drewN' ?_ _ | refine RowKit.Below.setCell' ?_ (by simp [go_sem]) _))
set_option maxHeartbeats 400000 in
theorem RLeft_any (p u s : Int) (w : World) :
    Calls Try.prog 15 #[.agg #[.int .i64 p, .int .i64 u], .int .i64 s] w (Gives (.int .i64 (leftF u s)) w) := by
  have hb1 := (bring_le s).1
  have hb2 := (bring_le s).2
  have hb3 := (bring_le2 u _ hb1).1
  have hb4 := (bring_le2 u _ hb1).2
  go_enter Try.func15, Try.ntmps15
  go_wp2_with ((go_at_call 19; refine (Bring_any _ _ _ _).mono ?_; rintro _ _ ⟨rfl, _, rfl⟩))
  go_ret
  refine Gives.mk rfl ?_
  (repeat (first | exact Below.refl _ _ | refine RowKit.Below.past ?_ _ | refine RowKit.Below.alloc' ?_ _ | refine RowKit.Below.drew' ?_ | refine RowKit.Below.drewN' ?_ _ | refine RowKit.Below.setCell' ?_ (by simp [go_sem]) _))
end Go.Proofs.Ytanidjfhjddgeaa
