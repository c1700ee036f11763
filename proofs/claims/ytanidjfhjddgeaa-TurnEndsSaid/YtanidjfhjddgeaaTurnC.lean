/-
  The walks over layer 19's functions: each returns what a plain function on numbers gives, and leaves what lay there as it was. No condition.
-/
import Derived.Test.YtanidjfhjddgeaaRows
import Derived.WalkKit
import Derived.WalkSpells
import Derived.WalkLawsBesides
import Derived.BigQuiet
import Derived.Deep.RegionHeld3
import Derived.Test.YtanidjfhjddgeaaTurnB
namespace Go.Proofs.Ytanidjfhjddgeaa
open Go.RowKit
set_option maxHeartbeats 1000000 in
theorem awake_any (w : World) :
    Calls Try.prog 5 #[] w (Gives (.bool true) w) := by
  have e1 : nextP 1 2 3 6 2 = 1 := by decide
  have e2 : nextU 1 2 3 6 = 2 := by decide
  have e3 : nextP 1 3 3 6 2 = 2 := by decide
  have e4 : nextU 1 3 3 6 = 0 := by decide
  have e5 : spendU 2 = 3 := by decide
  have e6 : leftF 2 3 = 1 := by decide
  have e7 : mayF 1 2 3 1 = true := by decide
  have e8 : mayF 1 3 3 1 = false := by decide
  go_enter Try.func5, Try.ntmps5
  go_wp2_with ((go_at_call 10; refine (Spend_any _ _ _ ⟨by decide, by decide⟩).mono ?_; rintro _ _ ⟨rfl, _, rfl⟩))
  refine wp_region_past (by kernel_rfl) (by kernel_rfl) ?_
  repeat (go_big_quiet_step ((first | (go_at_call 6; first | exact Calls.in_past (Next_any _ _ _ _ _ _ ⟨by decide, by decide⟩) | exact Calls.in_past2 (Next_any _ _ _ _ _ _ ⟨by decide, by decide⟩)) | (go_at_call 14; first | exact Calls.in_past (Left_any _ _ _ _ ⟨by decide, by decide⟩) | exact Calls.in_past2 (Left_any _ _ _ _ ⟨by decide, by decide⟩)) | (go_at_call 8; first | exact Calls.in_past (May_any _ _ _ _ _) | exact Calls.in_past2 (May_any _ _ _ _ _)))))
  refine wpQuiet_nil ?_
  rintro _ ⟨_, rfl⟩
  go_wp2
  go_ret
  refine Gives.mk rfl ?_
  (repeat (first | exact Below.refl _ _ | refine RowKit.Below.past ?_ _ | refine RowKit.Below.alloc' ?_ _ | refine RowKit.Below.drew' ?_ | refine RowKit.Below.drewN' ?_ _ | refine RowKit.Below.setCell' ?_ (by simp [go_sem]) _))
def eqB (x y : Int) : Bool := x == y
set_option maxHeartbeats 4000000 in
theorem TurnCalls_any (p u n0 n1 n2 wt : Int) (w : World) (hw : U64 wt) (hu : I64 u) :
    Calls Try.prog 3 #[.agg #[.int .i64 p, .int .i64 u], .agg #[.int .i64 n0, .int .i64 n1, .int .i64 n2], .int .u64 wt] w (Gives (.bool true) w) := by
  have Hw := hid hw
  have Hu := hid hu
  clear hw hu
  go_enter Try.func3, Try.ntmps3
  go_wp2_with ((go_at_call 5; refine (awake_any _).mono ?_; rintro _ _ ⟨rfl, _, rfl⟩))
  refine wp_region_past (by kernel_rfl) (by kernel_rfl) ?_
  repeat (go_big_quiet_step ((first | (go_at_call 6; first | exact Calls.in_past (Next_any _ _ _ _ _ _ Hw.out) | exact Calls.in_past2 (Next_any _ _ _ _ _ _ Hw.out)) | (go_at_call 7; first | exact Calls.in_past (RNext_any _ _ _ _ _ _ Hw.out) | exact Calls.in_past2 (RNext_any _ _ _ _ _ _ Hw.out)) | (go_at_call 8; first | exact Calls.in_past (May_any _ _ _ _ _) | exact Calls.in_past2 (May_any _ _ _ _ _)) | (go_at_call 9; first | exact Calls.in_past (RMay_any _ _ _ _ _) | exact Calls.in_past2 (RMay_any _ _ _ _ _)) | (go_at_call 10; first | exact Calls.in_past (Spend_any _ _ _ Hu.out) | exact Calls.in_past2 (Spend_any _ _ _ Hu.out)) | (go_at_call 11; first | exact Calls.in_past (RSpend_any _ _ _ Hu.out) | exact Calls.in_past2 (RSpend_any _ _ _ Hu.out)) | (go_at_call 12; first | exact Calls.in_past (End_any _ _ _ _) | exact Calls.in_past2 (End_any _ _ _ _)) | (go_at_call 13; first | exact Calls.in_past (REnd_any _ _ _ _) | exact Calls.in_past2 (REnd_any _ _ _ _)) | (go_at_call 14; first | exact Calls.in_past (Left_any _ _ _ _ Hu.out) | exact Calls.in_past2 (Left_any _ _ _ _ Hu.out)) | (go_at_call 15; first | exact Calls.in_past (RLeft_any _ _ _ _) | exact Calls.in_past2 (RLeft_any _ _ _ _)))))
  refine wpQuiet_nil ?_
  rintro _ ⟨_, rfl⟩
  go_wp2
  go_ret
  refine Gives.mk rfl ?_
  (repeat (first | exact Below.refl _ _ | refine RowKit.Below.past ?_ _ | refine RowKit.Below.alloc' ?_ _ | refine RowKit.Below.drew' ?_ | refine RowKit.Below.drewN' ?_ _ | refine RowKit.Below.setCell' ?_ (by simp [go_sem]) _))
end Go.Proofs.Ytanidjfhjddgeaa
