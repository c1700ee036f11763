/-
  Layer 1's awake. No condition.
-/
import Derived.Test.YtpihkagmkmjfpaaNearL
import Derived.Test.YtpihkagmkmjfpaaDivB
namespace Go.Proofs.Ytpihkagmkmjfpaa
open Go.RowKit
set_option maxHeartbeats 1000000 in
theorem awake_any (w : World) : Calls Try.prog 8 #[] w (Gives (.bool true) w) := by
  have e1 : mdF 9223372036854775808 6 4 = 13835058055282163712 := by decide
  have e2 : mdE 9223372036854775808 6 4 = 0 := by decide
  have e3 : addF 9223372036854775808 9223372036854775808 = 18446744073709551615 := by decide
  have e4 : addE 9223372036854775808 9223372036854775808 = 2 := by decide
  have e5 : nearF 5 1 11 2 1 = true := by decide
  go_enter Try.func8, Try.ntmps8
  go_wp2_with (first | (go_at_call 19; refine (MulDiv_any _ _ _ ⟨by decide, by decide⟩ ⟨by decide, by decide⟩ ⟨by decide, by decide⟩ _).mono ?_; rintro _ _ ⟨rfl, _, rfl⟩) | (go_at_call 9; refine (Add_any _ _ ⟨by decide, by decide⟩ ⟨by decide, by decide⟩ _).mono ?_; rintro _ _ ⟨rfl, _, rfl⟩) | (go_at_call 10; refine (Near_any _ _ _ _ _ ⟨by decide, by decide⟩ ⟨by decide, by decide⟩ ⟨by decide, by decide⟩ ⟨by decide, by decide⟩ ⟨by decide, by decide⟩ _).mono ?_; rintro _ _ ⟨rfl, _, rfl⟩))
  go_ret
  refine Gives.mk rfl ?_
  (repeat (first | exact Below.refl _ _ | refine RowKit.Below.past ?_ _ | refine RowKit.Below.alloc' ?_ _ | refine RowKit.Below.drew' ?_ | refine RowKit.Below.drewN' ?_ _ | refine RowKit.Below.setCell' ?_ (by simp [go_sem]) _))
end Go.Proofs.Ytpihkagmkmjfpaa
