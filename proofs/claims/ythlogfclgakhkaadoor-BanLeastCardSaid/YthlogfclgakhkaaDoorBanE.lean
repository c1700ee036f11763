/-
  Layer 21: a number joins a set. No condition.
-/
import Derived.Test.YthlogfclgakhkaaDoorBanD
namespace Go.Proofs.YthlogfclgakhkaaDoor
open Go.RowKit Go.Shelf
attribute [local go_sem] Oper.semAt_some
def withF (s a : Int) : Int := bits BinOp.or IntKind.u64 s (bitF a)
set_option maxHeartbeats 400000 in
theorem With_any (s a : Int) (w : World) : Calls Tryd.prog 18 #[.int .u64 s, .int .i64 a] w (Gives (.int .u64 (withF s a)) w) := by
  go_enter Tryd.func18, Tryd.ntmps18
  go_wp2_with ((go_at_call 25; refine (bit_any _ _).mono ?_; rintro _ _ ⟨rfl, _, rfl⟩))
  go_ret
  refine Gives.mk rfl ?_
  (repeat (first | exact Below.refl _ _ | refine RowKit.Below.past ?_ _ | refine RowKit.Below.alloc' ?_ _ | refine RowKit.Below.drew' ?_ | refine RowKit.Below.drewN' ?_ _ | refine RowKit.Below.setCell' ?_ (by simp [go_sem]) _))
end Go.Proofs.YthlogfclgakhkaaDoor
