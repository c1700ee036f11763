/-
  The walks over layer 15: what ticks cost, and where a number is brought. No condition.
-/
import Derived.Test.YthlogfclgakhkaaDoorDigA
import Derived.BigQuiet
namespace Go.Proofs.YthlogfclgakhkaaDoor
open Go.RowKit
def bringF (x lo hi : Int) : Int := if x < lo then lo else if x > hi then hi else x
theorem bring_in (x lo hi : Int) (h : lo ≤ hi) : lo ≤ bringF x lo hi ∧ bringF x lo hi ≤ hi := by unfold bringF; split <;> (try split) <;> omega
set_option maxHeartbeats 400000 in
theorem Bring_any (a lo hi : Int) (w : World) :
    Calls Tryd.prog 12 #[.int .i64 a, .int .i64 lo, .int .i64 hi] w (Gives (.int .i64 (bringF a lo hi)) w) := by
  go_enter Tryd.func12, Tryd.ntmps12
  go_wp2
  all_goals (go_ret; refine Gives.refl ?_; simp [bringF]; omega)
set_option maxHeartbeats 400000 in
theorem bring_any (a lo hi : Int) (h0 : 0 ≤ lo) (h1 : lo ≤ hi) (h2 : hi ≤ 4294967296) (w : World) :
    Calls Tryd.prog 34 #[.int .i64 a, .int .i64 lo, .int .i64 hi] w (Gives (.int .u64 (bringF a lo hi)) w) := by
  go_enter Tryd.func34, Tryd.ntmps34
  go_wp2
  all_goals (go_ret; refine Gives.refl ?_; simp [bringF]; omega)
def coreF (n : Int) : Int := 1099511627776 / bringF n 1 4096
def lockF (n : Int) : Int := 720720 / bringF n 1 16
theorem quo_of {c b : Int} (hc : 0 ≤ c) (hc2 : c ≤ 1099511627776) (hb : 1 ≤ b) : IntKind.u64.wrap (c.tdiv b) = c / b ∧ 0 ≤ c / b ∧ c / b ≤ c := by
  have a := Int.ediv_nonneg hc (show 0 ≤ b by omega)
  have d := Int.ediv_le_self b hc
  refine ⟨?_, a, d⟩
  rw [Int.tdiv_eq_ediv_of_nonneg hc, IntKind.wrap_u64]
  omega
theorem core_in (n : Int) : 0 ≤ coreF n ∧ coreF n ≤ 1099511627776 := (quo_of (by omega) (by omega) (bring_in n 1 4096 (by omega)).1).2
theorem lock_in (n : Int) : 0 ≤ lockF n ∧ lockF n ≤ 720720 := (quo_of (by omega) (by omega) (bring_in n 1 16 (by omega)).1).2
set_option maxHeartbeats 400000 in
theorem Lock_any (n : Int) (w : World) : Calls Tryd.prog 31 #[.int .i64 n] w (Gives (.int .u64 (lockF n)) w) := by
  have hb := (bring_in n 1 16 (by omega)).1
  have e : IntKind.u64.wrap (Int.tdiv 720720 (bringF n 1 16)) = lockF n := (quo_of (by omega) (by omega) hb).1
  have hz : ¬ bringF n 1 16 = 0 := by omega
  clear hb
  go_enter Tryd.func31, Tryd.ntmps31
  go_wp2_with ((go_at_call 34; refine (bring_any _ _ _ (by omega) (by omega) (by omega) _).mono ?_; rintro _ _ ⟨rfl, _, rfl⟩))
  go_ret
  refine Gives.mk rfl ?_
  (repeat (first | exact Below.refl _ _ | refine RowKit.Below.past ?_ _ | refine RowKit.Below.alloc' ?_ _ | refine RowKit.Below.drew' ?_ | refine RowKit.Below.drewN' ?_ _ | refine RowKit.Below.setCell' ?_ (by simp [go_sem]) _))
def reachF (n g : Int) : Int := IntKind.u64.wrap (coreF n * bringF g 1 8)
def slackF (n s c : Int) : Int := IntKind.u64.wrap (lockF n * (bringF s 1 32 + bringF c 1 32))
def clampF (v f r : Int) : Int := if decide (v < f) then f else if decide (addF f r < v) then addF f r else v
theorem add_ge {f r : Int} (hf : U64 f) (hr : U64 r) : f ≤ addF f r ∧ U64 (addF f r) := by
  rw [(add_val hf hr).1]
  have h0 := hr.1; have h1 := hf.1; have h2 := hf.2
  split
  · exact ⟨by omega, by omega, by omega⟩
  · exact ⟨by omega, by omega, by omega⟩
end Go.Proofs.YthlogfclgakhkaaDoor
