/-
  cmp.Compare of integers. No condition.
-/
import Derived.Test.YtolhbcgmlaodbaaLift
import Derived.Test.YtolhbcgmlaodbaaRows
import Derived.WalkKit
import Derived.WalkSpells
import Derived.BigQuiet
namespace Go.Proofs.Ytolhbcgmlaodbaa
open Go.RowKit
theorem nan_any (a : Int) (w : World) : Calls Try.prog 47 #[.int .i64 a] w (fun e w' => e = .returned (.bool false) ∧ w' = w) := by
  go_enter Try.func47, Try.ntmps47
  go_wp2
  go_ret
  exact ⟨by simp, rfl⟩
def cmpI (a b : Int) : Int := if a < b then -1 else if b < a then 1 else 0
set_option maxHeartbeats 1000000 in
theorem compare_any (a b : Int) (w : World) : Calls Try.prog 45 #[.int .i64 a, .int .i64 b] w (fun e w' => e = .returned (.int .i64 (cmpI a b)) ∧ w' = w) := by
  rcases Int.lt_trichotomy a b with h | h | h
  · have HE := hid (show cmpI a b = -1 from if_pos h)
    go_enter Try.func45, Try.ntmps45
    go_wp2_with (go_at_call 47; refine (nan_any _ _).mono ?_; rintro _ _ ⟨rfl, rfl⟩)
    go_ret
    exact ⟨by rw [HE.out]; rfl, rfl⟩
  · subst h
    have HE := hid (show cmpI a a = 0 by unfold cmpI; rw [if_neg (by omega), if_neg (by omega)])
    go_enter Try.func45, Try.ntmps45
    go_wp2_with (go_at_call 47; refine (nan_any _ _).mono ?_; rintro _ _ ⟨rfl, rfl⟩)
    go_ret
    exact ⟨by rw [HE.out]; rfl, rfl⟩
  · have h2 : ¬ a < b := by omega
    have HE := hid (show cmpI a b = 1 by unfold cmpI; rw [if_neg h2, if_pos h])
    go_enter Try.func45, Try.ntmps45
    go_wp2_with (go_at_call 47; refine (nan_any _ _).mono ?_; rintro _ _ ⟨rfl, rfl⟩)
    go_ret
    exact ⟨by rw [HE.out]; rfl, rfl⟩
theorem compare_gives (a b : Int) (w : World) : Calls Try.prog 45 #[.int .i64 a, .int .i64 b] w (Gives (.int .i64 (cmpI a b)) w) :=
  (compare_any a b w).mono fun _ _ ⟨h1, h2⟩ => by subst h2; subst h1; exact Gives.refl rfl
end Go.Proofs.Ytolhbcgmlaodbaa
