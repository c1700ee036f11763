/-
  The walks over layer 19's functions: each returns what a plain function on numbers gives, and leaves what lay there as it was. No condition.
-/
import Derived.Test.YtanidjfhjddgeaaRows
import Derived.WalkKit
import Derived.WalkSpells
import Derived.WalkLawsBesides
import Derived.BigQuiet
import Derived.Deep.RegionHeld3
import Derived.Test.YtanidjfhjddgeaaTurnC
namespace Go.Proofs.Ytanidjfhjddgeaa
open Go.RowKit
theorem may_end (p u s : Int) : mayF p (endF u s) s p = false := by
  unfold mayF endF
  by_cases h : u < bringF s 1 16
  · rw [if_pos h]; simp
  · rw [if_neg h]; simp [h]
theorem left_step (u s : Int) (h0 : 0 ≤ u) (h : 0 < leftF u s) : u < bringF s 1 16 ∧ leftF (u + 1) s = leftF u s - 1 := by
  have hb := bring_le s
  unfold leftF at *
  generalize bringF s 1 16 = b at *
  unfold bringF at *
  repeat' split at h
  all_goals (repeat' split) <;> omega
theorem left_none (u s : Int) (h0 : 0 ≤ u) (h : leftF u s ≤ 0) : bringF s 1 16 ≤ u ∧ leftF u s = 0 := by
  have hb := bring_le s
  unfold leftF at *
  generalize bringF s 1 16 = b at *
  unfold bringF at *
  repeat' split at h
  all_goals (repeat' split) <;> omega
theorem left_small (u s : Int) : 0 ≤ leftF u s ∧ leftF u s ≤ 16 := by
  have hb := bring_le s
  have hc := bring_le2 u _ hb.1
  unfold leftF
  omega
theorem May_is {p u s q : Int} {b : Bool} (h : mayF p u s q = b) (w : World) :
    Calls Try.prog 8 #[.agg #[.int .i64 p, .int .i64 u], .int .i64 s, .int .i64 q] w (Gives (.bool b) w) := h ▸ May_any p u s q w
set_option maxHeartbeats 4000000 in
theorem TurnEnds_any (p u s : Int) (w : World) (hu : I64 u) :
    Calls Try.prog 4 #[.agg #[.int .i64 p, .int .i64 u], .int .i64 s] w (Gives (.bool true) w) := by
  by_cases hg : p < 0 ∨ u < 0 ∨ 1073741824 < u
  · clear hu
    rcases hg with h | h | h
    · have d : decide (p < 0) = true := by simpa using h
      clear h
      go_enter Try.func4, Try.ntmps4
      go_wp2_with ((go_at_call 5; refine (awake_any _).mono ?_; rintro _ _ ⟨rfl, _, rfl⟩))
      go_ret
      refine Gives.mk rfl ?_
      (repeat (first | exact Below.refl _ _ | refine RowKit.Below.past ?_ _ | refine RowKit.Below.alloc' ?_ _ | refine RowKit.Below.drew' ?_ | refine RowKit.Below.drewN' ?_ _ | refine RowKit.Below.setCell' ?_ (by simp [go_sem]) _))
    · rcases dec_cases (p < 0) with d1 | d1
      all_goals
        have d : decide (u < 0) = true := by simpa using h
        clear h
        go_enter Try.func4, Try.ntmps4
        go_wp2_with ((go_at_call 5; refine (awake_any _).mono ?_; rintro _ _ ⟨rfl, _, rfl⟩))
        go_ret
        refine Gives.mk rfl ?_
        (repeat (first | exact Below.refl _ _ | refine RowKit.Below.past ?_ _ | refine RowKit.Below.alloc' ?_ _ | refine RowKit.Below.drew' ?_ | refine RowKit.Below.drewN' ?_ _ | refine RowKit.Below.setCell' ?_ (by simp [go_sem]) _))
    · rcases dec_cases (p < 0) with d1 | d1
      all_goals
        have d : decide (u < 0) = false := by simp; omega
        have d2 : decide (1073741824 < u) = true := by simpa using h
        clear h
        go_enter Try.func4, Try.ntmps4
        go_wp2_with ((go_at_call 5; refine (awake_any _).mono ?_; rintro _ _ ⟨rfl, _, rfl⟩))
        go_ret
        refine Gives.mk rfl ?_
        (repeat (first | exact Below.refl _ _ | refine RowKit.Below.past ?_ _ | refine RowKit.Below.alloc' ?_ _ | refine RowKit.Below.drew' ?_ | refine RowKit.Below.drewN' ?_ _ | refine RowKit.Below.setCell' ?_ (by simp [go_sem]) _))
  · have Hu := hid hu
    clear hu
    have hp : 0 ≤ p := by omega
    have hu0 : 0 ≤ u := by omega
    have hu1 : u ≤ 1073741824 := by omega
    clear hg
    have me := hid (may_end p u s)
    go_enter Try.func4, Try.ntmps4
    go_wp2_with ((go_at_call 5; refine (awake_any _).mono ?_; rintro _ _ ⟨rfl, _, rfl⟩))
    refine wp_region_past (by kernel_rfl) (by kernel_rfl) ?_
    repeat (go_big_quiet_step ((first | (go_at_call 12; first | exact Calls.in_past (End_any _ _ _ _) | exact Calls.in_past2 (End_any _ _ _ _)) | (go_at_call 8; first | exact Calls.in_past (May_is me.out _) | exact Calls.in_past2 (May_is me.out _)))))
    refine wpQuiet_nil ?_
    rintro _ ⟨_, rfl⟩
    go_wp2_with ((go_at_call 14; refine (Left_any _ _ _ _ Hu.out).mono ?_; rintro _ _ ⟨rfl, _, rfl⟩))
    go_loopw [5] (fun n wr => ∃ (u' : Int) (x : Past), wr = (w.alloc (.cells #[.int .i64 p, .int .i64 u'] 23)).past x ∧ 0 ≤ u' ∧ u' + leftF u' s ≤ 1073741850 ∧ n = .int .i64 (leftF u' s)) (fun n _ => (intOf n).toNat)
    case atStart => exact ⟨u, _, rfl, hu0, by have := left_small u s; omega, rfl⟩
    case round =>
      obtain ⟨u', x, rfl, h0, h1, rfl⟩ := hrel
      have hs := (left_small u' s).1
      have HI : Hid (I64 u') := hid ⟨by omega, by have := (left_small u' s).2; omega⟩
      by_cases hlt : 0 < leftF u' s
      · have e := left_step u' s h0 hlt
        have m1 : Hid (mayF p u' s p = true) := hid (by simp [mayF, hp, e.1])
        have m2 : Hid (spendU u' = u' + 1) := hid (by rw [spendU, if_pos (by simp; omega)])
        have m3 := hid e.2
        clear e
        go_wp2_with (first | (go_at_call 8; refine (May_is m1.out _).mono ?_; rintro _ _ ⟨rfl, _, rfl⟩) | (go_at_call 14; refine (Left_any _ _ _ _ HI.out).mono ?_; rintro _ _ ⟨rfl, _, rfl⟩) | (go_at_call 10; refine (Spend_any _ _ _ HI.out).mono ?_; rintro _ _ ⟨rfl, _, rfl⟩))
        go_roundw
        case rel =>
          exact ⟨u' + 1, _, by rw [m2.out], by omega, by have := m3.out; omega, by rw [m3.out]⟩
        case measure => simp [intOf]; omega
      · have e := left_none u' s h0 (by omega)
        have m1 : Hid (mayF p u' s p = false) := hid (by have : ¬ u' < bringF s 1 16 := by omega
                                                         simp [mayF, this])
        have m3 := e.2
        clear e
        go_wp2_with (first | (go_at_call 8; refine (May_is m1.out _).mono ?_; rintro _ _ ⟨rfl, _, rfl⟩) | (go_at_call 14; refine (Left_any _ _ _ _ HI.out).mono ?_; rintro _ _ ⟨rfl, _, rfl⟩))
        go_ret
        refine Gives.mk rfl ?_
        (repeat (first | exact Below.refl _ _ | refine RowKit.Below.past ?_ _ | refine RowKit.Below.alloc' ?_ _ | refine RowKit.Below.drew' ?_ | refine RowKit.Below.drewN' ?_ _ | refine RowKit.Below.setCell' ?_ (by simp [go_sem]) _))
end Go.Proofs.Ytanidjfhjddgeaa
