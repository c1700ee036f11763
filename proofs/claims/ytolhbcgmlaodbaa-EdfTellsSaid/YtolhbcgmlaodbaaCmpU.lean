/-
  cmp.Compare of uint64s; cmp.Or of ints. No condition.
-/
import Derived.Test.YtolhbcgmlaodbaaCmpI
import Derived.Test.YtolhbcgmlaodbaaAppC
namespace Go.Proofs.Ytolhbcgmlaodbaa
open Go.RowKit
theorem nanU_any (a : Int) (w : World) : Calls Try.prog 46 #[.int .u64 a] w (fun e w' => e = .returned (.bool false) ∧ w' = w) := by
  go_enter Try.func46, Try.ntmps46
  go_wp2
  go_ret
  exact ⟨by simp, rfl⟩
set_option maxHeartbeats 1000000 in
theorem compareU_any (a b : Int) (w : World) : Calls Try.prog 44 #[.int .u64 a, .int .u64 b] w (fun e w' => e = .returned (.int .i64 (cmpI a b)) ∧ w' = w) := by
  rcases Int.lt_trichotomy a b with h | h | h
  · have HE := hid (show cmpI a b = -1 from if_pos h)
    go_enter Try.func44, Try.ntmps44
    go_wp2_with (go_at_call 46; refine (nanU_any _ _).mono ?_; rintro _ _ ⟨rfl, rfl⟩)
    go_ret
    exact ⟨by rw [HE.out]; rfl, rfl⟩
  · subst h
    have HE := hid (show cmpI a a = 0 by unfold cmpI; rw [if_neg (by omega), if_neg (by omega)])
    go_enter Try.func44, Try.ntmps44
    go_wp2_with (go_at_call 46; refine (nanU_any _ _).mono ?_; rintro _ _ ⟨rfl, rfl⟩)
    go_ret
    exact ⟨by rw [HE.out]; rfl, rfl⟩
  · have h2 : ¬ a < b := by omega
    have HE := hid (show cmpI a b = 1 by unfold cmpI; rw [if_neg h2, if_pos h])
    go_enter Try.func44, Try.ntmps44
    go_wp2_with (go_at_call 46; refine (nanU_any _ _).mono ?_; rintro _ _ ⟨rfl, rfl⟩)
    go_ret
    exact ⟨by rw [HE.out]; rfl, rfl⟩
def orI (a b : Int) : Int := if a = 0 then b else a
def natC : Value → Nat | .int _ z => z.toNat | _ => 0
set_option maxHeartbeats 1000000 in
theorem or_any (g : Nat) (a b : Int) (w : World) (h0 : w.cell? ⟨g, 0, none⟩ = some (.int .i64 a)) (h1 : w.cell? ⟨g, 1, none⟩ = some (.int .i64 b)) : Calls Try.prog 43 #[.slice (some ⟨g, 0, none⟩) 2 2] w (fun e w' => e = .returned (.int .i64 (orI a b)) ∧ w' = w) := by
  go_enter Try.func43, Try.ntmps43
  go_wp2
  go_loop [5, 8] (fun _ i => ∃ k : Nat, i = .int .i64 k ∧ k ≤ 2 ∧ Hid (1 ≤ k → a = 0) ∧ Hid (2 ≤ k → b = 0)) (fun _ i => 2 - natC i)
  case atStart => exact ⟨0, rfl, by omega, hid (by omega), hid (by omega)⟩
  case round =>
    obtain ⟨k, rfl, hk, H1, H2⟩ := hrel
    have hk3 : k = 0 ∨ k = 1 ∨ k = 2 := by omega
    rcases hk3 with rfl | rfl | rfl
    · by_cases ha : a = 0
      · have ha2 : (a != 0) = false := by simpa using ha
        have HA := hid ha
        clear ha H1 H2
        go_wp2
        go_round
        case rel => exact ⟨1, rfl, by omega, hid (fun _ => HA.out), hid (by omega)⟩
        case measure => simp [natC]
      · have ha2 : (a != 0) = true := by simpa using ha
        have HE := hid (show orI a b = a from if_neg ha)
        clear ha H1 H2
        go_wp2
        go_ret
        exact ⟨by rw [HE.out]; rfl, rfl⟩
    · have HA := hid (H1.out (by omega))
      by_cases hb : b = 0
      · have hb2 : (b != 0) = false := by simpa using hb
        have HB := hid hb
        clear hb H1 H2
        go_wp2
        go_round
        case rel => exact ⟨2, rfl, by omega, hid (fun _ => HA.out), hid (fun _ => HB.out)⟩
        case measure => simp [natC]
      · have hb2 : (b != 0) = true := by simpa using hb
        have HE := hid (show orI a b = b from if_pos HA.out)
        clear hb H1 H2
        go_wp2
        go_ret
        exact ⟨by rw [HE.out]; rfl, rfl⟩
    · have HE := hid (show orI a b = 0 by unfold orI; rw [if_pos (H1.out (by omega)), H2.out (by omega)])
      clear H1 H2
      go_wp2
      go_ret
      exact ⟨by rw [HE.out]; rfl, rfl⟩
end Go.Proofs.Ytolhbcgmlaodbaa
