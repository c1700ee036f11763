/-
  Layer 36: the document's Ran. No condition.
-/
import Derived.Test.YtphlbomcnholhaaGanB
namespace Go.Proofs.Ytphlbomcnholhaa
open Go.RowKit
set_option maxHeartbeats 4000000 in
theorem RRan_any (A : Option Addr) (ca n : Nat) (l : List Ev) (en : l.length = n) (hn : n ≤ 1000) (core time : Int) (w : World) (ha : Cells w A (tab evV l)) :
    Calls Try.prog 7 #[.slice A n ca, .int .i64 core, .int .u64 time] w (Gives (.tuple #[.int .i64 (ranF l core time).1, .bool (ranF l core time).2]) w) := by
  have EN := hid en
  have HA := hid ha
  have HGONE := hid (fun at' h => gone_any A ca n l en hn at' h time w ha)
  have HRAN := hid (ran_at l core time)
  clear en ha
  go_enter Try.func7, Try.ntmps7
  go_wp2
  go_loopw [8, 9] (fun at' i wr => ∃ (k : Nat), i = .int .i64 k ∧ at' = .int .i64 (atF l core time k) ∧ k ≤ n ∧ wr = w) (fun _ i _ => n - (intOf i).toNat)
  case atStart => exact ⟨0, rfl, rfl, by omega, rfl⟩
  case round =>
    obtain ⟨k, rfl, rfl, hk, rfl⟩ := hrel
    by_cases hlt : k < n
    · obtain ⟨b1, o1, rfl, c0, c1, c2, c3, c4⟩ := ev_at HA.out (show k < l.length by rw [EN.out]; exact hlt)
      obtain ⟨e, ee⟩ : ∃ e, ev l k = e := ⟨_, rfl⟩
      have HAT := hid (show atF l core time (k + 1) = if dispF core time e = true then (k : Int) else atF l core time k by rw [atF, ee])
      rw [ee] at c0 c1 c2 c3 c4
      clear ee HGONE HRAN
      generalize atF l core time k = at' at HAT
      obtain ⟨t, kd, a, lk, cn⟩ := e
      simp only at c0 c1 c2 c3 c4
      by_cases d1 : kd = 2
      · subst d1
        by_cases d2 : cn = core
        · subst d2
          by_cases d3 : t ≤ time
          all_goals
            go_wp2
            go_roundw
            case rel => exact ⟨k + 1, by go_num, by rw [HAT.out]; simp [dispF, *], by omega, trivial⟩
            case measure => simp [intOf]; omega
        · have d2' : (cn == core) = false := by simpa using d2
          go_wp2
          go_roundw
          case rel => exact ⟨k + 1, by go_num, by rw [HAT.out]; simp [dispF, *], by omega, trivial⟩
          case measure => simp [intOf]; omega
      · have d1' : (kd == 2) = false := by simpa using d1
        go_wp2
        go_roundw
        case rel => exact ⟨k + 1, by go_num, by rw [HAT.out]; simp [dispF, *], by omega, trivial⟩
        case measure => simp [intOf]; omega
    · obtain rfl : k = n := by omega
      have h := HRAN.out
      rw [EN.out] at h
      rcases at_lt l core time k with e | ⟨i, e, hi⟩
      · rw [e] at h ⊢
        have HR := hid h
        clear h HRAN HGONE e
        go_wp2
        go_ret2
        exact Gives.refl (by rw [HR.out]; rfl)
      · rw [e] at h ⊢
        obtain ⟨b1, o1, rfl, c0, c1, c2, c3, c4⟩ := ev_at HA.out (show i < l.length by rw [EN.out]; exact hi)
        obtain ⟨a, ea⟩ : ∃ a, (ev l i).a = a := ⟨_, rfl⟩
        have hg := HGONE.out i hi
        obtain ⟨r, hr⟩ : ∃ r, goneF l i time = r := ⟨_, rfl⟩
        rw [hr] at hg
        simp only [Int.ofNat_eq_natCast, ea, hr] at h
        rw [ea] at c2
        have HR := hid h
        have HGN := hid hg
        clear h HRAN HGONE e hr hg c0 c1 c3 c4 ea
        by_cases q1 : a < 0
        · go_wp2
          go_ret2
          exact Gives.refl (by rw [HR.out]; simp [q1])
        · by_cases q2 : 63 < a
          · go_wp2
            go_ret2
            exact Gives.refl (by rw [HR.out]; simp [q1, q2])
          · cases r
            all_goals
              go_wp2_with (go_at_call 14; refine HGN.out.mono ?_; rintro _ _ ⟨rfl, _, rfl⟩)
              go_ret2
              refine Gives.mk (by rw [HR.out]; simp [q1, q2]; try (rw [if_neg (by omega)]; simp)) ?_
              (repeat (first | exact Below.refl _ _ | refine RowKit.Below.past ?_ _ | refine RowKit.Below.alloc' ?_ _ | refine RowKit.Below.drew' ?_ | refine RowKit.Below.drewN' ?_ _ | refine RowKit.Below.setCell' ?_ (by simp [go_sem]) _))
end Go.Proofs.Ytphlbomcnholhaa
