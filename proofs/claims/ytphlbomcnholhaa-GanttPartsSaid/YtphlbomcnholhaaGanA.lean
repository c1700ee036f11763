/-
  Layer 36: who ran when, of events: both programs give the same. No condition.
-/
import Derived.Test.YtphlbomcnholhaaGanS
import Derived.Test.YtphlbomcnholhaaShelf
import Derived.BigQuiet
namespace Go.Proofs.Ytphlbomcnholhaa
open Go.RowKit
def signC : ByteArray := ⟨#[48, 49, 50, 51, 52, 53, 54, 55, 56, 57, 97, 98, 99, 100, 101, 102, 103, 104, 105, 106, 107, 108, 109, 110, 111, 112, 113, 114, 115, 116, 117, 118, 119, 120, 121, 122, 65, 66, 67, 68, 69, 70, 71, 72, 73, 74, 75, 76, 77, 78, 79, 80, 81, 82, 83, 84, 85, 86, 87, 88, 89, 90, 43, 45]⟩
def signS (task : Int) : ByteArray := if task < 0 ∨ 64 ≤ task then ⟨#[63]⟩ else signC.extract task.toNat (task.toNat + 1)
theorem Sign_any (task : Int) (w : World) : Calls Try.prog 10 #[.int .i64 task] w (Gives (.string (signS task)) w) := by
  by_cases h1 : task < 0
  · go_enter Try.func10, Try.ntmps10
    go_wp2
    go_ret
    exact Gives.refl (by unfold signS; rw [if_pos (.inl h1)]; rfl)
  · by_cases h2 : 64 ≤ task
    · go_enter Try.func10, Try.ntmps10
      go_wp2
      go_ret
      exact Gives.refl (by unfold signS; rw [if_pos (.inr h2)]; rfl)
    · obtain ⟨n, rfl⟩ := Int.eq_ofNat_of_zero_le (show 0 ≤ task by omega)
      have e1 : IntKind.i64.wrap ((n : Int) + 1) = (n : Int) + 1 := by rw [IntKind.wrap_i64]; omega
      go_enter Try.func10, Try.ntmps10
      go_wp2
      go_ret
      exact Gives.refl (by unfold signS; rw [if_neg (by omega)]; rfl)
theorem RSign_any (task : Int) (w : World) : Calls Try.prog 11 #[.int .i64 task] w (Gives (.string (signS task)) w) := by
  by_cases h1 : task < 0
  · go_enter Try.func11, Try.ntmps11
    go_wp2
    go_ret
    exact Gives.refl (by unfold signS; rw [if_pos (.inl h1)]; rfl)
  · by_cases h2 : 63 < task
    · go_enter Try.func11, Try.ntmps11
      go_wp2
      go_ret
      exact Gives.refl (by unfold signS; rw [if_pos (.inr (by omega))]; rfl)
    · obtain ⟨n, rfl⟩ := Int.eq_ofNat_of_zero_le (show 0 ≤ task by omega)
      have e1 : IntKind.i64.wrap ((n : Int) + 1) = (n : Int) + 1 := by rw [IntKind.wrap_i64]; omega
      go_enter Try.func11, Try.ntmps11
      go_wp2
      go_ret
      exact Gives.refl (by unfold signS; rw [if_neg (by omega)]; rfl)
theorem cont_any (k : Int) (wa : World) (g : Nat) (hg : g = wa.heap.size) : Calls Try.prog 18 #[.slice (some ⟨g, 0, none⟩) 4 4, .int .i64 k] (wa.alloc (.cells #[.int .i64 10, .int .i64 6, .int .i64 9, .int .i64 11] 3))
    (Gives (.bool ([10, 6, 9, 11].contains k)) (wa.alloc (.cells #[.int .i64 10, .int .i64 6, .int .i64 9, .int .i64 11] 3))) := by
  subst hg
  refine (Try.slices_Contains_int wa.heap.size 0 4 4 [10, 6, 9, 11] k _ (by simp) (by omega) (fun j hj => ?_)).mono ?_
  · simp only [List.length_cons, List.length_nil] at hj
    rw [Nat.zero_add, World.cell?_alloc_new]
    match j, hj with
    | 0, _ => rfl
    | 1, _ => rfl
    | 2, _ => rfl
    | 3, _ => rfl
  · rintro _ _ ⟨rfl, rfl⟩
    exact Gives.refl rfl
theorem ends_any (e : Ev) (time : Int) (w : World) : Calls Try.prog 13 #[.agg #[.int .u64 e.t, .int .i64 e.k, .int .i64 e.a, .int .i64 e.lk, .int .i64 e.n], .int .u64 time] w (Gives (.bool (endsF e time)) w) := by
  obtain ⟨t, k, a, lk, n⟩ := e
  by_cases h1 : k = 3
  · subst h1
    rcases dec_cases (t ≤ time) with h2 | h2
    all_goals
      go_enter Try.func13, Try.ntmps13
      go_wp2
      go_ret
      refine Gives.mk (by simp only [endsF, h2]; rfl) ?_
      (repeat (first | exact Below.refl _ _ | refine RowKit.Below.past ?_ _ | refine RowKit.Below.alloc' ?_ _ | refine RowKit.Below.drew' ?_ | refine RowKit.Below.drewN' ?_ _ | refine RowKit.Below.setCell' ?_ (by simp [go_sem]) _))
  · have hk : (k == 3) = false := by simpa using h1
    rcases dec_cases (t < time) with h2 | h2
    · go_enter Try.func13, Try.ntmps13
      go_wp2_with (go_at_call 18; refine (cont_any k _ _ (by simp)).mono ?_; rintro _ _ ⟨rfl, _, rfl⟩)
      go_ret
      refine Gives.mk (by simp [endsF, h2, h1]) ?_
      (repeat (first | exact Below.refl _ _ | refine RowKit.Below.past ?_ _ | refine RowKit.Below.alloc' ?_ _ | refine RowKit.Below.drew' ?_ | refine RowKit.Below.drewN' ?_ _ | refine RowKit.Below.setCell' ?_ (by simp [go_sem]) _))
    · go_enter Try.func13, Try.ntmps13
      go_wp2
      go_ret
      refine Gives.mk (by simp only [endsF, h2]; rw [if_neg h1]; rfl) ?_
      (repeat (first | exact Below.refl _ _ | refine RowKit.Below.past ?_ _ | refine RowKit.Below.alloc' ?_ _ | refine RowKit.Below.drew' ?_ | refine RowKit.Below.drewN' ?_ _ | refine RowKit.Below.setCell' ?_ (by simp [go_sem]) _))
set_option maxHeartbeats 4000000 in
theorem Ran_any (A : Option Addr) (ca n : Nat) (l : List Ev) (en : l.length = n) (hn : n ≤ 1000) (core time : Int) (w : World) (ha : Cells w A (tab evV l)) :
    Calls Try.prog 6 #[.slice A n ca, .int .i64 core, .int .u64 time] w (Gives (.tuple #[.int .i64 (ranF l core time).1, .bool (ranF l core time).2]) w) := by
  have EN := hid en
  have HA := hid ha
  clear en ha
  go_enter Try.func6, Try.ntmps6
  go_wp2
  go_loopw [8, 9, 14] (fun who ok i wr => ∃ (k : Nat) (s : Int) (b : Bool), i = .int .i64 k ∧ who = .int .i64 s ∧ ok = .bool b ∧ k ≤ n ∧ Hid (Below w.heap.size w wr) ∧ Hid (stF l core time k = (s, b))) (fun _ _ i _ => n - (intOf i).toNat)
  case atStart => exact ⟨0, -1, false, rfl, rfl, rfl, by omega, hid (Below.refl _ _), hid rfl⟩
  case round =>
    obtain ⟨k, s, b, rfl, rfl, rfl, hk, HB, HS⟩ := hrel
    by_cases hlt : k < n
    · obtain ⟨b1, o1, rfl, c0, c1, c2, c3, c4⟩ := ev_at (HA.out.below HB.out) (show k < l.length by rw [EN.out]; exact hlt)
      have HST := hid (show stF l core time (k + 1) = stepF core time (s, b) (ev l k) by rw [stF, HS.out])
      have HE := fun w => ends_any (ev l k) time w
      generalize ev l k = e at c0 c1 c2 c3 c4 HST HE
      obtain ⟨r, hr⟩ : ∃ r, endsF e time = r := ⟨_, rfl⟩
      rw [hr] at HE
      have HR := hid hr
      obtain ⟨t, kd, a, lk, cn⟩ := e
      have HEE := hid (show ∀ w, Calls Try.prog 13 #[.agg #[.int .u64 t, .int .i64 kd, .int .i64 a, .int .i64 lk, .int .i64 cn], .int .u64 time] w (Gives (.bool r) w) from HE)
      clear HE HS hr
      simp only at c0 c1 c2 c3 c4
      by_cases d1 : kd = 2
      · subst d1
        by_cases d2 : cn = core
        · subst d2
          by_cases d3 : t ≤ time
          · go_wp2_with (go_at_call 13; (with_reducible refine (HEE.out _).mono ?_); rintro _ _ ⟨rfl, _, rfl⟩)
            go_roundw
            case rel => exact ⟨k + 1, _, _, by go_num, rfl, rfl, by omega, hid (by repeat (first | exact HB.out | refine RowKit.Below.past ?_ _ | refine RowKit.Below.alloc' ?_ _)), hid (by have hr := HR.out; rw [HST.out]; simp [stepF, dispF, *])⟩
            case measure => simp [intOf]; omega
          · cases b
            · go_wp2_with (go_at_call 13; (with_reducible refine (HEE.out _).mono ?_); rintro _ _ ⟨rfl, _, rfl⟩)
              go_roundw
              case rel => exact ⟨k + 1, _, _, by go_num, rfl, rfl, by omega, hid (by repeat (first | exact HB.out | refine RowKit.Below.past ?_ _ | refine RowKit.Below.alloc' ?_ _)), hid (by have hr := HR.out; rw [HST.out]; simp [stepF, dispF, *])⟩
              case measure => simp [intOf]; omega
            · by_cases d4 : a = s
              · subst d4
                cases r
                all_goals
                  go_wp2_with (go_at_call 13; (with_reducible refine (HEE.out _).mono ?_); rintro _ _ ⟨rfl, _, rfl⟩)
                  go_roundw
                  case rel => exact ⟨k + 1, _, _, by go_num, rfl, rfl, by omega, hid (by repeat (first | exact HB.out | refine RowKit.Below.past ?_ _ | refine RowKit.Below.alloc' ?_ _)), hid (by have hr := HR.out; rw [HST.out]; simp [stepF, dispF, *])⟩
                  case measure => simp [intOf]; omega
              · go_wp2_with (go_at_call 13; (with_reducible refine (HEE.out _).mono ?_); rintro _ _ ⟨rfl, _, rfl⟩)
                go_roundw
                case rel => exact ⟨k + 1, _, _, by go_num, rfl, rfl, by omega, hid (by repeat (first | exact HB.out | refine RowKit.Below.past ?_ _ | refine RowKit.Below.alloc' ?_ _)), hid (by have hr := HR.out; rw [HST.out]; simp [stepF, dispF, *])⟩
                case measure => simp [intOf]; omega
        · cases b
          · go_wp2_with (go_at_call 13; (with_reducible refine (HEE.out _).mono ?_); rintro _ _ ⟨rfl, _, rfl⟩)
            go_roundw
            case rel => exact ⟨k + 1, _, _, by go_num, rfl, rfl, by omega, hid (by repeat (first | exact HB.out | refine RowKit.Below.past ?_ _ | refine RowKit.Below.alloc' ?_ _)), hid (by have hr := HR.out; rw [HST.out]; simp [stepF, dispF, *])⟩
            case measure => simp [intOf]; omega
          · by_cases d4 : a = s
            · subst d4
              cases r
              all_goals
                go_wp2_with (go_at_call 13; (with_reducible refine (HEE.out _).mono ?_); rintro _ _ ⟨rfl, _, rfl⟩)
                go_roundw
                case rel => exact ⟨k + 1, _, _, by go_num, rfl, rfl, by omega, hid (by repeat (first | exact HB.out | refine RowKit.Below.past ?_ _ | refine RowKit.Below.alloc' ?_ _)), hid (by have hr := HR.out; rw [HST.out]; simp [stepF, dispF, *])⟩
                case measure => simp [intOf]; omega
            · go_wp2_with (go_at_call 13; (with_reducible refine (HEE.out _).mono ?_); rintro _ _ ⟨rfl, _, rfl⟩)
              go_roundw
              case rel => exact ⟨k + 1, _, _, by go_num, rfl, rfl, by omega, hid (by repeat (first | exact HB.out | refine RowKit.Below.past ?_ _ | refine RowKit.Below.alloc' ?_ _)), hid (by have hr := HR.out; rw [HST.out]; simp [stepF, dispF, *])⟩
              case measure => simp [intOf]; omega
      · cases b
        · go_wp2_with (go_at_call 13; (with_reducible refine (HEE.out _).mono ?_); rintro _ _ ⟨rfl, _, rfl⟩)
          go_roundw
          case rel => exact ⟨k + 1, _, _, by go_num, rfl, rfl, by omega, hid (by repeat (first | exact HB.out | refine RowKit.Below.past ?_ _ | refine RowKit.Below.alloc' ?_ _)), hid (by have hr := HR.out; rw [HST.out]; simp [stepF, dispF, *])⟩
          case measure => simp [intOf]; omega
        · by_cases d4 : a = s
          · subst d4
            cases r
            all_goals
              go_wp2_with (go_at_call 13; (with_reducible refine (HEE.out _).mono ?_); rintro _ _ ⟨rfl, _, rfl⟩)
              go_roundw
              case rel => exact ⟨k + 1, _, _, by go_num, rfl, rfl, by omega, hid (by repeat (first | exact HB.out | refine RowKit.Below.past ?_ _ | refine RowKit.Below.alloc' ?_ _)), hid (by have hr := HR.out; rw [HST.out]; simp [stepF, dispF, *])⟩
              case measure => simp [intOf]; omega
          · go_wp2_with (go_at_call 13; (with_reducible refine (HEE.out _).mono ?_); rintro _ _ ⟨rfl, _, rfl⟩)
            go_roundw
            case rel => exact ⟨k + 1, _, _, by go_num, rfl, rfl, by omega, hid (by repeat (first | exact HB.out | refine RowKit.Below.past ?_ _ | refine RowKit.Below.alloc' ?_ _)), hid (by have hr := HR.out; rw [HST.out]; simp [stepF, dispF, *])⟩
            case measure => simp [intOf]; omega
    · obtain rfl : k = n := by omega
      have hst : stF l core time l.length = (s, b) := by rw [EN.out]; exact HS.out
      have HO := hid (show ranF l core time = outF (s, b) by unfold ranF; rw [hst])
      clear hst HS
      go_wp2
      all_goals
        go_ret2
        refine Gives.mk (by rw [HO.out]; simp [outF, *]; try (rw [if_neg (by omega)]; simp)) HB.out
end Go.Proofs.Ytphlbomcnholhaa
