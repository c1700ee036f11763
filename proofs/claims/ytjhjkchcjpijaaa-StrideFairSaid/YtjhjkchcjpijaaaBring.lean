/-
  Layer 37: the weights are brought. No condition.
-/
import Derived.Test.YtjhjkchcjpijaaaStrS
namespace Go.Proofs.Ytjhjkchcjpijaaa
open Go Go.RowKit HpI
theorem info_i64 : (Try.prog.info? 3).map (fun i => (i.zero, i.size, i.bytes)) = some (some (.int .i64 0), 1, 8) := by kernel_rfl
set_option maxRecDepth 100000 in
set_option maxHeartbeats 1000000 in
theorem sbring_any (A : Option Addr) (n ca : Nat) (l : List Int) (en : l.length = n) (hca : n ≤ ca) (w : World) (hc : Cells w A (i64s l)) (hm : n ≤ maxLen) :
    Calls Try.prog 19 #[.slice A n ca] w (GivesOwn 3 1 (bringW l).length (i64s (bringW l)) w) := by
  unfold maxLen at hm
  obtain ⟨i0, hi, hz0, hz1, hz2⟩ := info_parts info_i64
  obtain ⟨m, em⟩ : ∃ m, min n 16 = m := ⟨_, rfl⟩
  have hmn : m ≤ n := by omega
  have hmc : m ≤ ca := by omega
  have hm16 : m ≤ 16 := by omega
  have e1 : min (n : Int) 16 = (m : Int) := by omega
  have EM := hid (show (bringW l).length = m by rw [bringW_length, en]; exact em)
  have HC := hid hc
  have EN := hid en
  have HSN := hid (show ∀ k (h : k < m), (bringW l).take (k + 1) = (bringW l).take k ++ [bringF (atL l k) 1 4096] from fun k h => by
    rw [List.take_succ_eq_append_getElem (by rw [EM.out]; exact h)]
    simp [bringW, atL, List.getElem?_eq_getElem (show k < l.length by rw [EN.out]; omega)])
  have hcs : (16 < n ∧ m = 16) ∨ (n ≤ 16 ∧ m = n) := by omega
  clear hc en em e1
  rcases hcs with ⟨h16, rfl⟩ | ⟨h16, rfl⟩
  · go_enter Try.func19, Try.ntmps19
    go_wp2
    go_loopw [3, 12] (fun v i wr => ∃ (k : Nat) (x0 : Past), i = .int .i64 k ∧ k ≤ 16 ∧ (w.past x0).ownsRow w.heap.size 3 1 v k (i64s ((bringW l).take k)) ∧ wr = w.past x0) (fun _ i _ => 16 - natC i)
    case atStart => exact ⟨0, ⟨#[], w.drawn⟩, rfl, by omega, World.ownsRow_nil _ _ _ _, World.past_refl w⟩
    case round =>
      obtain ⟨k, x0, rfl, hk, hown, rfl⟩ := hrel
      by_cases hlt : k < 16
      · obtain ⟨g, off, rfl, ck⟩ := i64_at HC.out (k := k) (by rw [EN.out]; omega)
        have HS := hid (HSN.out k hlt)
        obtain ⟨x, ex⟩ : ∃ x, atL l k = x := ⟨_, rfl⟩
        rw [ex] at ck HS
        clear ex
        obtain ⟨bx, ebx⟩ : ∃ bx, bringF x 1 4096 = bx := ⟨_, rfl⟩
        rw [ebx] at HS
        have hcase : (x < 1 ∧ bx = 1) ∨ (1 ≤ x ∧ 4096 < x ∧ bx = 4096) ∨ (1 ≤ x ∧ x ≤ 4096 ∧ bx = x) := by rw [← ebx]; unfold bringF; split <;> (try split) <;> omega
        clear ebx
        rcases hcase with ⟨c1, rfl⟩ | ⟨c1, c2, rfl⟩ | ⟨c1, c2, rfl⟩
        · go_wp2_with ((at_builtin; go_must (refine wpList_push rfl (.tmp 16) (.tmp 20) 22 rfl 3 i0 (.int .i64 0) 1 8 Try.underlying22 hi hz0 hz1 hz2 rfl (by decide) (w0 := w) ?_ _ _ _ rfl (hown) _ (#[.int .i64 1]) ?_ rfl rfl ?_ ?_ ?_ ?_); (· (repeat (first | exact Below.refl _ _ | refine RowKit.Below.past ?_ _ | refine RowKit.Below.alloc' ?_ _ | refine RowKit.Below.drew' ?_ | refine RowKit.Below.drewN' ?_ _ | refine RowKit.Below.setCell' ?_ (by simp [go_sem]) _))); (· simp [go_sem]); (· simp [Value.oneCell']); (· omega); (· (unfold maxLen; omega)); intro x1 g1 cap1 hown1))
          go_roundw
          case rel => exact ⟨k + 1, _, by go_num, by omega, by rw [HS.out, ← i64s_snoc]; exact hown1, rfl⟩
          case measure => simp [natC]; omega
        · go_wp2_with ((at_builtin; go_must (refine wpList_push rfl (.tmp 16) (.tmp 20) 22 rfl 3 i0 (.int .i64 0) 1 8 Try.underlying22 hi hz0 hz1 hz2 rfl (by decide) (w0 := w) ?_ _ _ _ rfl (hown) _ (#[.int .i64 4096]) ?_ rfl rfl ?_ ?_ ?_ ?_); (· (repeat (first | exact Below.refl _ _ | refine RowKit.Below.past ?_ _ | refine RowKit.Below.alloc' ?_ _ | refine RowKit.Below.drew' ?_ | refine RowKit.Below.drewN' ?_ _ | refine RowKit.Below.setCell' ?_ (by simp [go_sem]) _))); (· simp [go_sem]); (· simp [Value.oneCell']); (· omega); (· (unfold maxLen; omega)); intro x1 g1 cap1 hown1))
          go_roundw
          case rel => exact ⟨k + 1, _, by go_num, by omega, by rw [HS.out, ← i64s_snoc]; exact hown1, rfl⟩
          case measure => simp [natC]; omega
        · go_wp2_with ((at_builtin; go_must (refine wpList_push rfl (.tmp 16) (.tmp 20) 22 rfl 3 i0 (.int .i64 0) 1 8 Try.underlying22 hi hz0 hz1 hz2 rfl (by decide) (w0 := w) ?_ _ _ _ rfl (hown) _ (#[.int .i64 bx]) ?_ rfl rfl ?_ ?_ ?_ ?_); (· (repeat (first | exact Below.refl _ _ | refine RowKit.Below.past ?_ _ | refine RowKit.Below.alloc' ?_ _ | refine RowKit.Below.drew' ?_ | refine RowKit.Below.drewN' ?_ _ | refine RowKit.Below.setCell' ?_ (by simp [go_sem]) _))); (· simp [go_sem]); (· simp [Value.oneCell']); (· omega); (· (unfold maxLen; omega)); intro x1 g1 cap1 hown1))
          go_roundw
          case rel => exact ⟨k + 1, _, by go_num, by omega, by rw [HS.out, ← i64s_snoc]; exact hown1, rfl⟩
          case measure => simp [natC]; omega
      · obtain rfl : k = 16 := by omega
        rw [List.take_of_length_le (by rw [EM.out]; exact Nat.le_refl _)] at hown
        obtain ⟨A', cap, rfl⟩ := own_shape hown
        have HO := hid hown
        clear hown
        go_wp2_with fail
        go_ret
        rw [EM.out]
        exact ⟨A', cap, rfl, World.below_past _ _, HO.out⟩
  · go_enter Try.func19, Try.ntmps19
    go_wp2
    go_loopw [3, 12] (fun v i wr => ∃ (k : Nat) (x0 : Past), i = .int .i64 k ∧ k ≤ m ∧ (w.past x0).ownsRow w.heap.size 3 1 v k (i64s ((bringW l).take k)) ∧ wr = w.past x0) (fun _ i _ => m - natC i)
    case atStart => exact ⟨0, ⟨#[], w.drawn⟩, rfl, by omega, World.ownsRow_nil _ _ _ _, World.past_refl w⟩
    case round =>
      obtain ⟨k, x0, rfl, hk, hown, rfl⟩ := hrel
      by_cases hlt : k < m
      · obtain ⟨g, off, rfl, ck⟩ := i64_at HC.out (k := k) (by rw [EN.out]; omega)
        have HS := hid (HSN.out k hlt)
        obtain ⟨x, ex⟩ : ∃ x, atL l k = x := ⟨_, rfl⟩
        rw [ex] at ck HS
        clear ex
        obtain ⟨bx, ebx⟩ : ∃ bx, bringF x 1 4096 = bx := ⟨_, rfl⟩
        rw [ebx] at HS
        have hcase : (x < 1 ∧ bx = 1) ∨ (1 ≤ x ∧ 4096 < x ∧ bx = 4096) ∨ (1 ≤ x ∧ x ≤ 4096 ∧ bx = x) := by rw [← ebx]; unfold bringF; split <;> (try split) <;> omega
        clear ebx
        rcases hcase with ⟨c1, rfl⟩ | ⟨c1, c2, rfl⟩ | ⟨c1, c2, rfl⟩
        · go_wp2_with ((at_builtin; go_must (refine wpList_push rfl (.tmp 16) (.tmp 20) 22 rfl 3 i0 (.int .i64 0) 1 8 Try.underlying22 hi hz0 hz1 hz2 rfl (by decide) (w0 := w) ?_ _ _ _ rfl (hown) _ (#[.int .i64 1]) ?_ rfl rfl ?_ ?_ ?_ ?_); (· (repeat (first | exact Below.refl _ _ | refine RowKit.Below.past ?_ _ | refine RowKit.Below.alloc' ?_ _ | refine RowKit.Below.drew' ?_ | refine RowKit.Below.drewN' ?_ _ | refine RowKit.Below.setCell' ?_ (by simp [go_sem]) _))); (· simp [go_sem]); (· simp [Value.oneCell']); (· omega); (· (unfold maxLen; omega)); intro x1 g1 cap1 hown1))
          go_roundw
          case rel => exact ⟨k + 1, _, by go_num, by omega, by rw [HS.out, ← i64s_snoc]; exact hown1, rfl⟩
          case measure => simp [natC]; omega
        · go_wp2_with ((at_builtin; go_must (refine wpList_push rfl (.tmp 16) (.tmp 20) 22 rfl 3 i0 (.int .i64 0) 1 8 Try.underlying22 hi hz0 hz1 hz2 rfl (by decide) (w0 := w) ?_ _ _ _ rfl (hown) _ (#[.int .i64 4096]) ?_ rfl rfl ?_ ?_ ?_ ?_); (· (repeat (first | exact Below.refl _ _ | refine RowKit.Below.past ?_ _ | refine RowKit.Below.alloc' ?_ _ | refine RowKit.Below.drew' ?_ | refine RowKit.Below.drewN' ?_ _ | refine RowKit.Below.setCell' ?_ (by simp [go_sem]) _))); (· simp [go_sem]); (· simp [Value.oneCell']); (· omega); (· (unfold maxLen; omega)); intro x1 g1 cap1 hown1))
          go_roundw
          case rel => exact ⟨k + 1, _, by go_num, by omega, by rw [HS.out, ← i64s_snoc]; exact hown1, rfl⟩
          case measure => simp [natC]; omega
        · go_wp2_with ((at_builtin; go_must (refine wpList_push rfl (.tmp 16) (.tmp 20) 22 rfl 3 i0 (.int .i64 0) 1 8 Try.underlying22 hi hz0 hz1 hz2 rfl (by decide) (w0 := w) ?_ _ _ _ rfl (hown) _ (#[.int .i64 bx]) ?_ rfl rfl ?_ ?_ ?_ ?_); (· (repeat (first | exact Below.refl _ _ | refine RowKit.Below.past ?_ _ | refine RowKit.Below.alloc' ?_ _ | refine RowKit.Below.drew' ?_ | refine RowKit.Below.drewN' ?_ _ | refine RowKit.Below.setCell' ?_ (by simp [go_sem]) _))); (· simp [go_sem]); (· simp [Value.oneCell']); (· omega); (· (unfold maxLen; omega)); intro x1 g1 cap1 hown1))
          go_roundw
          case rel => exact ⟨k + 1, _, by go_num, by omega, by rw [HS.out, ← i64s_snoc]; exact hown1, rfl⟩
          case measure => simp [natC]; omega
      · obtain rfl : k = m := by omega
        rw [List.take_of_length_le (by rw [EM.out]; exact Nat.le_refl _)] at hown
        obtain ⟨A', cap, rfl⟩ := own_shape hown
        have HO := hid hown
        clear hown
        go_wp2_with fail
        go_ret
        rw [EM.out]
        exact ⟨A', cap, rfl, World.below_past _ _, HO.out⟩
end Go.Proofs.Ytjhjkchcjpijaaa
