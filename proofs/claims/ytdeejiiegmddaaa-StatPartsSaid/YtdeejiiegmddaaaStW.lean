/-
  Layer 25: awake. No condition.
-/
import Derived.Test.YtdeejiiegmddaaaStM
namespace Go.Proofs.Ytdeejiiegmddaaa
open Go Go.RowKit
def awL : List Ev := [⟨3, 6, 5, 1, 0⟩, ⟨7, 4, 5, 1, 0⟩]
theorem aw_tasks : tasksF awL 2 = [⟨5, 0, 0, 1, 1, 0, 4⟩] := by kernel_rfl
theorem aw_locks : locK awL 2 = [⟨0, 0, 0, 0, 0⟩, ⟨1, 1, 0, 0, 0⟩, ⟨0, 0, 0, 0, 0⟩, ⟨0, 0, 0, 0, 0⟩, ⟨0, 0, 0, 0, 0⟩, ⟨0, 0, 0, 0, 0⟩, ⟨0, 0, 0, 0, 0⟩, ⟨0, 0, 0, 0, 0⟩] := by kernel_rfl
theorem aw_kinds : kinK awL 2 = [0, 0, 0, 0, 1, 0, 1, 0, 0, 0, 0, 0, 0, 0, 0] := by kernel_rfl
set_option maxRecDepth 100000 in
set_option maxHeartbeats 4000000 in
theorem awake_any (w : World) : Calls Try.prog 6 #[] w (Gives (.bool true) w) := by
  obtain ⟨W1, eW1⟩ : ∃ W1, W1 = w.alloc (.cells #[.int .u64 3, .int .i64 6, .int .i64 5, .int .i64 1, .int .i64 0, .int .u64 7, .int .i64 4, .int .i64 5, .int .i64 1, .int .i64 0] tEv) := ⟨_, rfl⟩
  have hb1 : Below w.heap.size w W1 := by rw [eW1]; exact (Below.refl _ w).alloc (Nat.le_refl _) _
  obtain ⟨s, es⟩ : ∃ s, w.heap.size = s := ⟨_, rfl⟩
  have hr1 : Rec W1 s tEv (tab evV awL).toArray := by rw [eW1, ← es]; exact Rec.new w _ _
  have hc1 : Cells W1 (some ⟨s, 0, none⟩) (tab evV awL) := Cells.of_own (own_of_rec (B := 0) (size := 5) (n := 2) hr1 (Nat.zero_le _) rfl (by unfold maxLen; omega))
  have htm : ∀ k, U64 (evA awL k).time ∧ I64 (evA awL k).task := fun k => by
    match k with
    | 0 => exact ⟨⟨by decide, by decide⟩, ⟨by decide, by decide⟩⟩
    | 1 => exact ⟨⟨by decide, by decide⟩, ⟨by decide, by decide⟩⟩
    | k + 2 => (rw [show evA awL (k + 2) = default from rfl]; exact ⟨⟨by decide, by decide⟩, ⟨by decide, by decide⟩⟩)
  have hT := Tasks_any (some ⟨s, 0, none⟩) 2 2 awL rfl (by omega) htm W1 hc1
  have hL := fun x : Past => Locks_any (some ⟨s, 0, none⟩) 2 2 awL rfl (by unfold maxLen; omega) (W1.past x) (hc1.past x)
  have hK : ∀ x : Past, Calls Try.prog 10 #[.slice (some ⟨s, 0, none⟩) 2 2] (W1.past x) (Gives (.agg #[.int .i64 0, .int .i64 0, .int .i64 0, .int .i64 0, .int .i64 1, .int .i64 0, .int .i64 1, .int .i64 0, .int .i64 0, .int .i64 0, .int .i64 0, .int .i64 0, .int .i64 0, .int .i64 0, .int .i64 0]) (W1.past x)) := fun x => by
    have h := Kinds_any (some ⟨s, 0, none⟩) 2 2 awL rfl (by unfold maxLen; omega) (W1.past x) (hc1.past x)
    rw [aw_kinds] at h
    exact h
  rw [aw_tasks] at hT
  simp only [aw_locks] at hL
  have HT := hid hT
  have HL := hid hL
  have HK := hid hK
  have HB := hid hb1
  clear hT hL hK htm hr1 hc1
  go_enter Try.func6, Try.ntmps6
  go_upto_region 2 with (fail)
  rw [← eW1]
  clear eW1 es hb1
  go_upto_region 3 with (first | (go_at_call 7; refine HT.out.mono ?_; rintro _ w2 ⟨A2, c2, rfl, hb2, ho2⟩; obtain ⟨x2, rfl⟩ := past_of hb2; have HO2 := hid ho2; clear hb2 ho2) | (go_at_call 9; refine (HL.out _).mono ?_; rintro _ w3 ⟨A3, c3, rfl, hb3, ho3⟩; obtain ⟨x3, rfl⟩ := past_of hb3; have HO3 := hid ho3; clear hb3 ho3) | (go_at_call 10; refine (HK.out _).mono ?_; rintro _ _ ⟨rfl, x4, rfl⟩))
  obtain ⟨y, ey⟩ : ∃ y, (x2.and x3).and x4 = y := ⟨_, rfl⟩
  have ho2 : (W1.past y).ownsRow W1.heap.size tTy 7 (.slice A2 1 c2) 1 (tab tyV [⟨5, 0, 0, 1, 1, 0, 4⟩]) := by rw [← ey]; exact own_and (own_and HO2.out _) _
  have ho3 : (W1.past y).ownsRow (W1.past x2).heap.size tCt 5 (.slice A3 8 c3) 8 (tab ctV [⟨0, 0, 0, 0, 0⟩, ⟨1, 1, 0, 0, 0⟩, ⟨0, 0, 0, 0, 0⟩, ⟨0, 0, 0, 0, 0⟩, ⟨0, 0, 0, 0, 0⟩, ⟨0, 0, 0, 0, 0⟩, ⟨0, 0, 0, 0, 0⟩, ⟨0, 0, 0, 0, 0⟩]) := by rw [← ey, ← World.past_past, ← World.past_past]; exact own_past HO3.out _
  rw [ey]
  obtain ⟨W2, eW2⟩ : ∃ W2, W2 = W1.past y := ⟨_, rfl⟩
  rw [← eW2] at ho2 ho3 ⊢
  have hb2 : Below w.heap.size w W2 := by rw [eW2]; exact RowKit.Below.past HB.out y
  have hsz : W1.heap.size + y.more = W2.heap.size := by rw [eW2]; simp [go_sem]
  rw [hsz]
  obtain ⟨W3, eW3⟩ : ∃ W3, W3 = W2.alloc (.cells #[.int .i64 0, .int .i64 0, .int .i64 0, .int .i64 0, .int .i64 1, .int .i64 0, .int .i64 1, .int .i64 0, .int .i64 0, .int .i64 0, .int .i64 0, .int .i64 0, .int .i64 0, .int .i64 0, .int .i64 0] 28) := ⟨_, rfl⟩
  obtain ⟨b4, eb4⟩ : ∃ b, W2.heap.size = b := ⟨_, rfl⟩
  have hb3 : Below w.heap.size w W3 := by rw [eW3]; exact RowKit.Below.alloc' hb2 _
  have hr4 : Rec W3 b4 28 #[.int .i64 0, .int .i64 0, .int .i64 0, .int .i64 0, .int .i64 1, .int .i64 0, .int .i64 1, .int .i64 0, .int .i64 0, .int .i64 0, .int .i64 0, .int .i64 0, .int .i64 0, .int .i64 0, .int .i64 0] := by rw [eW3, ← eb4]; exact Rec.new W2 _ _
  have ho23 : W3.ownsRow W1.heap.size tTy 7 (.slice A2 1 c2) 1 (tab tyV [⟨5, 0, 0, 1, 1, 0, 4⟩]) := by rw [eW3]; exact ho2.alloc _
  have ho33 : W3.ownsRow (W1.past x2).heap.size tCt 5 (.slice A3 8 c3) 8 (tab ctV [⟨0, 0, 0, 0, 0⟩, ⟨1, 1, 0, 0, 0⟩, ⟨0, 0, 0, 0, 0⟩, ⟨0, 0, 0, 0, 0⟩, ⟨0, 0, 0, 0, 0⟩, ⟨0, 0, 0, 0, 0⟩, ⟨0, 0, 0, 0, 0⟩, ⟨0, 0, 0, 0, 0⟩]) := by rw [eW3]; exact ho3.alloc _
  rw [← eW3, eb4]
  obtain ⟨g2, c2', hv2, -⟩ := own_succ ho23 (by omega)
  injection hv2 with hv2 _ hv2'
  subst hv2
  obtain ⟨g3, c3', hv3, -⟩ := own_succ ho33 (by omega)
  injection hv3 with hv3 _ hv3'
  subst hv3
  have t0 := ho23.cellAt 0 (by omega)
  have t1 := ho23.cellAt 1 (by omega)
  have t2 := ho23.cellAt 2 (by omega)
  have t3 := ho23.cellAt 3 (by omega)
  have t4 := ho23.cellAt 4 (by omega)
  have t5 := ho23.cellAt 5 (by omega)
  have t6 := ho23.cellAt 6 (by omega)
  simp [tab, tyV] at t0 t1 t2 t3 t4 t5 t6
  have l5 := ho33.cellAt 5 (by omega)
  have l6 := ho33.cellAt 6 (by omega)
  have l7 := ho33.cellAt 7 (by omega)
  have l8 := ho33.cellAt 8 (by omega)
  have l9 := ho33.cellAt 9 (by omega)
  simp [tab, ctV] at l5 l6 l7 l8 l9
  have k4 := Rec.cell hr4 4
  simp at k4
  have HB3 := hid hb3
  clear eW3 eb4 hb3 hr4 ho23 ho33 ho2 ho3 hb2 eW2 ey hsz HO2 HO3 HT HL HK HB hv2' hv3'
  go_wp2_with fail
  go_ret
  exact Gives.mk rfl HB3.out
end Go.Proofs.Ytdeejiiegmddaaa
