/-
  Layer 37: what is awake. No condition.
-/
import Derived.Test.YtjhjkchcjpijaaaApart
namespace Go.Proofs.Ytjhjkchcjpijaaa
open Go Go.RowKit HpI
theorem first6 : firstF [1, 2] 6 = [0, 1, 1, 0, 1, 1] := by decide +kernel
theorem shares6 : sharesF [1, 2] 6 = [2, 4] := by decide +kernel
theorem apart6 : apK (sharesF [1, 2] 6) (idealF [1, 2] 6) (bringW [1, 2]).length = 0 := by decide +kernel
set_option maxRecDepth 100000 in
set_option maxHeartbeats 4000000 in
theorem awake_any (w : World) : Calls Try.prog 6 #[] w (Gives (.bool true) w) := by
  have HF := hid (fun (g : Nat) w' (h : Cells w' (some ⟨g, 0, none⟩) (i64s [1, 2])) => first6 ▸ First_any (some ⟨g, 0, none⟩) 2 2 [1, 2] rfl (by decide) (by decide) w' h 6)
  have HS := hid (fun (g : Nat) w' (h : Cells w' (some ⟨g, 0, none⟩) (i64s [1, 2])) => shares6 ▸ Shares_any (some ⟨g, 0, none⟩) 2 2 [1, 2] rfl (by decide) (by decide) w' h 6)
  have HA := hid (fun (g : Nat) w' (h : Cells w' (some ⟨g, 0, none⟩) (i64s [1, 2])) => apart6 ▸ SApart_any (some ⟨g, 0, none⟩) 2 2 [1, 2] rfl (by decide) (by decide) w' h 6)
  go_enter Try.func6, Try.ntmps6
  go_upto_region 2 with (go_at_call 9; refine (HF.out w.heap.size _ (cells_two (by simp [go_sem]) (by simp [go_sem]))).mono ?_; rintro _ w1 ⟨A1, c1, rfl, hb1, ho1⟩)
  obtain ⟨b1, p1, ev1, -⟩ := own_succ ho1 (by simp)
  injection ev1 with eA e1 ec
  clear e1 ec
  subst eA
  have hB1 := hid (((Below.refl _ w).alloc (Nat.le_refl _) _).trans (hb1.mono (by simp)))
  have q0 : w1.cell? ⟨b1, 0, none⟩ = some (.int .i64 0) := by rw [ho1.cellAt 0 (by simp)]; rfl
  have q1 : w1.cell? ⟨b1, 1, none⟩ = some (.int .i64 1) := by rw [ho1.cellAt 1 (by simp)]; rfl
  have q2 : w1.cell? ⟨b1, 2, none⟩ = some (.int .i64 1) := by rw [ho1.cellAt 2 (by simp)]; rfl
  have q3 : w1.cell? ⟨b1, 3, none⟩ = some (.int .i64 0) := by rw [ho1.cellAt 3 (by simp)]; rfl
  clear hb1 ho1
  go_upto_region 3 with (go_at_call 10; refine (HS.out w1.heap.size _ (cells_two (by simp [go_sem]) (by simp [go_sem]))).mono ?_; rintro _ w2 ⟨A2, c2, rfl, hb2, ho2⟩)
  obtain ⟨b2, p2, ev2, -⟩ := own_succ ho2 (by simp)
  injection ev2 with eA e1 ec
  clear e1 ec
  subst eA
  have hb12 := ((Below.refl _ w1).alloc (Nat.le_refl _) _).trans (hb2.mono (by simp))
  have q0 := below_cell hb12 (Nat.le_refl _) _ _ q0
  have q1 := below_cell hb12 (Nat.le_refl _) _ _ q1
  have q2 := below_cell hb12 (Nat.le_refl _) _ _ q2
  have q3 := below_cell hb12 (Nat.le_refl _) _ _ q3
  have q4 : w2.cell? ⟨b2, 1, none⟩ = some (.int .i64 4) := by rw [ho2.cellAt 1 (by simp)]; rfl
  have hB2 := hid (hB1.out.trans (hb12.mono hB1.out.size))
  clear hb2 ho2 hb12 hB1
  go_wp2_with (go_at_call 13; refine (HA.out w2.heap.size _ (cells_two (by simp [go_sem]) (by simp [go_sem]))).mono ?_; rintro _ _ ⟨rfl, x3, rfl⟩)
  go_ret
  exact Gives.mk rfl (RowKit.Below.past (RowKit.Below.alloc' hB2.out _) x3)
end Go.Proofs.Ytjhjkchcjpijaaa
