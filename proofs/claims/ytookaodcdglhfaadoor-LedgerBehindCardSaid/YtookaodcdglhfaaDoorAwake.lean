/-
  Layer 18: a tick of each: as it should be. No condition (the table of the library's that is read is a fact that is asked for).
-/
import Derived.Test.YtookaodcdglhfaaDoorSettle
import Derived.Test.YtookaodcdglhfaaDoorLedN
namespace Go.Proofs.YtookaodcdglhfaaDoor
open Go.RowKit Go.Shelf
theorem Tz.belowB {B : Nat} {w w' : World} (h : Tz w) (hB : 0 < B) (hb : Below B w w') : Tz w' := fun j hj => by
  rw [hb.cell (p := ⟨0, j, none⟩) hB]; exact h j hj
def awA0 : Lg := newF [2, 1] 1 1
def awA1 : Lg := settleF awA0 3
def awA2 : Lg := chargeF awA1 0
def awA3 : Lg := chargeF awA2 1
def awA4 : Lg := settleF awA3 3
theorem awV0 : vF awA4 0 = 360360 := by kernel_rfl
theorem awV1 : vF awA4 1 = 720720 := by kernel_rfl
theorem awF : awA4.fl = 360360 := by kernel_rfl
theorem awL : encB (leastF awA4.l 3) = 0 := by kernel_rfl
theorem awB : behF awA4.l 1 3 = 1 := by kernel_rfl
theorem awH : heldF awA4 1 = 1 := by kernel_rfl
theorem awN : awA4.l.length = 2 := by kernel_rfl
theorem awO0 : OkG awA0 := newF_ok _ _ _
theorem awO1 : OkG awA1 := awO0.settle 3
theorem awO2 : OkG awA2 := awO1.charge 0
theorem awO3 : OkG awA3 := awO2.charge 1
theorem awO4 : OkG awA4 := awO3.settle 3
set_option maxRecDepth 100000 in
set_option maxHeartbeats 4000000 in
theorem awake_any (w : World) (hZ : Tz w) : Calls Tryd.prog 6 #[] w (Gives (.bool true) w) := by
  obtain ⟨w1, ew1⟩ : ∃ w1, w1 = w.alloc (.cells #[.int .i64 2, .int .i64 1] 3) := ⟨_, rfl⟩
  have hb1 : Below w.heap.size w w1 := by rw [ew1]; exact (Below.refl _ w).alloc (Nat.le_refl _) _
  have hc1 : Cells w1 (some ⟨w.heap.size, 0, none⟩) (i64s [2, 1]) := by
    rw [ew1]
    exact cells_two (by simp [go_sem]) (by simp [go_sem])
  have hZ1 := hZ.below hb1
  have hzs := hZ1.lt
  have HN := hid (New_any (some ⟨w.heap.size, 0, none⟩) 2 2 [2, 1] rfl (by omega) (by unfold maxLen; omega) 1 1 w1 hc1)
  have EW := hid ew1
  have HZ1 := hid hZ1
  have HB1 := hid hb1
  clear ew1 hc1 hZ1 hZ hb1
  go_enter Tryd.func6, Tryd.ntmps6
  go_wp2_with fail
  rw [← EW.out]
  refine HN.out.mono ?_
  rintro _ w2 ⟨b, rfl, h2, hb2⟩
  have s2 := hb2.size
  have HS2 := hid (Settle_any (s := 3) awO0 h2 (HZ1.out.belowB hzs hb2) hzs s2 (by omega))
  clear h2
  go_wp2_with fail
  refine HS2.out.mono ?_
  rintro _ w3 ⟨rfl, h3, hb3, -⟩
  have hB3 := hb2.trans hb3
  have s3 := hB3.size
  have HS3 := hid (Charge_any awO1 h3 0 s3)
  clear h3 hb3 HS2 hb2 s2
  go_wp2_with fail
  refine HS3.out.mono ?_
  rintro _ w4 ⟨rfl, h4, hb4, -⟩
  have hB4 := hB3.trans hb4
  have s4 := hB4.size
  have HS4 := hid (Charge_any awO2 h4 1 s4)
  clear h4 hb4 HS3 hB3 s3
  go_wp2_with fail
  refine HS4.out.mono ?_
  rintro _ w5 ⟨rfl, h5, hb5, -⟩
  have hB5 := hB4.trans hb5
  have s5 := hB5.size
  have HS5 := hid (Settle_any (s := 3) awO3 h5 (HZ1.out.belowB hzs hB5) hzs s5 (by omega))
  clear h5 hb5 HS4 hB4 s4
  go_wp2_with fail
  refine HS5.out.mono ?_
  rintro _ w6 ⟨rfl, h6, hb6, -⟩
  have hB6 := hB5.trans hb6
  have s6 := hB6.size
  have h6 : LgAt w1.heap.size w6 b awA4 := h6
  have HL := hid (show ∀ x, LgAt w1.heap.size (w6.past x) b awA4 from fun x => h6.past x)
  have HZ6 := hid (HZ1.out.belowB hzs hB6)
  have P0 := hid (show Calls Tryd.prog 11 #[.pointer (some ⟨b, 0, none⟩), .int .i64 0] w6 (Gives (.int .u64 360360) w6) by have := V_any h6 0; rwa [awV0] at this)
  have P1 := hid (fun x => (show Calls Tryd.prog 11 #[.pointer (some ⟨b, 0, none⟩), .int .i64 1] (w6.past x) (Gives (.int .u64 720720) (w6.past x)) by have := V_any (HL.out x) 1; rwa [awV1] at this))
  have P2 := hid (fun x => (show Calls Tryd.prog 18 #[.pointer (some ⟨b, 0, none⟩)] (w6.past x) (Gives (.int .u64 360360) (w6.past x)) by have := Floor_any (HL.out x); rwa [awF] at this))
  have P3 := hid (fun x => (show Calls Tryd.prog 10 #[.pointer (some ⟨b, 0, none⟩), .int .u64 3] (w6.past x) (Gives (.int .i64 0) (w6.past x)) by have := Least_any awO4.len (.inr ⟨b, rfl, HL.out x⟩) (HZ6.out.past x) 3 (by omega); rwa [awL] at this))
  have P4 := hid (fun x => (show Calls Tryd.prog 9 #[.pointer (some ⟨b, 0, none⟩), .int .i64 1, .int .u64 3] (w6.past x) (Gives (.int .i64 1) (w6.past x)) by have := Behind_any awO4.len (fun k hk => (awO4.at hk).1) (.inr ⟨b, rfl, HL.out x⟩) (HZ6.out.past x) 1 3 (by omega); rwa [awB] at this))
  have P5 := hid (fun x => (show Calls Tryd.prog 25 #[.pointer (some ⟨b, 0, none⟩), .int .i64 1] (w6.past x) (Gives (.int .i64 1) (w6.past x)) by have := Held_any (HL.out x) 1; rwa [awH] at this))
  have P6 := hid (fun x => (show Calls Tryd.prog 21 #[.pointer (some ⟨b, 0, none⟩)] (w6.past x) (Gives (.int .i64 2) (w6.past x)) by have := Len_any (HL.out x); rw [awN] at this; exact this))
  have HB6 := hid ((HB1.out.trans (hB6.mono HB1.out.size)))
  clear h6 hb6 HS5 hB5 s5 hB6
  go_wp2_with fail
  refine P0.out.mono ?_
  rintro _ _ ⟨rfl, x1, rfl⟩
  go_wp2_with (first | (go_at_call 11; refine (P1.out _).mono ?_; rintro _ _ ⟨rfl, _, rfl⟩) | (go_at_call 18; refine (P2.out _).mono ?_; rintro _ _ ⟨rfl, _, rfl⟩) | (go_at_call 10; refine (P3.out _).mono ?_; rintro _ _ ⟨rfl, _, rfl⟩) | (go_at_call 9; refine (P4.out _).mono ?_; rintro _ _ ⟨rfl, _, rfl⟩) | (go_at_call 25; refine (P5.out _).mono ?_; rintro _ _ ⟨rfl, _, rfl⟩) | (go_at_call 21; refine (P6.out _).mono ?_; rintro _ _ ⟨rfl, _, rfl⟩))
  go_ret
  exact Gives.mk rfl (HB6.out.trans ((w6.below_past _).mono HB6.out.size))
end Go.Proofs.YtookaodcdglhfaaDoor
