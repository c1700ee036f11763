/-
  Layer 43's law begins with two works: it is awake. No condition.
-/
import Derived.Test.YtjkmakaahghddaaRtaJ
namespace Go.Proofs.Ytjkmakaahghddaa
open Go.RowKit
def awk : List Wk := [⟨1, 4, 4⟩, ⟨2, 6, 3⟩]
theorem awk_times : timesF awk (clampF 0 0 1000) = [1, 3] := by kernel_rfl
theorem awk_rise : riseF awk = [1, 0] := by kernel_rfl
theorem awk_done : DoneAll awk 1 10 = 3 := by kernel_rfl
theorem awk_meet0 : meetF awk (clampF 0 0 1000) = true := by kernel_rfl
theorem awk_meet1 : meetF awk (clampF 1 0 1000) = false := by kernel_rfl
set_option maxHeartbeats 2000000 in
theorem awake_any (w : World) : Calls Try.prog 6 #[] w (Gives (.bool true) w) := by
  obtain ⟨W, eW⟩ : ∃ W, W = w.alloc (.cells #[.int .i64 1, .int .i64 4, .int .i64 4, .int .i64 2, .int .i64 6, .int .i64 3] 32) := ⟨_, rfl⟩
  have hls : LsW awk 2 2 (some ⟨w.heap.size, 0, none⟩) W := by
    rw [eW]
    exact ⟨rfl, by omega, by omega, Cells.of_own (World.ownsRow_lit (base := 0) (size := 3) w _ 2 (Nat.zero_le _) (by unfold maxLen; omega) rfl)⟩
  have hbW : Below w.heap.size w W := by rw [eW]; exact (Below.refl _ _).alloc (Nat.le_refl _) _
  have EW := hid eW
  have HLS := hid hls
  have HBW := hid hbW
  clear eW hls hbW
  go_enter Try.func6, Try.ntmps6
  go_upto_region 2 with fail
  rw [← EW.out]
  go_wp2_with fail
  have hT := Times_any _ _ _ awk 0 W HLS.out
  rw [awk_times] at hT
  refine hT.mono ?_
  rintro _ w2 ⟨T, ct, rfl, hb2, ho2⟩
  have HB2 := hid (below_trans' HBW.out hb2)
  have HL2 := hid (HLS.out.below hb2)
  have HC2 := hid (Cells.of_own ho2)
  clear hT hb2 ho2 HBW HLS
  go_wp2_with fail
  have hR := Rise_any _ _ _ awk w2 HL2.out
  rw [awk_rise] at hR
  refine hR.mono ?_
  rintro _ w3 ⟨R, cr, rfl, hb3, ho3⟩
  have HB3 := hid (below_trans' HB2.out hb3)
  have HL3 := hid (HL2.out.below hb3)
  have HC3 := hid (HC2.out.below hb3)
  have HD3 := hid (Cells.of_own ho3)
  clear hR hb3 ho3 HB2 HL2 HC2
  obtain ⟨b1, o1, rfl, hc0⟩ := i64_at HC3.out (k := 0) (by decide)
  obtain ⟨b2, o2, e, hc1⟩ := i64_at HC3.out (k := 1) (by decide)
  injection e with e
  injection e with eb eo
  subst eb; subst eo
  obtain ⟨b3, o3, rfl, hd0⟩ := i64_at HD3.out (k := 0) (by decide)
  have v0 : atL [1, 3] 0 = 1 := rfl
  have v1 : atL [1, 3] 1 = 3 := rfl
  have v2 : atL [1, 0] 0 = 1 := rfl
  rw [v0] at hc0
  rw [v1] at hc1
  rw [v2] at hd0
  simp only [Nat.add_zero] at hc0 hd0
  have qd := fun x => Done_any _ _ _ awk 1 10 (w3.past x) (HL3.out.past x)
  have qm0 := fun x => Meet_any _ _ _ awk 0 (w3.past x) (HL3.out.past x)
  have qm1 := fun x => Meet_any _ _ _ awk 1 (w3.past x) (HL3.out.past x)
  have qd0 := Done_any _ _ _ awk 1 10 w3 HL3.out
  rw [awk_done] at qd qd0
  rw [awk_meet0] at qm0
  rw [awk_meet1] at qm1
  have QD := hid qd
  have QD0 := hid qd0
  have QM0 := hid qm0
  have QM1 := hid qm1
  clear v0 v1 v2 qd qd0 qm0 qm1
  go_wp2_with (first | (go_at_call 9; first | ((with_reducible refine (QD.out _).mono ?_); rintro _ _ ⟨rfl, _, rfl⟩) | (refine QD0.out.mono ?_; rintro _ _ ⟨rfl, _, rfl⟩)) | (go_at_call 12; first | ((with_reducible refine (QM0.out _).mono ?_); rintro _ _ ⟨rfl, _, rfl⟩) | ((with_reducible refine (QM1.out _).mono ?_); rintro _ _ ⟨rfl, _, rfl⟩)))
  go_ret
  exact Gives.mk rfl (RowKit.Below.past HB3.out _)
end Go.Proofs.Ytjkmakaahghddaa
