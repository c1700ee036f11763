/-
  Layer 33: the law's first lines. No condition.
-/
import Derived.Test.YtjihhpipdhhjkaaSpES
import Derived.Test.YtjihhpipdhhjkaaSpU
namespace Go.Proofs.Ytjihhpipdhhjkaa
open Go.RowKit
def sA : ByteArray := ⟨#[97]⟩
def sB : ByteArray := ⟨#[98]⟩
def sC : ByteArray := ⟨#[99]⟩
def sE : ByteArray := ⟨#[101]⟩
def sX : ByteArray := ⟨#[120]⟩
def sZ : ByteArray := ⟨#[122]⟩
def sDD : ByteArray := ⟨#[100, 100]⟩
theorem aw1 : addLS [] sA sC = [(sA, sC)] := by kernel_rfl
theorem aw2 : addLS [(sA, sC)] sC sE = [(sA, sE)] := by kernel_rfl
theorem aw3 : addLS [(sA, sE)] sX sX = [(sA, sE)] := by kernel_rfl
theorem aw4 : gapVS [(sA, sE)] sB sZ = (sE, sZ, true) := by kernel_rfl
theorem aw5 : hasVS [(sA, sE)] sDD = true := by kernel_rfl
theorem aw6 : hasVS [(sA, sE)] sE = false := by kernel_rfl
theorem aw7 : ltVS sA sC = true ∧ ltVS sC sE = true ∧ ltVS sX sX = false := ⟨by kernel_rfl, by kernel_rfl, by kernel_rfl⟩
set_option maxRecDepth 100000 in
set_option maxHeartbeats 4000000 in
theorem awake_any (w : World) : Calls Try.prog 6 #[] w (Gives (.bool true) w) := by
  have hE : (sE.toList == sE.toList) = true := by simp
  have hZ : (sZ.toList == sZ.toList) = true := by simp
  unfold sE at hE
  unfold sZ at hZ
  go_enter Try.func6, Try.ntmps6
  go_wp2_with fail
  refine (NewS_any w).mono ?_
  rintro _ w1 ⟨rfl, h1, hb1⟩
  have HB1 := hid hb1
  have HA := hid (show Calls Try.prog 22 #[.pointer (some ⟨w.heap.size, 0, none⟩), .string sA, .string sC] w1 (AddPS w.heap.size w.heap.size true [(sA, sC)] w1) by
    have := AddS_any h1 sA sC (by rw [aw1]; simp)
    rwa [aw1, aw7.1] at this)
  clear h1 hb1
  go_wp2_with fail
  refine HA.out.mono ?_
  rintro _ w2 ⟨rfl, h2, hb2, -⟩
  have HB2 := hid (HB1.out.trans hb2)
  have HA2 := hid (show Calls Try.prog 22 #[.pointer (some ⟨w.heap.size, 0, none⟩), .string sC, .string sE] w2 (AddPS w.heap.size w.heap.size true [(sA, sE)] w2) by
    have := AddS_any h2 sC sE (by rw [aw2]; simp)
    rwa [aw2, aw7.2.1] at this)
  clear h2 hb2 HA
  go_wp2_with fail
  refine HA2.out.mono ?_
  rintro _ w3 ⟨rfl, h3, hb3, -⟩
  have HB3 := hid (HB2.out.trans hb3)
  have HA3 := hid (show Calls Try.prog 22 #[.pointer (some ⟨w.heap.size, 0, none⟩), .string sX, .string sX] w3 (AddPS w.heap.size w.heap.size false [(sA, sE)] w3) by
    have := AddS_any h3 sX sX (by rw [aw3]; simp)
    rwa [aw3, aw7.2.2] at this)
  clear h3 hb3 HA2
  go_wp2_with fail
  refine HA3.out.mono ?_
  rintro _ w4 ⟨rfl, h4, hb4, -⟩
  have HB4 := hid (HB3.out.trans hb4)
  have HG := hid (show Calls Try.prog 23 #[.pointer (some ⟨w.heap.size, 0, none⟩), .string sB, .string sZ] w4 (Gives (.tuple #[.string sE, .string sZ, .bool true]) w4) by
    have := GapS_any h4 sB sZ
    rwa [aw4] at this)
  have HL := hid (fun x => (show Calls Try.prog 24 #[.pointer (some ⟨w.heap.size, 0, none⟩)] (w4.past x) (fun e w' => e = .returned (.int .i64 1) ∧ w' = w4.past x) from LenS_any (h4.far (w4.below_past x))))
  have H5 := hid (fun x => (show Calls Try.prog 25 #[.pointer (some ⟨w.heap.size, 0, none⟩), .string sDD] (w4.past x) (Gives (.bool true) (w4.past x)) from aw5 ▸ HasS_any (h4.far (w4.below_past x)) sDD))
  have H6 := hid (fun x => (show Calls Try.prog 25 #[.pointer (some ⟨w.heap.size, 0, none⟩), .string sE] (w4.past x) (Gives (.bool false) (w4.past x)) from aw6 ▸ HasS_any (h4.far (w4.below_past x)) sE))
  clear h4 hb4 HA3
  go_wp2_with fail
  refine HG.out.mono ?_
  rintro _ _ ⟨rfl, x5, rfl⟩
  go_wp2_with fail
  refine (HL.out _).mono ?_
  rintro _ w6 ⟨rfl, h6⟩
  rw [h6]
  clear h6
  go_wp2_with fail
  refine (H5.out _).mono ?_
  rintro _ _ ⟨rfl, x6, rfl⟩
  simp only [World.past_past]
  go_wp2_with fail
  refine (H6.out _).mono ?_
  rintro _ _ ⟨rfl, x7, rfl⟩
  unfold sE sZ
  go_wp2_with fail
  go_ret
  exact Gives.mk rfl (HB4.out.trans ((by (repeat (first | exact Below.refl _ _ | refine RowKit.Below.past ?_ _ | refine RowKit.Below.alloc' ?_ _ | refine RowKit.Below.drew' ?_ | refine RowKit.Below.drewN' ?_ _ | refine RowKit.Below.setCell' ?_ (by simp [go_sem]) _)) : Below w4.heap.size w4 _).mono HB4.out.size))
end Go.Proofs.Ytjihhpipdhhjkaa
