/-
  Layer 05: the law's first look: a queue of strings. No condition.
-/
import Derived.Test.YtifdogmlaengoaaFifHS
namespace Go.Proofs.Ytifdogmlaengoaa
open Go.RowKit
attribute [local go_sem] Oper.semAt_some
def sA : ByteArray := ⟨#[97]⟩
def sB : ByteArray := ⟨#[98]⟩
def sC : ByteArray := ⟨#[99]⟩
set_option maxRecDepth 100000 in
set_option maxHeartbeats 4000000 in
theorem awake_any (w : World) : Calls Try.prog 6 #[] w (Gives (.bool true) w) := by
  have eA : (sA.toList == sA.toList) = true := by simp
  have eB : (sB.toList == sB.toList) = true := by simp
  have eC : (sC.toList == sC.toList) = true := by simp
  unfold sA at eA
  unfold sB at eB
  unfold sC at eC
  go_enter Try.func6, Try.ntmps6
  go_upto_region 2 with (go_at_call 21; refine (ZNewS_any 5 w).mono ?_; rintro _ w1 ⟨b, rfl, h1⟩; have H1 := hid h1; clear h1)
  have HP1 := hid (H1.out.push (by omega) (by decide) sA)
  clear H1
  go_upto_region 3 with (go_at_call 22; refine HP1.out.mono ?_; rintro _ w2 ⟨rfl, h2⟩; have H2 := hid h2; clear h2)
  have HP2 := hid (H2.out.push (by omega) (by decide) sB)
  clear H2 HP1
  go_upto_region 4 with (go_at_call 22; refine HP2.out.mono ?_; rintro _ w3 ⟨rfl, h3⟩; have H3 := hid h3; clear h3)
  have HP3 := hid (H3.out.push (by omega) (by decide) sC)
  clear H3 HP2
  go_upto_region 5 with (go_at_call 22; refine HP3.out.mono ?_; rintro _ w4 ⟨rfl, h4⟩; have H4 := hid h4; clear h4)
  have HR := hid (show Calls Try.prog 23 #[.pointer (some ⟨b, 0, none⟩), .int .i64 2] w4 (fun e w' => e = .returned (.tuple #[.string sB, .bool true]) ∧ QZS w.heap.size w w' b (mostA 5) 3 [(1, sA), (3, sC)]) from H4.out.remove (by omega) (i := 1) (x := (2, sB)) rfl)
  clear H4 HP3
  go_upto_region 6 with (go_at_call 23; refine HR.out.mono ?_; rintro _ w5 ⟨rfl, h5⟩; have H5 := hid h5; clear h5)
  have HQ1 := hid (H5.out.pop (by omega))
  clear H5 HR
  go_upto_region 7 with (go_at_call 24; refine HQ1.out.mono ?_; rintro _ w6 ⟨rfl, h6⟩; have H6 := hid h6; clear h6)
  have HQ2 := hid (H6.out.pop (by omega))
  clear H6 HQ1
  go_upto_region 8 with (go_at_call 24; refine HQ2.out.mono ?_; rintro _ w7 ⟨rfl, h7⟩; have H7 := hid h7; clear h7)
  have HL := hid (H7.out.len)
  have HB := hid H7.out.2.1
  clear H7 HQ2
  unfold sA sB sC
  go_wp2_with (go_at_call 25; refine HL.out.mono ?_; rintro _ _ ⟨rfl, y1, rfl⟩)
  go_ret
  exact Gives.mk rfl (HB.out.trans ((w7.below_past y1).mono HB.out.size))
end Go.Proofs.Ytifdogmlaengoaa
