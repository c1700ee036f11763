/-
  Layer 35: one falls out: it does. No condition.
-/
import Derived.Test.YtplkekmegonenaaSwD
import Derived.Test.YtplkekmegonenaaWinG
namespace Go.Proofs.Ytplkekmegonenaa
open Go.RowKit
def be : ByteArray := ⟨#[101]⟩
def bc : ByteArray := ⟨#[99]⟩
def bd : ByteArray := ⟨#[100]⟩
def S1 : Str.Wn := ⟨1, [be], [(be, 0)], [(be, 0)]⟩
def S2 : Str.Wn := ⟨2, [be, bc], [(be, 0), (bc, 1)], [(bc, 1)]⟩
def S3 : Str.Wn := ⟨3, [bc, bd], [(bd, 2)], [(bc, 1), (bd, 2)]⟩
theorem tle : be.toList = [101] := by kernel_rfl
theorem tlc : bc.toList = [99] := by kernel_rfl
theorem tld : bd.toList = [100] := by kernel_rfl
theorem aw1 : Str.pushW 2 ⟨0, [], [], []⟩ be = (S1, ⟨#[]⟩, false) := by rfl
theorem aw2 : Str.pushW 2 S1 bc = (S2, ⟨#[]⟩, false) := by kernel_rfl
theorem aw3 : Str.pushW 2 S2 bd = (S3, be, true) := by kernel_rfl
theorem mw2 : mostW 2 = 2 := by decide
theorem awake_any (w : World) : Calls Try.prog 4 #[] w (Gives (.bool true) w) := by
  have N := Str.New_any w.heap.size 2 w (Nat.le_refl _)
  rw [mw2] at N
  replace N := hid N
  have A1 := hid (fun b w1 (h : Str.WAt w.heap.size w1 b 2 ⟨0, [], [], []⟩) (hB : w.heap.size ≤ w1.heap.size) => by have := Str.Push_any w.heap.size b 2 (by decide) ⟨0, [], [], []⟩ (by decide) (by decide) (by decide) (by decide) be w1 h hB; rw [aw1] at this; exact this)
  have A2 := hid (fun b w1 (h : Str.WAt w.heap.size w1 b 2 S1) (hB : w.heap.size ≤ w1.heap.size) => by have := Str.Push_any w.heap.size b 2 (by decide) S1 (by decide) (by decide) (by decide) (by decide) bc w1 h hB; rw [aw2] at this; exact this)
  have A3 := hid (fun b w1 (h : Str.WAt w.heap.size w1 b 2 S2) (hB : w.heap.size ≤ w1.heap.size) => by have := Str.Push_any w.heap.size b 2 (by decide) S2 (by decide) (by decide) (by decide) (by decide) bd w1 h hB; rw [aw3] at this; exact this)
  have A4 := hid (fun b w1 (h : Str.WAt w.heap.size w1 b 2 S3) => Str.Max_any h)
  have A5 := hid (fun b w1 (h : Str.WAt w.heap.size w1 b 2 S3) => Str.Min_any h)
  have A6 := hid (fun b w1 (h : Str.WAt w.heap.size w1 b 2 S3) => Str.Len_any h)
  have A7 := hid (fun b w1 (h : Str.WAt w.heap.size w1 b 2 S3) => Str.Seen_any h)
  go_enter Try.func4, Try.ntmps4
  go_wp2_with fail
  refine N.out.mono ?_
  rintro _ w1 ⟨b, rfl, h1, hb1⟩
  have s1 := hb1.size
  go_wp2_with fail
  refine (A1.out b w1 h1 s1).mono ?_
  rintro _ w2 ⟨rfl, h2, hb2⟩
  have hB2 := hb1.trans (hb2.mono (Nat.le_refl _))
  have s2 := hB2.size
  clear h1 hb1 hb2 s1
  go_wp2_with fail
  refine (A2.out b w2 h2 s2).mono ?_
  rintro _ w3 ⟨rfl, h3, hb3⟩
  have hB3 := hB2.trans hb3
  have s3 := hB3.size
  clear h2 hb3 s2 hB2
  go_wp2_with fail
  refine (A3.out b w3 h3 s3).mono ?_
  rintro _ w4 ⟨rfl, h4, hb4⟩
  have hB4 := hB3.trans hb4
  have s4 := hB4.size
  clear h3 hb4 s3 hB3
  have P4 := hid (A4.out b w4 h4)
  have P5 := hid (fun x => A5.out b (w4.past x) (h4.far (w4.below_past x)))
  have P6 := hid (fun x => A6.out b (w4.past x) (h4.far (w4.below_past x)))
  have P7 := hid (fun x => A7.out b (w4.past x) (h4.far (w4.below_past x)))
  have HB := hid hB4
  have t1 := tle
  have t2 := tlc
  have t3 := tld
  clear h4 hB4 N A1 A2 A3 A4 A5 A6 A7 s4
  go_wp2_with fail
  refine P4.out.mono ?_
  rintro _ _ ⟨rfl, x1, rfl⟩
  go_wp2_with (first | (go_at_call 17; refine (P5.out _).mono ?_; rintro _ _ ⟨rfl, _, rfl⟩) | (go_at_call 18; refine (P6.out _).mono ?_; rintro _ _ ⟨rfl, _, rfl⟩) | (go_at_call 19; refine (P7.out _).mono ?_; rintro _ _ ⟨rfl, _, rfl⟩))
  go_ret
  exact Gives.mk rfl (HB.out.trans ((w4.below_past _).mono HB.out.size))
end Go.Proofs.Ytplkekmegonenaa
