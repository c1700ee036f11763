/-
  Layer 02: a place that was dropped is taken again: it is. No condition.
-/
import Derived.Test.YtgaenonggnkknaaStr
import Derived.Test.YtgaenonggnkknaaAreF
namespace Go.Proofs.Ytgaenonggnkknaa
open Go.RowKit
def ba : ByteArray := ⟨#[97]⟩
def bb : ByteArray := ⟨#[98]⟩
def bc : ByteArray := ⟨#[99]⟩
def S1 : Ar ByteArray := ⟨[(ba, true, 0)], 0, 1⟩
def S2 : Ar ByteArray := ⟨[(ba, true, 0), (bb, true, 0)], 0, 2⟩
def S3 : Ar ByteArray := ⟨[(sz, false, 0), (bb, true, 0)], 1, 1⟩
def S4 : Ar ByteArray := ⟨[(bc, true, 0), (bb, true, 0)], 0, 2⟩
theorem tla : ba.toList = [97] := by kernel_rfl
theorem tlc : bc.toList = [99] := by kernel_rfl
theorem aw1 : putA sz 3 ⟨[], 0, 0⟩ ba = (S1, 0, 0) := by rfl
theorem aw2 : putA sz 3 S1 bb = (S2, 1, 0) := by rfl
theorem aw3 : dropA sz S2 0 = S3 := by rfl
theorem aw3' : getA sz S2 0 = (ba, true) := by rfl
theorem aw4 : putA sz 3 S3 bc = (S4, 0, 0) := by rfl
theorem aw5 : getA sz S4 0 = (bc, true) := by rfl
theorem ok1 : OkA 300 (⟨[], 0, 0⟩ : Ar ByteArray) := OkA.nil.mono (by omega)
theorem ok2 : OkA 300 S1 := ⟨by decide, by decide, fun s hs => by simp [S1] at hs; subst hs; simp, by decide, by decide⟩
theorem ok3 : OkA 300 S2 := ⟨by decide, by decide, fun s hs => by simp [S2] at hs; rcases hs with rfl | rfl <;> simp, by decide, by decide⟩
theorem ok4 : OkA 300 S3 := ⟨by decide, by decide, fun s hs => by simp [S3] at hs; rcases hs with rfl | rfl <;> simp, by decide, by decide⟩
theorem awake_any (w : World) : Calls Try.prog 5 #[] w (Gives (.bool true) w) := by
  have N := hid (fun w1 (hB : w.heap.size ≤ w1.heap.size) => (SNew_any w.heap.size 3 w1 hB : _))
  have A1 := hid (fun b w1 (h : ArSt w.heap.size w1 b 3 ⟨[], 0, 0⟩) (hB : w.heap.size ≤ w1.heap.size) => by have := SPut_any w.heap.size b 3 ⟨[], 0, 0⟩ ba w1 ok1 h hB; unfold PutP at this; rw [aw1] at this; exact this)
  have A2 := hid (fun b w1 (h : ArSt w.heap.size w1 b 3 S1) (hB : w.heap.size ≤ w1.heap.size) => by have := SPut_any w.heap.size b 3 S1 bb w1 ok2 h hB; unfold PutP at this; rw [aw2] at this; exact this)
  have A3 := hid (fun b w1 (h : ArSt w.heap.size w1 b 3 S2) (hB : w.heap.size ≤ w1.heap.size) => by have := SDrop_any w.heap.size b 3 S2 0 w1 ok3 h hB; rw [aw3, aw3'] at this; unfold ChP at this; exact this)
  have A4 := hid (fun b w1 (h : ArSt w.heap.size w1 b 3 S3) (hB : w.heap.size ≤ w1.heap.size) => by have := SPut_any w.heap.size b 3 S3 bc w1 ok4 h hB; unfold PutP at this; rw [aw4] at this; exact this)
  have A5 := hid (fun b w1 (h : ArSt w.heap.size w1 b 3 S4) => by have := SGet_any b 3 S4 0 w1 h.rd; rw [aw5] at this; exact this)
  have A6 := hid (fun b w1 (h : RdSt w1 b 3 S4) => SLen_any b 3 S4 w1 h)
  have A7 := hid (fun b w1 (h : RdSt w1 b 3 S4) => SMost_any b 3 S4 w1 h)
  go_enter Try.func5, Try.ntmps5
  go_wp2_with fail
  refine (N.out w (Nat.le_refl _)).mono ?_
  rintro _ w1 ⟨b, rfl, h1, hb1⟩
  have s1 := hb1.size
  go_wp2_with fail
  refine (A1.out b w1 h1 s1).mono ?_
  rintro _ w2 ⟨rfl, h2, hb2, _⟩
  have s2 := Nat.le_trans s1 hb2.size
  have hB2 := hb1.trans hb2
  clear h1 hb1 hb2 s1
  go_wp2_with fail
  refine (A2.out b w2 h2 s2).mono ?_
  rintro _ w3 ⟨rfl, h3, hb3, _⟩
  have s3 := Nat.le_trans s2 hb3.size
  have hB3 := hB2.trans hb3
  clear h2 hb3 s2 hB2
  go_wp2_with fail
  refine (A3.out b w3 h3 s3).mono ?_
  rintro _ w4 ⟨rfl, h4, hb4, _⟩
  have s4 := Nat.le_trans s3 hb4.size
  have hB4 := hB3.trans hb4
  clear h3 hb4 s3 hB3
  go_wp2_with fail
  refine (A4.out b w4 h4 s4).mono ?_
  rintro _ w5 ⟨rfl, h5, hb5, _⟩
  have s5 := Nat.le_trans s4 hb5.size
  have hB5 := hB4.trans hb5
  clear h4 hb5 s4 hB4
  have P5 := hid (A5.out b w5 h5)
  have P6 := hid (fun x => A6.out b (w5.past x) (h5.rd.below (w5.below_past x)))
  have P7 := hid (fun x => A7.out b (w5.past x) (h5.rd.below (w5.below_past x)))
  have HB := hid hB5
  have t1 := tla
  have t2 := tlc
  have t3 : S4.n = 2 := rfl
  rw [t3] at P6
  clear h5 hB5 N A1 A2 A3 A4 A5 A6 A7 s5
  go_wp2_with (first | (go_at_call 26; refine P5.out.mono ?_; rintro _ _ ⟨rfl, x1, rfl⟩) | (go_at_call 27; refine (P6.out _).mono ?_; rintro _ _ ⟨rfl, _, rfl⟩) | (go_at_call 28; refine (P7.out _).mono ?_; rintro _ _ ⟨rfl, _, rfl⟩))
  go_ret
  exact Gives.mk rfl (HB.out.trans ((w5.below_past _).mono HB.out.size))
end Go.Proofs.Ytgaenonggnkknaa
