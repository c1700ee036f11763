/-
  Layer 33: the first part that isn't in a set, of strings. No condition.
-/
import Derived.Test.YtjihhpipdhhjkaaSpC
import Derived.Test.YtjihhpipdhhjkaaSpBS
namespace Go.Proofs.Ytjihhpipdhhjkaa
open Go.RowKit
/-! The first part that isn't in it. -/
def hitVS (l : List (ByteArray × ByteArray)) (low : ByteArray) : Bool := decide (ahFS l low true < l.length) && leVS (pcS l (ahFS l low true)).1 low
def gapWS (l : List (ByteArray × ByteArray)) (low high : ByteArray) (k : Nat) : ByteArray × ByteArray × Bool :=
  if ltVS low high = true then (low, if k < l.length then mnVS high (pcS l k).1 else high, true) else (⟨#[]⟩, ⟨#[]⟩, false)
def gapVS (l : List (ByteArray × ByteArray)) (low high : ByteArray) : ByteArray × ByteArray × Bool :=
  if ltVS low high = true then (if hitVS l low = true then gapWS l (pcS l (ahFS l low true)).2 high (ahFS l low true + 1) else gapWS l low high (ahFS l low true)) else (⟨#[]⟩, ⟨#[]⟩, false)
set_option maxRecDepth 100000 in
set_option maxHeartbeats 4000000 in
theorem GapS_any {B : Nat} {w : World} {b : Nat} {l : List (ByteArray × ByteArray)} (h : SpAtS B w b l) (low high : ByteArray) :
    Calls Try.prog 23 #[.pointer (some ⟨b, 0, none⟩), .string low, .string high] w (Gives (.tuple #[.string (gapVS l low high).1, .string (gapVS l low high).2.1, .bool (gapVS l low high).2.2]) w) := by
  have HB := hid (aheadS_any h low true)
  have hle := ahFS_le l low true
  have hlen := h.len
  obtain ⟨A, c, q, hc, hat⟩ := h.at
  have HF := hid (show gapVS l low high = if ltVS low high = true then (if hitVS l low = true then gapWS l (pcS l (ahFS l low true)).2 high (ahFS l low true + 1) else gapWS l low high (ahFS l low true)) else (⟨#[]⟩, ⟨#[]⟩, false) from rfl)
  have HI := hid (show hitVS l low = (decide (ahFS l low true < l.length) && leVS (pcS l (ahFS l low true)).1 low) from rfl)
  obtain ⟨r, er⟩ : ∃ r, ahFS l low true = r := ⟨_, rfl⟩
  rw [er] at HB hle HF HI
  have HAT := hid hat
  have hbl := h.lt
  have HW := hid (fun lo k => (show gapWS l lo high k = if ltVS lo high = true then (lo, if k < l.length then mnVS high (pcS l k).1 else high, true) else (⟨#[]⟩, ⟨#[]⟩, false) from rfl))
  obtain ⟨n, en⟩ : ∃ n, l.length = n := ⟨_, rfl⟩
  rw [en] at q hle hlen hc HI HW
  have EN := hid en
  clear er en h hat
  rcases Bool.eq_false_or_eq_true (ltVS low high) with h1 | h1
  · have HF1 := hid (show gapVS l low high = if hitVS l low = true then gapWS l (pcS l r).2 high (r + 1) else gapWS l low high r by rw [HF.out, if_pos h1])
    have h1' := h1
    unfold ltVS at h1'
    clear HF
    rcases Bool.eq_false_or_eq_true (hitVS l low) with h2 | h2
    · have HF2 := hid (show gapVS l low high = gapWS l (pcS l r).2 high (r + 1) by rw [HF1.out, if_pos h2])
      have h3 := HI.out.symm
      rw [h2] at h3
      simp only [Bool.and_eq_true, decide_eq_true_eq] at h3
      obtain ⟨hrn, hle2⟩ := h3
      obtain ⟨g, rfl, c0, c1⟩ := HAT.out r (by rw [EN.out]; omega)
      obtain ⟨z1, ez1⟩ : ∃ z, (pcS l r).1 = z := ⟨_, rfl⟩
      obtain ⟨z2, ez2⟩ : ∃ z, (pcS l r).2 = z := ⟨_, rfl⟩
      rw [ez1] at c0 hle2
      rw [ez2] at c1 HF2
      have h4 := hle2
      unfold leVS at h4
      clear HF1 HI ez1 ez2 hle2 h2 h1
      rcases Bool.eq_false_or_eq_true (ltVS z2 high) with h5 | h5
      · have h5' := h5
        unfold ltVS at h5'
        by_cases h6 : r + 1 < n
        · obtain ⟨g2, e2, d0, d1⟩ := HAT.out (r + 1) (by rw [EN.out]; omega)
          cases e2
          obtain ⟨z3, ez3⟩ : ∃ z, (pcS l (r + 1)).1 = z := ⟨_, rfl⟩
          rw [ez3] at d0
          have HF3 := hid (show gapVS l low high = (z2, mnVS high z3, true) by rw [HF2.out, HW.out, if_pos h5, if_pos h6, ez3])
          have hmn := fun ts t W => run_mnS high z3 ts t W
          obtain ⟨m, em⟩ : ∃ m, mnVS high z3 = m := ⟨_, rfl⟩
          rw [em] at HF3
          simp only [em] at hmn
          skip
          clear ez3 em HF2 h5 d1
          go_enter Try.func23, Try.ntmps23
          go_wp2_with (go_at_call 31; refine HB.out.mono ?_; rintro _ _ ⟨rfl, y, rfl⟩)
          go_ret3
          exact Gives.mk (by rw [HF3.out]; rfl) (w.below_past _)
        · have HF3 := hid (show gapVS l low high = (z2, high, true) by rw [HF2.out, HW.out, if_pos h5, if_neg h6])
          clear HF2 h5
          go_enter Try.func23, Try.ntmps23
          go_wp2_with (go_at_call 31; refine HB.out.mono ?_; rintro _ _ ⟨rfl, y, rfl⟩)
          go_ret3
          exact Gives.mk (by rw [HF3.out]; rfl) (w.below_past _)
      · have h5' := h5
        unfold ltVS at h5'
        have HF3 := hid (show gapVS l low high = (⟨#[]⟩, ⟨#[]⟩, false) by rw [HF2.out, HW.out, if_neg (by rw [h5]; simp)])
        clear HF2 h5
        go_enter Try.func23, Try.ntmps23
        go_wp2_with (go_at_call 31; refine HB.out.mono ?_; rintro _ _ ⟨rfl, y, rfl⟩)
        go_ret3
        exact Gives.mk (by rw [HF3.out]; rfl) (w.below_past _)
    · have HF2 := hid (show gapVS l low high = gapWS l low high r by rw [HF1.out, if_neg (by rw [h2]; simp)])
      have h3 := HI.out.symm
      rw [h2] at h3
      by_cases hrn : r < n
      · have hrb : decide (r < n) = true := by simpa using hrn
        rw [hrb, Bool.true_and] at h3
        obtain ⟨g, rfl, c0, c1⟩ := HAT.out r (by rw [EN.out]; omega)
        obtain ⟨z1, ez1⟩ : ∃ z, (pcS l r).1 = z := ⟨_, rfl⟩
        rw [ez1] at c0 h3
        have HF3 := hid (show gapVS l low high = (low, mnVS high z1, true) by rw [HF2.out, HW.out, if_pos h1, if_pos hrn, ez1])
        have h4 := h3
        unfold leVS at h4
        have hmn := fun ts t W => run_mnS high z1 ts t W
        obtain ⟨m, em⟩ : ∃ m, mnVS high z1 = m := ⟨_, rfl⟩
        rw [em] at HF3
        simp only [em] at hmn
        have z3 := z1
        skip
        clear em HF1 HF2 HI ez1 h3 h2 h1 hrb c1 z3
        go_enter Try.func23, Try.ntmps23
        go_wp2_with (go_at_call 31; refine HB.out.mono ?_; rintro _ _ ⟨rfl, y, rfl⟩)
        go_ret3
        exact Gives.mk (by rw [HF3.out]; rfl) (w.below_past _)
      · have HF3 := hid (show gapVS l low high = (low, high, true) by rw [HF2.out, HW.out, if_pos h1, if_neg hrn])
        clear HF1 HF2 HI h2 h1 h3
        go_enter Try.func23, Try.ntmps23
        go_wp2_with (go_at_call 31; refine HB.out.mono ?_; rintro _ _ ⟨rfl, y, rfl⟩)
        go_ret3
        exact Gives.mk (by rw [HF3.out]; rfl) (w.below_past _)
  · have HF1 := hid (show gapVS l low high = (⟨#[]⟩, ⟨#[]⟩, false) by rw [HF.out, if_neg (by rw [h1]; simp)])
    have h1' := h1
    unfold ltVS at h1'
    clear HF h1 HI
    go_enter Try.func23, Try.ntmps23
    go_wp2
    go_ret3
    exact Gives.mk (by rw [HF1.out]; rfl) (Below.refl _ w)

end Go.Proofs.Ytjihhpipdhhjkaa
