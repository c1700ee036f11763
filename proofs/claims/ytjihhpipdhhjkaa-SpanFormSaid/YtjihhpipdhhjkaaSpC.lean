/-
  Layer 33: the first part that isn't in a set. No condition.
-/
import Derived.Test.YtjihhpipdhhjkaaSpB
namespace Go.Proofs.Ytjihhpipdhhjkaa
open Go.RowKit
/-! The first part that isn't in it. -/
def hitV (l : List (Int × Int)) (low : Int) : Bool := decide (ahF l low true < l.length) && leV (pc l (ahF l low true)).1 low
def gapW (l : List (Int × Int)) (low high : Int) (k : Nat) : Int × Int × Bool :=
  if ltV low high = true then (low, if k < l.length then mnV high (pc l k).1 else high, true) else (0, 0, false)
def gapV (l : List (Int × Int)) (low high : Int) : Int × Int × Bool :=
  if ltV low high = true then (if hitV l low = true then gapW l (pc l (ahF l low true)).2 high (ahF l low true + 1) else gapW l low high (ahF l low true)) else (0, 0, false)
set_option maxRecDepth 100000 in
set_option maxHeartbeats 4000000 in
theorem Gap_any {B : Nat} {w : World} {b : Nat} {l : List (Int × Int)} (h : SpAt B w b l) (low high : Int) :
    Calls Try.prog 10 #[.pointer (some ⟨b, 0, none⟩), .int .i64 low, .int .i64 high] w (Gives (.tuple #[.int .i64 (gapV l low high).1, .int .i64 (gapV l low high).2.1, .bool (gapV l low high).2.2]) w) := by
  have HB := hid (ahead_any h low true)
  have hle := ahF_le l low true
  have hlen := h.len
  obtain ⟨A, c, q, hc, hat⟩ := h.at
  have HF := hid (show gapV l low high = if ltV low high = true then (if hitV l low = true then gapW l (pc l (ahF l low true)).2 high (ahF l low true + 1) else gapW l low high (ahF l low true)) else (0, 0, false) from rfl)
  have HI := hid (show hitV l low = (decide (ahF l low true < l.length) && leV (pc l (ahF l low true)).1 low) from rfl)
  obtain ⟨r, er⟩ : ∃ r, ahF l low true = r := ⟨_, rfl⟩
  rw [er] at HB hle HF HI
  have HAT := hid hat
  have hbl := h.lt
  have HW := hid (fun lo k => (show gapW l lo high k = if ltV lo high = true then (lo, if k < l.length then mnV high (pc l k).1 else high, true) else (0, 0, false) from rfl))
  obtain ⟨n, en⟩ : ∃ n, l.length = n := ⟨_, rfl⟩
  rw [en] at q hle hlen hc HI HW
  have EN := hid en
  clear er en h hat
  rcases Bool.eq_false_or_eq_true (ltV low high) with h1 | h1
  · have HF1 := hid (show gapV l low high = if hitV l low = true then gapW l (pc l r).2 high (r + 1) else gapW l low high r by rw [HF.out, if_pos h1])
    have h1' := h1
    unfold ltV at h1'
    clear HF
    rcases Bool.eq_false_or_eq_true (hitV l low) with h2 | h2
    · have HF2 := hid (show gapV l low high = gapW l (pc l r).2 high (r + 1) by rw [HF1.out, if_pos h2])
      have h3 := HI.out.symm
      rw [h2] at h3
      simp only [Bool.and_eq_true, decide_eq_true_eq] at h3
      obtain ⟨hrn, hle2⟩ := h3
      obtain ⟨g, rfl, c0, c1⟩ := HAT.out r (by rw [EN.out]; omega)
      obtain ⟨z1, ez1⟩ : ∃ z, (pc l r).1 = z := ⟨_, rfl⟩
      obtain ⟨z2, ez2⟩ : ∃ z, (pc l r).2 = z := ⟨_, rfl⟩
      rw [ez1] at c0 hle2
      rw [ez2] at c1 HF2
      have h4 := hle2
      unfold leV at h4
      clear HF1 HI ez1 ez2 hle2 h2 h1
      rcases Bool.eq_false_or_eq_true (ltV z2 high) with h5 | h5
      · have h5' := h5
        unfold ltV at h5'
        by_cases h6 : r + 1 < n
        · obtain ⟨g2, e2, d0, d1⟩ := HAT.out (r + 1) (by rw [EN.out]; omega)
          cases e2
          obtain ⟨z3, ez3⟩ : ∃ z, (pc l (r + 1)).1 = z := ⟨_, rfl⟩
          rw [ez3] at d0
          have HF3 := hid (show gapV l low high = (z2, mnV high z3, true) by rw [HF2.out, HW.out, if_pos h5, if_pos h6, ez3])
          have hmn := fun ts t W => run_mn high z3 ts t W
          obtain ⟨m, em⟩ : ∃ m, mnV high z3 = m := ⟨_, rfl⟩
          rw [em] at HF3
          simp only [em] at hmn
          have hif : (if z3 < high then z3 else high) = m := em
          clear ez3 em HF2 h5 d1
          go_enter Try.func10, Try.ntmps10
          go_wp2_with (go_at_call 26; refine HB.out.mono ?_; rintro _ _ ⟨rfl, y, rfl⟩)
          go_ret3
          exact Gives.mk (by rw [HF3.out]; rfl) (w.below_past _)
        · have HF3 := hid (show gapV l low high = (z2, high, true) by rw [HF2.out, HW.out, if_pos h5, if_neg h6])
          clear HF2 h5
          go_enter Try.func10, Try.ntmps10
          go_wp2_with (go_at_call 26; refine HB.out.mono ?_; rintro _ _ ⟨rfl, y, rfl⟩)
          go_ret3
          exact Gives.mk (by rw [HF3.out]; rfl) (w.below_past _)
      · have h5' := h5
        unfold ltV at h5'
        have HF3 := hid (show gapV l low high = (0, 0, false) by rw [HF2.out, HW.out, if_neg (by rw [h5]; simp)])
        clear HF2 h5
        go_enter Try.func10, Try.ntmps10
        go_wp2_with (go_at_call 26; refine HB.out.mono ?_; rintro _ _ ⟨rfl, y, rfl⟩)
        go_ret3
        exact Gives.mk (by rw [HF3.out]; rfl) (w.below_past _)
    · have HF2 := hid (show gapV l low high = gapW l low high r by rw [HF1.out, if_neg (by rw [h2]; simp)])
      have h3 := HI.out.symm
      rw [h2] at h3
      by_cases hrn : r < n
      · have hrb : decide (r < n) = true := by simpa using hrn
        rw [hrb, Bool.true_and] at h3
        obtain ⟨g, rfl, c0, c1⟩ := HAT.out r (by rw [EN.out]; omega)
        obtain ⟨z1, ez1⟩ : ∃ z, (pc l r).1 = z := ⟨_, rfl⟩
        rw [ez1] at c0 h3
        have HF3 := hid (show gapV l low high = (low, mnV high z1, true) by rw [HF2.out, HW.out, if_pos h1, if_pos hrn, ez1])
        have h4 := h3
        unfold leV at h4
        have hmn := fun ts t W => run_mn high z1 ts t W
        obtain ⟨m, em⟩ : ∃ m, mnV high z1 = m := ⟨_, rfl⟩
        rw [em] at HF3
        simp only [em] at hmn
        have z3 := z1
        have hif : (if z1 < high then z1 else high) = m := em
        clear em HF1 HF2 HI ez1 h3 h2 h1 hrb c1 z3
        go_enter Try.func10, Try.ntmps10
        go_wp2_with (go_at_call 26; refine HB.out.mono ?_; rintro _ _ ⟨rfl, y, rfl⟩)
        go_ret3
        exact Gives.mk (by rw [HF3.out]; rfl) (w.below_past _)
      · have HF3 := hid (show gapV l low high = (low, high, true) by rw [HF2.out, HW.out, if_pos h1, if_neg hrn])
        clear HF1 HF2 HI h2 h1 h3
        go_enter Try.func10, Try.ntmps10
        go_wp2_with (go_at_call 26; refine HB.out.mono ?_; rintro _ _ ⟨rfl, y, rfl⟩)
        go_ret3
        exact Gives.mk (by rw [HF3.out]; rfl) (w.below_past _)
  · have HF1 := hid (show gapV l low high = (0, 0, false) by rw [HF.out, if_neg (by rw [h1]; simp)])
    have h1' := h1
    unfold ltV at h1'
    clear HF h1 HI
    go_enter Try.func10, Try.ntmps10
    go_wp2
    go_ret3
    exact Gives.mk (by rw [HF1.out]; rfl) (Below.refl _ w)

end Go.Proofs.Ytjihhpipdhhjkaa
