/-
  Layer 35: what a window holds behind the first of a list is the document's. No program in sight.
-/
import Derived.Test.YtplkekmegonenaaWinE
import Derived.Test.YtplkekmegonenaaWinC
namespace Go.Proofs.Ytplkekmegonenaa
open Go.RowKit
def runW (m : Nat) (L : List Int) : Nat → Wn
  | 0 => ⟨0, [], [], []⟩
  | k + 1 => (pushW m (runW m L k) (atL L k)).1
structure IsW (m : Nat) (L : List Int) (k : Nat) (S : Wn) : Prop where
  seen : S.seen = k
  l : S.l = lastF (L.take k) m
  hi : InvB 1 L k (k - m) S.hi
  lw : InvB (-1) L k (k - m) S.lw
  nh : S.hi.length ≤ k
  nw : S.lw.length ≤ k
theorem last_len {m k : Nat} {L : List Int} (hk : k ≤ L.length) : (lastF (L.take k) m).length = min k m := by
  unfold lastF; rw [List.length_drop, List.length_take]; omega
theorem take_snoc {L : List Int} {k : Nat} (hk : k < L.length) : L.take (k + 1) = L.take k ++ [atL L k] := by
  rw [List.take_add_one]
  congr 1
  unfold atL
  rw [List.getElem?_eq_getElem hk]; rfl
theorem last_at {m k i : Nat} {L : List Int} (hk : k ≤ L.length) (hi : i < min k m) : atL (lastF (L.take k) m) i = atL L (k - m + i) := by
  unfold lastF atL
  rw [List.getElem?_drop, List.length_take, Nat.min_eq_left hk, List.getElem?_take_of_lt (by omega)]
theorem last_snoc {m k : Nat} {L : List Int} (hk : k < L.length) (hm : 1 ≤ m) : lastF (L.take (k + 1)) m = if k + 1 ≤ m then lastF (L.take k) m ++ [atL L k] else (lastF (L.take k) m ++ [atL L k]).tail := by
  unfold lastF
  rw [take_snoc hk]
  have hl : (L.take k).length = k := by rw [List.length_take]; omega
  simp only [List.length_append, hl, List.length_singleton]
  by_cases h : k + 1 ≤ m
  · rw [if_pos h, show k + 1 - m = 0 by omega, show k - m = 0 by omega]; simp
  · rw [if_neg h, ← List.drop_one, ← List.drop_append_of_le_length (by omega), List.drop_drop]
    congr 1; omega
theorem IsW.nil (m : Nat) (L : List Int) : IsW m L 0 ⟨0, [], [], []⟩ :=
  ⟨rfl, by simp [lastF], by rw [Nat.zero_sub]; exact InvB.nil _ _, by rw [Nat.zero_sub]; exact InvB.nil _ _, Nat.le_refl _, Nat.le_refl _⟩
theorem IsW.push {m k : Nat} {L : List Int} {S : Wn} (h : IsW m L k S) (hm : 1 ≤ m) (hk : k < L.length) : IsW m L (k + 1) (pushW m S (atL L k)).1 := by
  have hl : S.l.length = min k m := by rw [h.l]; exact last_len (by omega)
  have p1 := h.hi.push (by omega : k - m ≤ k)
  have p2 := h.lw.push (by omega : k - m ≤ k)
  have q1 := push_length 1 S.hi (atL L k, (S.seen : Int))
  have q2 := push_length (-1) S.lw (atL L k, (S.seen : Int))
  have n1 := h.nh
  have n2 := h.nw
  unfold pushW
  by_cases hf : k + 1 ≤ m
  · rw [if_pos (by omega)]
    refine ⟨by simp only [h.seen], ?_, ?_, ?_, ?_, ?_⟩
    · simp only [h.l]; rw [last_snoc hk hm, if_pos hf]
    · simp only [h.seen]; rw [show k + 1 - m = k - m by omega]; exact p1
    · simp only [h.seen]; rw [show k + 1 - m = k - m by omega]; exact p2
    · simp only; omega
    · simp only; omega
  · have e : ((k : Int) + 1 - m) = ((k + 1 - m : Nat) : Int) := by omega
    have d1 := drop_length (pushB 1 S.hi (atL L k, (S.seen : Int))) ((S.seen : Int) + 1 - m)
    have d2 := drop_length (pushB (-1) S.lw (atL L k, (S.seen : Int))) ((S.seen : Int) + 1 - m)
    rw [if_neg (by omega)]
    refine ⟨by simp only [h.seen], ?_, ?_, ?_, ?_, ?_⟩
    · simp only [h.l]; rw [last_snoc hk hm, if_neg hf]
    · simp only [h.seen]; rw [e]; exact p1.drop (by omega)
    · simp only [h.seen]; rw [e]; exact p2.drop (by omega)
    · simp only; omega
    · simp only; omega
theorem run_is {m : Nat} (L : List Int) (hm : 1 ≤ m) : ∀ k, k ≤ L.length → IsW m L k (runW m L k)
  | 0, _ => IsW.nil m L
  | k + 1, h => (run_is L hm k (by omega)).push hm (by omega)
theorem high_is (l : List Int) : ∀ n, 1 ≤ n → (∀ i, i < n → atL l i ≤ highK l n) ∧ ∃ i, i < n ∧ highK l n = atL l i
  | 0, h => by omega
  | 1, _ => by
    have e : highK l 1 = atL l 0 := by show max (atL l 0) (atL l 0) = _; omega
    exact ⟨fun i hi => by obtain rfl : i = 0 := by omega
                          rw [e]; exact Int.le_refl _, 0, by omega, e⟩
  | n + 2, _ => by
    obtain ⟨h1, i, hi, h2⟩ := high_is l (n + 1) (by omega)
    have e : highK l (n + 2) = max (highK l (n + 1)) (atL l (n + 1)) := rfl
    refine ⟨fun j hj => ?_, ?_⟩
    · by_cases h : j < n + 1
      · have := h1 j h; omega
      · obtain rfl : j = n + 1 := by omega
        omega
    · by_cases h : atL l (n + 1) ≤ highK l (n + 1)
      · exact ⟨i, by omega, by omega⟩
      · exact ⟨n + 1, by omega, by omega⟩
theorem low_is (l : List Int) : ∀ n, 1 ≤ n → (∀ i, i < n → lowK l n ≤ atL l i) ∧ ∃ i, i < n ∧ lowK l n = atL l i
  | 0, h => by omega
  | 1, _ => by
    have e : lowK l 1 = atL l 0 := by show min (atL l 0) (atL l 0) = _; omega
    exact ⟨fun i hi => by obtain rfl : i = 0 := by omega
                          rw [e]; exact Int.le_refl _, 0, by omega, e⟩
  | n + 2, _ => by
    obtain ⟨h1, i, hi, h2⟩ := low_is l (n + 1) (by omega)
    have e : lowK l (n + 2) = min (lowK l (n + 1)) (atL l (n + 1)) := rfl
    refine ⟨fun j hj => ?_, ?_⟩
    · by_cases h : j < n + 1
      · have := h1 j h; omega
      · obtain rfl : j = n + 1 := by omega
        omega
    · by_cases h : lowK l (n + 1) ≤ atL l (n + 1)
      · exact ⟨i, by omega, by omega⟩
      · exact ⟨n + 1, by omega, by omega⟩
theorem IsW.high {m k : Nat} {L : List Int} {S : Wn} (h : IsW m L k S) (hm : 1 ≤ m) (h1 : 1 ≤ k) (hk : k ≤ L.length) : topF S.hi = (highE (lastF (L.take k) m) (min k m), true) := by
  obtain ⟨y, t, e, ⟨i, hi, hi2, ey⟩, hb⟩ := h.hi.top (by omega)
  have hn : 1 ≤ min k m := by omega
  obtain ⟨g1, j, hj, g2⟩ := high_is (lastF (L.take k) m) (min k m) hn
  have g3 := g1 (i - (k - m)) (by omega)
  rw [last_at hk (by omega), show k - m + (i - (k - m)) = i by omega] at g3
  rw [last_at hk hj] at g2
  have g4 := hb (k - m + j) (by omega) (by omega)
  have : y.1 = highK (lastF (L.take k) m) (min k m) := by omega
  rw [e]
  show (y.1, true) = _
  rw [this]
  unfold highE
  rw [if_neg (by omega)]
theorem IsW.low {m k : Nat} {L : List Int} {S : Wn} (h : IsW m L k S) (hm : 1 ≤ m) (h1 : 1 ≤ k) (hk : k ≤ L.length) : topF S.lw = (lowE (lastF (L.take k) m) (min k m), true) := by
  obtain ⟨y, t, e, ⟨i, hi, hi2, ey⟩, hb⟩ := h.lw.top (by omega)
  have hn : 1 ≤ min k m := by omega
  obtain ⟨g1, j, hj, g2⟩ := low_is (lastF (L.take k) m) (min k m) hn
  have g3 := g1 (i - (k - m)) (by omega)
  rw [last_at hk (by omega), show k - m + (i - (k - m)) = i by omega] at g3
  rw [last_at hk hj] at g2
  have g4 := hb (k - m + j) (by omega) (by omega)
  have : y.1 = lowK (lastF (L.take k) m) (min k m) := by omega
  rw [e]
  show (y.1, true) = _
  rw [this]
  unfold lowE
  rw [if_neg (by omega)]
/-- What one push tells. -/
theorem IsW.fell {m k : Nat} {L : List Int} {S : Wn} (h : IsW m L k S) (hm : 1 ≤ m) (hk : k < L.length) :
    (k + 1 ≤ m ∧ (pushW m S (atL L k)).2 = (0, false)) ∨ (m ≤ k ∧ (pushW m S (atL L k)).2 = (atL (lastF (L.take k) m) 0, true)) := by
  have hl : S.l.length = min k m := by rw [h.l]; exact last_len (by omega)
  unfold pushW
  by_cases hf : k + 1 ≤ m
  · exact .inl ⟨hf, by rw [if_pos (by omega)]⟩
  · refine .inr ⟨by omega, ?_⟩
    rw [if_neg (by omega)]
    show ((S.l ++ [atL L k]).head?.getD 0, true) = _
    rw [← h.l]
    cases e : S.l with
    | nil => rw [e] at hl; simp at hl; omega
    | cons a t => rfl
end Go.Proofs.Ytplkekmegonenaa
