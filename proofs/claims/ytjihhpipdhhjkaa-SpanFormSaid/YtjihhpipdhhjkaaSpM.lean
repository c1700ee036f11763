/-
  Layer 33: what is in rising pieces no two of which meet. Plain laws. No condition.
-/
import Derived.Test.YtjihhpipdhhjkaaSpF
namespace Go.Proofs.Ytjihhpipdhhjkaa
open Go.RowKit
def Mem (l : List (Int × Int)) (x : Int) : Prop := ∃ p ∈ l, p.1 ≤ x ∧ x < p.2
structure Good (l : List (Int × Int)) : Prop where
  one : ∀ p ∈ l, p.1 < p.2
  pw : l.Pairwise fun p q => p.2 < q.1
theorem good_nil : Good [] := ⟨fun _ h => by simp at h, List.Pairwise.nil⟩
theorem mem_append {a b : List (Int × Int)} {x : Int} : Mem (a ++ b) x ↔ Mem a x ∨ Mem b x := by
  unfold Mem
  constructor
  · rintro ⟨p, hp, h⟩
    rcases List.mem_append.1 hp with h2 | h2
    · exact .inl ⟨p, h2, h⟩
    · exact .inr ⟨p, h2, h⟩
  · rintro (⟨p, hp, h⟩ | ⟨p, hp, h⟩)
    · exact ⟨p, List.mem_append.2 (.inl hp), h⟩
    · exact ⟨p, List.mem_append.2 (.inr hp), h⟩
theorem mem_one {p : Int × Int} {x : Int} : Mem [p] x ↔ p.1 ≤ x ∧ x < p.2 := by unfold Mem; simp
theorem mem_nil {x : Int} : Mem [] x ↔ False := by unfold Mem; simp
theorem pc_mem {l : List (Int × Int)} {k : Nat} (h : k < l.length) : pc l k ∈ l := by unfold pc; rw [List.getElem?_eq_getElem h]; exact List.getElem_mem _
theorem mem_pc {l : List (Int × Int)} {p : Int × Int} (h : p ∈ l) : ∃ k, k < l.length ∧ pc l k = p := by
  obtain ⟨k, hk⟩ := List.mem_iff_getElem?.1 h
  exact ⟨k, (List.getElem?_eq_some_iff.1 hk).1, by unfold pc; rw [hk]; rfl⟩
theorem mem_take_pc {l : List (Int × Int)} {p : Int × Int} {r : Nat} (h : p ∈ l.take r) : ∃ k, k < r ∧ k < l.length ∧ pc l k = p := by
  obtain ⟨k, hk⟩ := List.mem_iff_getElem?.1 h
  rw [List.getElem?_take] at hk
  split at hk
  · rename_i hkr
    exact ⟨k, hkr, (List.getElem?_eq_some_iff.1 hk).1, by unfold pc; rw [hk]; rfl⟩
  · cases hk
theorem mem_drop_pc {l : List (Int × Int)} {p : Int × Int} {s : Nat} (h : p ∈ l.drop s) : ∃ k, s ≤ k ∧ k < l.length ∧ pc l k = p := by
  obtain ⟨k, hk⟩ := List.mem_iff_getElem?.1 h
  rw [List.getElem?_drop] at hk
  exact ⟨s + k, by omega, (List.getElem?_eq_some_iff.1 hk).1, by unfold pc; rw [hk]; rfl⟩
theorem pc_take {l : List (Int × Int)} {r k : Nat} (h : k < r) (hk : k < l.length) : pc l k ∈ l.take r := by
  refine List.mem_iff_getElem?.2 ⟨k, ?_⟩
  rw [List.getElem?_take, if_pos h, List.getElem?_eq_getElem hk]; unfold pc; rw [List.getElem?_eq_getElem hk]; rfl
theorem pc_drop {l : List (Int × Int)} {s k : Nat} (h : s ≤ k) (hk : k < l.length) : pc l k ∈ l.drop s := by
  refine List.mem_iff_getElem?.2 ⟨k - s, ?_⟩
  rw [List.getElem?_drop, show s + (k - s) = k by omega, List.getElem?_eq_getElem hk]; unfold pc; rw [List.getElem?_eq_getElem hk]; rfl
theorem Good.lt {l : List (Int × Int)} (h : Good l) {k : Nat} (hk : k < l.length) : (pc l k).1 < (pc l k).2 := h.one _ (pc_mem hk)
theorem Good.ord {l : List (Int × Int)} (h : Good l) {i j : Nat} (hij : i < j) (hj : j < l.length) : (pc l i).2 < (pc l j).1 := by
  have := List.pairwise_iff_getElem.1 h.pw i j (by omega) hj hij
  simpa [pc, List.getElem?_eq_getElem (show i < l.length by omega), List.getElem?_eq_getElem hj] using this
theorem Good.ord1 {l : List (Int × Int)} (h : Good l) {i j : Nat} (hij : i ≤ j) (hj : j < l.length) : (pc l i).1 ≤ (pc l j).1 := by
  rcases Nat.lt_or_ge i j with e | e
  · have := h.ord e hj; have := h.lt (show i < l.length by omega); omega
  · obtain rfl : i = j := by omega
    exact Int.le_refl _
theorem Good.ord2 {l : List (Int × Int)} (h : Good l) {i j : Nat} (hij : i ≤ j) (hj : j < l.length) : (pc l i).2 ≤ (pc l j).2 := by
  rcases Nat.lt_or_ge i j with e | e
  · have := h.ord e hj; have := h.lt hj; omega
  · obtain rfl : i = j := by omega
    exact Int.le_refl _
theorem mem_iff_pc {l : List (Int × Int)} {x : Int} : Mem l x ↔ ∃ k, k < l.length ∧ (pc l k).1 ≤ x ∧ x < (pc l k).2 := by
  constructor
  · rintro ⟨p, hp, h⟩
    obtain ⟨k, hk, rfl⟩ := mem_pc hp
    exact ⟨k, hk, h⟩
  · rintro ⟨k, hk, h⟩
    exact ⟨_, pc_mem hk, h⟩
theorem cmT_neg (t : Bool) (a b : Int) : cmpT t (cmV a b) < 0 ↔ a < b ∨ (t = true ∧ a = b) := by
  unfold cmpT cmV ltV
  rcases Int.lt_trichotomy a b with h | h | h
  · simp [h]
  · subst h; cases t <;> simp
  · have h1 : ¬ a < b := by omega
    have h2 : ¬ a = b := by omega
    simp [h, h1, h2]
theorem ah_spec {l : List (Int × Int)} (h : Good l) (x : Int) (t : Bool) : (∀ k, k < ahF l x t → (pc l k).2 < x ∨ (t = true ∧ (pc l k).2 = x)) ∧ (∀ k, ahF l x t ≤ k → k < l.length → ¬ ((pc l k).2 < x ∨ (t = true ∧ (pc l k).2 = x))) := by
  have := bsN_spec (f := fun k => cmpT t (cmV (pc l k).2 x)) (n := l.length) (fun i j hij hj hf => by
    rw [cmT_neg] at hf ⊢
    rcases Nat.lt_or_ge i j with e | e
    · have h1 := h.ord e hj
      have h2 := h.lt hj
      exact .inl (by omega)
    · obtain rfl : i = j := by omega
      exact hf)
  refine ⟨fun k hk => (cmT_neg _ _ _).1 (this.1 k hk), fun k hk hk2 hc => this.2 k hk hk2 ((cmT_neg _ _ _).2 hc)⟩
theorem be_spec {l : List (Int × Int)} (h : Good l) (x : Int) (t : Bool) : (∀ k, k < beF l x t → (pc l k).1 < x ∨ (t = true ∧ (pc l k).1 = x)) ∧ (∀ k, beF l x t ≤ k → k < l.length → ¬ ((pc l k).1 < x ∨ (t = true ∧ (pc l k).1 = x))) := by
  have := bsN_spec (f := fun k => cmpT t (cmV (pc l k).1 x)) (n := l.length) (fun i j hij hj hf => by
    rw [cmT_neg] at hf ⊢
    rcases Nat.lt_or_ge i j with e | e
    · have h1 := h.ord e hj
      have h2 := h.lt (show i < l.length by omega)
      exact .inl (by omega)
    · obtain rfl : i = j := by omega
      exact hf)
  refine ⟨fun k hk => (cmT_neg _ _ _).1 (this.1 k hk), fun k hk hk2 hc => this.2 k hk hk2 ((cmT_neg _ _ _).2 hc)⟩
/-- What is in it. -/
theorem has_mem {l : List (Int × Int)} (h : Good l) (x : Int) : hasV l x = true ↔ Mem l x := by
  obtain ⟨s1, s2⟩ := be_spec h x true
  have hle := beF_le l x true
  unfold hasV ltV
  rw [Bool.and_eq_true, decide_eq_true_eq, decide_eq_true_eq, mem_iff_pc]
  obtain ⟨r, er⟩ : ∃ r, beF l x true = r := ⟨_, rfl⟩
  rw [er] at s1 s2 hle ⊢
  constructor
  · rintro ⟨h0, h1⟩
    have := s1 (r - 1) (by omega)
    exact ⟨r - 1, by omega, by rcases this with g | ⟨_, g⟩ <;> omega, h1⟩
  · rintro ⟨k, hk, h1, h2⟩
    have hkr : k < r := by
      rcases Nat.lt_or_ge k r with g | g
      · exact g
      · exact (s2 k g hk (by rcases Int.lt_or_eq_of_le h1 with q | q; exact .inl q; exact .inr ⟨rfl, q⟩)).elim
    refine ⟨by omega, ?_⟩
    have := h.ord2 (show k ≤ r - 1 by omega) (by omega)
    omega
theorem good_append {a b : List (Int × Int)} : Good (a ++ b) ↔ Good a ∧ Good b ∧ ∀ p ∈ a, ∀ q ∈ b, p.2 < q.1 := by
  constructor
  · rintro ⟨h1, h2⟩
    rw [List.pairwise_append] at h2
    exact ⟨⟨fun p hp => h1 p (by simp [hp]), h2.1⟩, ⟨fun p hp => h1 p (by simp [hp]), h2.2.1⟩, h2.2.2⟩
  · rintro ⟨h1, h2, h3⟩
    exact ⟨fun p hp => by rcases List.mem_append.1 hp with h | h; exact h1.one p h; exact h2.one p h, List.pairwise_append.2 ⟨h1.pw, h2.pw, h3⟩⟩
theorem good_one {p : Int × Int} (h : p.1 < p.2) : Good [p] := ⟨fun q hq => by simp at hq; subst hq; exact h, by simp⟩
theorem Good.take {l : List (Int × Int)} (h : Good l) (r : Nat) : Good (l.take r) := ⟨fun p hp => h.one p (List.mem_of_mem_take hp), h.pw.sublist (List.take_sublist _ _)⟩
theorem Good.drop {l : List (Int × Int)} (h : Good l) (r : Nat) : Good (l.drop r) := ⟨fun p hp => h.one p (List.mem_of_mem_drop hp), h.pw.sublist (List.drop_sublist _ _)⟩
theorem add_ord {l : List (Int × Int)} (h : Good l) {low high : Int} (hlt : low < high) : ahF l low false ≤ beF l high true := by
  obtain ⟨s1, s2⟩ := ah_spec h low false
  obtain ⟨t1, t2⟩ := be_spec h high true
  have l1 := ahF_le l low false
  rcases Nat.lt_or_ge (beF l high true) (ahF l low false) with g | g
  · have a := s1 _ g
    have b := t2 _ (Nat.le_refl _) (by omega)
    have c := h.lt (show beF l high true < l.length by omega)
    simp at a b
    omega
  · exact g
/-- All of that joins it. -/
theorem add_good {l : List (Int × Int)} (h : Good l) {low high : Int} (hlt : low < high) : Good (addL l low high) ∧ (∀ x, Mem (addL l low high) x ↔ Mem l x ∨ (low ≤ x ∧ x < high)) ∧ (addL l low high).length ≤ l.length + 1 := by
  have hrs := add_ord h hlt
  obtain ⟨s1, s2⟩ := ah_spec h low false
  obtain ⟨t1, t2⟩ := be_spec h high true
  have l2 := beF_le l high true
  have e1 : addL l low high = l.take (ahF l low false) ++ [addP l low high] ++ l.drop (beF l high true) := by unfold addL; rw [if_pos (by unfold ltV; simpa using hlt)]
  have e2 : addP l low high = if ahF l low false < beF l high true then (mnV low (pc l (ahF l low false)).1, mxV high (pc l (beF l high true - 1)).2) else (low, high) := rfl
  obtain ⟨r, er⟩ : ∃ r, ahF l low false = r := ⟨_, rfl⟩
  obtain ⟨s, es⟩ : ∃ s, beF l high true = s := ⟨_, rfl⟩
  obtain ⟨p, ep⟩ : ∃ p, addP l low high = p := ⟨_, rfl⟩
  rw [er, es] at hrs e1 e2
  rw [er] at s1 s2
  rw [es] at t1 t2 l2
  rw [ep] at e1 e2
  have s1' : ∀ k, k < r → (pc l k).2 < low := fun k hk => by have := s1 k hk; simpa using this
  have s2' : ∀ k, r ≤ k → k < l.length → low ≤ (pc l k).2 := fun k hk hk2 => by have := s2 k hk hk2; simpa using this
  have t1' : ∀ k, k < s → (pc l k).1 ≤ high := fun k hk => by have := t1 k hk; simp at this; omega
  have t2' : ∀ k, s ≤ k → k < l.length → high < (pc l k).1 := fun k hk hk2 => by have := t2 k hk hk2; simp at this; omega
  have hp1 : p.1 ≤ low ∧ high ≤ p.2 ∧ (∀ k, k < r → (pc l k).2 < p.1) ∧ (∀ k, s ≤ k → k < l.length → p.2 < (pc l k).1) ∧ (∀ k, r ≤ k → k < s → p.1 ≤ (pc l k).1 ∧ (pc l k).2 ≤ p.2) ∧ (∀ x, p.1 ≤ x → x < low → ∃ k, k < l.length ∧ (pc l k).1 ≤ x ∧ x < (pc l k).2) ∧ (∀ x, high ≤ x → x < p.2 → ∃ k, k < l.length ∧ (pc l k).1 ≤ x ∧ x < (pc l k).2) := by
    by_cases hc : r < s
    · rw [if_pos hc] at e2
      have ea : p.1 = mnV low (pc l r).1 := by rw [e2]
      have eb : p.2 = mxV high (pc l (s - 1)).2 := by rw [e2]
      have m1 : p.1 ≤ low ∧ p.1 ≤ (pc l r).1 ∧ (p.1 = low ∨ p.1 = (pc l r).1) := by rw [ea]; unfold mnV; split <;> omega
      have m2 : high ≤ p.2 ∧ (pc l (s - 1)).2 ≤ p.2 ∧ (p.2 = high ∨ p.2 = (pc l (s - 1)).2) := by rw [eb]; unfold mxV; split <;> omega
      refine ⟨m1.1, m2.1, fun k hk => ?_, fun k hk hk2 => ?_, fun k hk hk2 => ?_, fun x h1 h2 => ?_, fun x h1 h2 => ?_⟩
      · have := s1' k hk
        have := h.ord hk (show r < l.length by omega)
        omega
      · have := t2' k hk hk2
        have := h.ord (show s - 1 < k by omega) hk2
        omega
      · have := h.ord1 hk (show k < l.length by omega)
        have := h.ord2 (show k ≤ s - 1 by omega) (show s - 1 < l.length by omega)
        omega
      · have := s2' r (Nat.le_refl _) (by omega)
        exact ⟨r, by omega, by omega, by omega⟩
      · have := t1' (s - 1) (by omega)
        exact ⟨s - 1, by omega, by omega, by omega⟩
    · rw [if_neg hc] at e2
      have ea : p.1 = low := by rw [e2]
      have eb : p.2 = high := by rw [e2]
      refine ⟨by omega, by omega, fun k hk => by have := s1' k hk; omega, fun k hk hk2 => by have := t2' k hk hk2; omega, fun k hk hk2 => by omega, fun x h1 h2 => by omega, fun x h1 h2 => by omega⟩
  obtain ⟨q1, q2, q3, q4, q5, q6, q7⟩ := hp1
  refine ⟨?_, fun x => ?_, ?_⟩
  · rw [e1, good_append, good_append]
    refine ⟨⟨h.take r, good_one (by omega), fun a ha b hb => ?_⟩, h.drop s, fun a ha b hb => ?_⟩
    · obtain ⟨k, hk, _, rfl⟩ := mem_take_pc ha
      simp at hb; subst hb
      exact q3 k hk
    · obtain ⟨j, hj, hj2, rfl⟩ := mem_drop_pc hb
      rcases List.mem_append.1 ha with ha | ha
      · obtain ⟨k, hk, _, rfl⟩ := mem_take_pc ha
        exact h.ord (by omega) hj2
      · simp at ha; subst ha
        exact q4 j hj hj2
  · rw [e1, mem_append, mem_append, mem_one]
    constructor
    · rintro ((⟨a, ha, h1⟩ | ⟨h1, h2⟩) | ⟨a, ha, h1⟩)
      · exact .inl ⟨a, List.mem_of_mem_take ha, h1⟩
      · by_cases c1 : x < low
        · exact .inl (mem_iff_pc.2 (q6 x h1 c1))
        · by_cases c2 : x < high
          · exact .inr ⟨by omega, c2⟩
          · exact .inl (mem_iff_pc.2 (q7 x (by omega) h2))
      · exact .inl ⟨a, List.mem_of_mem_drop ha, h1⟩
    · rintro (hm | ⟨h1, h2⟩)
      · obtain ⟨k, hk, h1, h2⟩ := mem_iff_pc.1 hm
        by_cases c1 : k < r
        · exact .inl (.inl ⟨_, pc_take c1 hk, h1, h2⟩)
        · by_cases c2 : k < s
          · have := q5 k (by omega) c2
            exact .inl (.inr ⟨by omega, by omega⟩)
          · exact .inr ⟨_, pc_drop (by omega) hk, h1, h2⟩
      · exact .inl (.inr ⟨by omega, by omega⟩)
  · rw [e1]
    simp only [List.length_append, List.length_take, List.length_drop, List.length_cons, List.length_nil]
    omega
end Go.Proofs.Ytjihhpipdhhjkaa
