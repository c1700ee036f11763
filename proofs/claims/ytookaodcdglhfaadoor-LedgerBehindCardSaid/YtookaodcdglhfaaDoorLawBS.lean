/-
  Layer 18: how far a party is behind, tick by tick. No program in sight. No condition.
-/
import Derived.Test.YtookaodcdglhfaaDoorCeil
namespace Go.Proofs.YtookaodcdglhfaaDoor
/-- What is true of a ledger that is charged c times at the most. -/
structure InvC (n : Nat) (c : Int) (S : Lg) : Prop where
  ok : OkG S
  len : S.l.length = n
  vs : ∀ k, k < n → (pt S.l k).v ≤ 720720 * c
theorem add_plain {a b : Int} (ha : U64 a) (hb : U64 b) (h : a + b < 18446744073709551616) : addF a b = a + b := by rw [(add_val ha hb).1, if_pos h]
theorem InvC.charge {n : Nat} {c : Int} {S : Lg} (h : InvC n c S) (hc : 0 ≤ c) (hc2 : c ≤ 100) (p : Int) : InvC n (c + 1) (chargeF S p) := by
  refine ⟨h.ok.charge p, ?_, fun k hk => ?_⟩
  · unfold chargeF; split
    · show (S.l.set _ _).length = n; rw [List.length_set]; exact h.len
    · exact h.len
  · have hk0 := h.vs k hk
    unfold chargeF
    split
    · rename_i e
      obtain ⟨e0, e1⟩ := isP_iff.1 e
      simp only
      by_cases q : p.toNat = k
      · subst q
        rw [pt_set_self (by rw [h.len]; exact hk)]
        have hv := (h.ok.at (k := p.toNat) (by rw [h.len]; exact hk)).1
        have hl := lock_in (pt S.l p.toNat).w
        show addF (pt S.l p.toNat).v (lockF (pt S.l p.toNat).w) ≤ _
        rw [add_plain hv (lock_u64 _) (by omega)]
        omega
      · rw [pt_set_ne q]; omega
    · omega
/-- How far it is. -/
structure InvD (n y : Nat) (mk : Nat) (r : Int) (S : Lg) : Prop where
  ok : OkG S
  len : S.l.length = n
  vs : ∀ k, k < n → (pt S.l k).v ≤ 29549520
  vy : (pt S.l y).v ≤ 28828800
  beh : behK S.l y (fun _ => true) n = r
theorem InvD.step {n y mk : Nat} {r : Int} {S : Lg} (h : InvD n y mk r S) (hy : y < n) (hr : 0 < r) (hmk : ∀ i, i < n → mk.testBit i = decide (i ≠ y)) :
    ∃ j, leastF S.l mk = some j ∧ j < n ∧ j ≠ y ∧ (pt S.l j).v < (pt S.l y).v ∧ InvD n y mk (r - 1) (chargeF S j) := by
  obtain ⟨i, hi, _, hlt⟩ := beh_some (l := S.l) (y := y) (has := fun _ => true) n (by rw [h.len]; exact Nat.le_refl _) (by rw [h.beh]; exact hr)
  have hiy : i ≠ y := by intro e; subst e; omega
  have hl : leastF S.l mk = leastK S.l (fun k => mk.testBit k) n := by unfold leastF; rw [h.len]
  obtain ⟨g1, g2⟩ := leastK_is S.l (fun k => mk.testBit k) n (by rw [h.len]; exact Nat.le_refl _)
  cases ej : leastK S.l (fun k => mk.testBit k) n with
  | none =>
    have := g1 ej i hi
    rw [hmk i hi] at this
    simp [hiy] at this
  | some j =>
    obtain ⟨a1, a2, a3, _⟩ := g2 j ej
    rw [hmk j a1] at a2
    have hjy : j ≠ y := by simpa using a2
    have hij := a3 i hi (by rw [hmk i hi]; simp [hiy])
    have hjl : j < S.l.length := by rw [h.len]; exact a1
    have hvj := (h.ok.at hjl).1
    have hadd := add_plain hvj (lock_u64 (pt S.l j).w) (by have := lock_in (pt S.l j).w; have := h.vs j a1; omega)
    have hlt2 : (pt S.l j).v < (pt S.l y).v := by omega
    refine ⟨j, by rw [hl, ej], a1, hjy, hlt2, ?_⟩
    have hch : (chargeF S j) = { S with l := S.l.set j (chargeP (pt S.l j)) } := by
      unfold chargeF; rw [if_pos (isP_iff.2 ⟨by omega, by omega⟩)]; rfl
    refine ⟨h.ok.charge _, by rw [hch]; show (S.l.set _ _).length = n; rw [List.length_set]; exact h.len, fun k hk => ?_, ?_, ?_⟩
    · rw [hch]
      show (pt (S.l.set j _) k).v ≤ _
      by_cases q : j = k
      · subst q
        rw [pt_set_self hjl]
        show addF (pt S.l j).v (lockF (pt S.l j).w) ≤ _
        rw [hadd]
        have := lock_in (pt S.l j).w
        have := h.vy
        omega
      · rw [pt_set_ne q]; exact h.vs k hk
    · rw [hch]
      show (pt (S.l.set j _) y).v ≤ _
      rw [pt_set_ne hjy]; exact h.vy
    · rw [hch]
      show behK (S.l.set j (chargeP (pt S.l j))) y (fun _ => true) n = _
      have := beh_charge (l := S.l) (y := y) (k := j) hjl hjy hlt2 hadd (by rw [h.len]; exact hy) (has := fun _ => true) rfl n (by rw [h.len]; exact Nat.le_refl _)
      rw [this, h.beh, if_pos a1]
theorem InvD.fin {n y mk : Nat} {S : Lg} (h : InvD n y mk 0 S) (hy : y < n) (h1 : n ≠ 1) (hmk : ∀ i, i < n → mk.testBit i = decide (i ≠ y)) : ∃ j, leastF S.l mk = some j ∧ j < n ∧ (pt S.l y).v ≤ (pt S.l j).v := by
  have hl : leastF S.l mk = leastK S.l (fun k => mk.testBit k) n := by unfold leastF; rw [h.len]
  obtain ⟨g1, g2⟩ := leastK_is S.l (fun k => mk.testBit k) n (by rw [h.len]; exact Nat.le_refl _)
  cases ej : leastK S.l (fun k => mk.testBit k) n with
  | none =>
    have hi : (if y = 0 then 1 else 0) < n := by split <;> omega
    have := g1 ej _ hi
    rw [hmk _ hi] at this
    simp at this
    split at this <;> omega
  | some j =>
    obtain ⟨a1, _, _, _⟩ := g2 j ej
    refine ⟨j, by rw [hl, ej], a1, ?_⟩
    exact tk_zero (beh_nil (l := S.l) (fun k hk => (h.ok.at hk).1) (y := y) (by rw [h.len]; exact hy) (has := fun _ => true) n (by rw [h.len]; exact Nat.le_refl _) (by rw [h.beh]; exact Int.le_refl _) j a1 rfl)
/-- The set of all, and of all the others. -/
def allN (n : Nat) : Nat := 2 ^ n - 1
def othN (n y : Nat) : Nat := allN n &&& (18446744073709551615 - 2 ^ y)
theorem oth_bit {n y i : Nat} (hn : n ≤ 8) (hy : y < n) (hi : i < n) : (othN n y).testBit i = decide (i ≠ y) := by
  have h8 : 2 ^ n ≤ 2 ^ 8 := Nat.pow_le_pow_right (by omega) hn
  have hyn : 2 ^ y < 2 ^ n := Nat.pow_lt_pow_right (by omega) hy
  unfold othN allN
  rw [Nat.testBit_and, Nat.testBit_two_pow_sub_one]
  have e : 18446744073709551615 - 2 ^ y = 2 ^ 64 - (2 ^ y + 1) := by omega
  rw [e, Nat.testBit_two_pow_sub_succ (by omega), Nat.testBit_two_pow]
  have : i < 64 := by omega
  simp [hi, this]
  by_cases c : i = y <;> simp [c]
  intro h; exact c h.symm
theorem beh_all {l : List Pt} {n : Nat} (hl : l.length = n) (p : Int) : behF l p (allN n) = behK l p (fun _ => true) n := by
  have key : ∀ m, m ≤ n → behK l p (fun i => (allN n).testBit i) m = behK l p (fun _ => true) m := by
    intro m
    induction m with
    | zero => intro _; rfl
    | succ m ih =>
      intro hm
      have e1 : ∀ has : Nat → Bool, behK l p has (m + 1) = if has m then stepT l p (behK l p has m) m else behK l p has m := fun _ => rfl
      rw [e1, e1, ih (by omega)]
      have : (allN n).testBit m = true := by unfold allN; rw [Nat.testBit_two_pow_sub_one]; simp; omega
      simp [this]
  unfold behF
  rw [hl]
  exact key n (Nat.le_refl _)
end Go.Proofs.YtookaodcdglhfaaDoor
