/-
  Layer 21: who has the least V is next, as soon as the turn that goes on is over. Plain laws. No condition.
-/
import Derived.Test.YthlogfclgakhkaaDoorBanF
namespace Go.Proofs.YthlogfclgakhkaaDoor
open Go.RowKit
theorem atD_setD {l : List Int} {j : Nat} (h : j < l.length) (x : Int) (i : Nat) : atD (l.set j x) i = if i = j then x else atD l i := by
  unfold atD
  rw [List.getElem?_set]
  by_cases e : j = i
  · subst e; simp [h]
  · rw [if_neg e, if_neg (fun h => e h.symm)]
theorem leastK_none {v : List Int} {has : Nat → Bool} : ∀ (n : Nat), n ≤ v.length → leastK v has n = none → ∀ j, j < n → has j = false
  | 0, _, _, j, h => by omega
  | n + 1, hn, h, j, hj => by
    unfold leastK at h
    by_cases c : has n = true
    · rw [if_pos c] at h
      unfold stepV at h
      split at h
      · cases h
      · rename_i hx
        exact (hx ⟨by omega, fun i e => by rw [h] at e; cases e⟩).elim
    · rw [if_neg c] at h
      by_cases e : j = n
      · subst e; simpa using c
      · exact leastK_none n (by omega) h j (by omega)
def IsLeast (v : List Int) (has : Nat → Bool) (n p : Nat) : Prop := p < n ∧ has p = true ∧ ∀ j, j < n → has j = true → atD v p ≤ atD v j ∧ (j < p → atD v p < atD v j)
theorem leastK_spec {v : List Int} {has : Nat → Bool} : ∀ (n : Nat), n ≤ v.length → ∀ p, leastK v has n = some p → IsLeast v has n p
  | 0, _, p, h => by cases h
  | n + 1, hn, p, h => by
    unfold leastK at h
    by_cases c : has n = true
    · rw [if_pos c] at h
      cases hb : leastK v has n with
      | none =>
        rw [hb] at h
        have hno := leastK_none n (by omega) hb
        unfold stepV at h
        rw [if_pos ⟨by omega, fun i e => by cases e⟩] at h
        injection h with h
        subst h
        refine ⟨by omega, c, fun j hj hj2 => ?_⟩
        by_cases e : j = n
        · subst e; exact ⟨Int.le_refl _, fun h => by omega⟩
        · rw [hno j (by omega)] at hj2; cases hj2
      | some b =>
        rw [hb] at h
        obtain ⟨h1, h2, h3⟩ := leastK_spec n (by omega) b hb
        unfold stepV at h
        split at h
        · rename_i hx
          injection h with h
          subst h
          have hlt := hx.2 b rfl
          refine ⟨by omega, c, fun j hj hj2 => ?_⟩
          by_cases e : j = n
          · subst e; exact ⟨Int.le_refl _, fun h => by omega⟩
          · have := h3 j (by omega) hj2
            exact ⟨by omega, fun _ => by omega⟩
        · rename_i hx
          injection h with h
          subst h
          have hge : atD v b ≤ atD v n := by
            rcases Int.lt_or_le (atD v n) (atD v b) with q | q
            · exact (hx ⟨by omega, fun i e => by injection e with e; subst e; exact q⟩).elim
            · exact q
          refine ⟨by omega, h2, fun j hj hj2 => ?_⟩
          by_cases e : j = n
          · subst e; exact ⟨hge, fun h => by omega⟩
          · exact h3 j (by omega) hj2
    · rw [if_neg c] at h
      obtain ⟨h1, h2, h3⟩ := leastK_spec n (by omega) p h
      refine ⟨by omega, h2, fun j hj hj2 => ?_⟩
      by_cases e : j = n
      · subst e; exact (c hj2).elim
      · exact h3 j (by omega) hj2
theorem leastK_of {v : List Int} {has : Nat → Bool} {n p : Nat} (hn : n ≤ v.length) (h : IsLeast v has n p) : leastK v has n = some p := by
  cases hb : leastK v has n with
  | none => have := leastK_none n hn hb p h.1; rw [h.2.1] at this; cases this
  | some q =>
    have hq := leastK_spec n hn q hb
    have a := h.2.2 q hq.1 hq.2.1
    have b := hq.2.2 p h.1 h.2.1
    rcases Nat.lt_trichotomy p q with c | c | c
    · have := b.2 c; omega
    · rw [c]
    · have := a.2 c; omega
/-! A play that may go on. -/
structure OkS (S : Bn) : Prop where
  l8 : S.v.length ≤ 8
  lg : S.g.length = S.v.length
  wt : S.wt < 2 ^ S.v.length
  w0 : S.wt ≠ 0
  u : I64 S.u
  v : ∀ k, k < S.v.length → U64 (atD S.v k)
theorem bits_lt {s n : Nat} (h : s < 2 ^ n) {k : Nat} (hk : s.testBit k = true) : k < n := by
  rcases Nat.lt_or_ge k n with h1 | h1
  · exact h1
  · rw [Nat.testBit_lt_two_pow (Nat.lt_of_lt_of_le h (Nat.pow_le_pow_right (by omega) h1))] at hk; cases hk
theorem some_bit {s n : Nat} (h0 : s ≠ 0) (h : s < 2 ^ n) : ∃ k, k < n ∧ s.testBit k = true := by
  obtain ⟨k, hk⟩ := Nat.exists_testBit_of_ne_zero h0
  exact ⟨k, bits_lt h hk, hk⟩
theorem OkS.least {S : Bn} (h : OkS S) : ∃ p, leastV S.v S.wt = some p ∧ p < S.v.length ∧ S.wt.testBit p = true := by
  cases hb : leastV S.v S.wt with
  | none =>
    obtain ⟨k, hk, hk2⟩ := some_bit h.w0 h.wt
    have := leastK_none _ (Nat.le_refl _) hb k hk
    rw [hk2] at this; cases this
  | some p =>
    have := leastK_spec _ (Nat.le_refl _) p hb
    exact ⟨p, rfl, this.1, this.2.1⟩
theorem hasF_nat (s k : Nat) (hk : k < 64) : hasF (s : Int) (k : Int) = s.testBit k := by
  unfold hasF
  have h1 : (0 : Int) ≤ k := by omega
  have h2 : (k : Int) < 64 := by omega
  have e : ((s : Int) / 2 ^ (k : Int).toNat) % 2 = ((s / 2 ^ k % 2 : Nat) : Int) := by simp
  rw [e, decide_eq_true h1, decide_eq_true h2, Nat.testBit_eq_decide_div_mod_eq]
  generalize s / 2 ^ k % 2 = r
  rw [Bool.true_and, Bool.true_and, Bool.eq_iff_iff, beq_iff_eq, decide_eq_true_iff]
  omega
theorem hasF_some {s : Nat} {a : Int} (h : hasF (s : Int) a = true) : ∃ k : Nat, a = k ∧ k < 64 ∧ s.testBit k = true := by
  have h2 := h
  unfold hasF at h2
  simp only [Bool.and_eq_true, decide_eq_true_eq] at h2
  obtain ⟨k, rfl⟩ := Int.eq_ofNat_of_zero_le h2.1
  have hk : k < 64 := by omega
  rw [hasF_nat s k hk] at h
  exact ⟨k, rfl, hk, h⟩
/-- The turn goes on. -/
def goesB (S : Bn) : Bool := (S.wt : Int) == 0 || (hasF S.wt S.p && mayF S.p S.u S.s S.p)
theorem nxP_eq (S : Bn) : nxP S = if goesB S = true then S.p else encB (leastV S.v S.wt) := rfl
theorem nxU_eq (S : Bn) : nxU S = if goesB S = true then S.u else 0 := rfl
theorem OkS.next {S : Bn} (h : OkS S) : ∃ k : Nat, nxP S = k ∧ k < S.v.length ∧ S.wt.testBit k = true := by
  obtain ⟨p, hp, hl, hb⟩ := h.least
  rw [nxP_eq]
  split
  · rename_i c
    unfold goesB at c
    have h0 := h.w0
    have : ((S.wt : Int) == 0) = false := by simp; omega
    rw [this, Bool.false_or, Bool.and_eq_true] at c
    obtain ⟨k, e, _, hk⟩ := hasF_some c.1
    exact ⟨k, e, bits_lt h.wt hk, hk⟩
  · rw [hp]; exact ⟨p, rfl, hl, hb⟩
theorem end_i64 (u s : Int) (h : I64 u) : I64 (endF u s) := by
  unfold endF
  have := bring_le s
  split
  · exact ⟨by omega, by omega⟩
  · exact h
theorem add_u64 (a b : Int) (ha : U64 a) (hb : U64 b) : U64 (addF a b) := by
  rw [(add_val ha hb).1]
  have h1 := ha.1
  have h2 := hb.1
  split <;> exact ⟨by omega, by omega⟩
theorem OkS.nx {S : Bn} (h : OkS S) : OkS (nxS S) := by
  obtain ⟨k, e, hk, _⟩ := h.next
  have hv : (nxS S).v = S.v.set k (addF (atD S.v k) (mulF (lockF (S.g[k]?.getD 0)) (nxN S))) := by
    show payF S.v S.g (nxP S) (nxN S) = _
    rw [e]; rfl
  refine ⟨by rw [hv, List.length_set]; exact h.l8, by rw [hv, List.length_set]; exact h.lg, by rw [hv, List.length_set]; exact h.wt, h.w0, ?_, ?_⟩
  · show I64 (endF (nxU S) S.s)
    apply end_i64
    rw [nxU_eq]
    split
    · exact h.u
    · exact ⟨by omega, by omega⟩
  · intro j hj
    rw [hv, List.length_set] at hj
    rw [hv, atD_setD hk]
    split
    · exact add_u64 _ _ (h.v k hk) (mul_u64 _ _)
    · exact h.v j hj
/-! Turns, and the ticks ahead of one. -/
def ordK : Nat → Bn → List Int
  | 0, _ => []
  | n + 1, S => nxP S :: ordK n (nxS S)
def stK : Nat → Bn → Bn
  | 0, S => S
  | n + 1, S => stK n (nxS S)
theorem stK_succ : ∀ (n : Nat) (S : Bn), stK (n + 1) S = nxS (stK n S)
  | 0, _ => rfl
  | n + 1, S => stK_succ n (nxS S)
theorem OkS.st {S : Bn} (h : OkS S) : ∀ n, OkS (stK n S)
  | 0 => h
  | n + 1 => by rw [stK_succ]; exact (h.st n).nx
theorem ordK_succ : ∀ (n : Nat) (S : Bn), ordK (n + 1) S = ordK n S ++ [nxP (stK n S)]
  | 0, _ => rfl
  | n + 1, S => by rw [ordK, ordK_succ n, ordK]; rfl
theorem ordK_length : ∀ (n : Nat) (S : Bn), (ordK n S).length = n
  | 0, _ => rfl
  | n + 1, S => by rw [ordK, List.length_cons, ordK_length]
def ticksF : Nat → Bn → Int → Int → Int
  | 0, _, _, _ => -1
  | n + 1, S, q, t => if nxP S = q then t else ticksF n (nxS S) q (t + nxN S)
theorem nxN_le (S : Bn) : 0 ≤ nxN S ∧ nxN S ≤ 16 := leftF_le _ _
/-! The least one. -/
theorem addge {a b : Int} (ha : U64 a) (hb : U64 b) : a ≤ addF a b := by
  have e := (add_val ha hb).1
  have h1 := ha.2
  have h2 := hb.1
  rw [e]; split <;> omega
theorem ticks_least {S : Bn} (h : OkS S) {p : Nat} (hp : leastV S.v S.wt = some p) (m : Nat) : 0 ≤ ticksF (m + 2) S p 0 ∧ ticksF (m + 2) S p 0 ≤ leftF S.u S.s := by
  have hL := leastK_spec _ (Nat.le_refl _) p hp
  have hleft := leftF_le S.u S.s
  show 0 ≤ (if nxP S = p then (0 : Int) else ticksF (m + 1) (nxS S) p (0 + nxN S)) ∧ (if nxP S = p then (0 : Int) else ticksF (m + 1) (nxS S) p (0 + nxN S)) ≤ _
  by_cases hq : nxP S = p
  · rw [if_pos hq]; omega
  rw [if_neg hq]
  obtain ⟨k, ek, hk, hkb⟩ := h.next
  have hc : goesB S = true := by
    rw [nxP_eq] at hq
    by_cases c : goesB S = true
    · exact c
    · rw [if_neg c, hp] at hq; exact (hq rfl).elim
  have hpk : S.p = k := by rw [nxP_eq, if_pos hc] at ek; exact ek
  have hu : nxU S = S.u := by rw [nxU_eq, if_pos hc]
  have hN : nxN S = leftF S.u S.s := by unfold nxN; rw [hu]
  have hmay : S.u < bringF S.s 1 16 := by
    have c := hc
    unfold goesB at c
    have h0 := h.w0
    have : ((S.wt : Int) == 0) = false := by simp; omega
    rw [this, Bool.false_or, Bool.and_eq_true] at c
    have := c.2
    unfold mayF at this
    simp only [Bool.and_eq_true, decide_eq_true_eq] at this
    exact this.2
  have hkp : k ≠ p := fun e => hq (by rw [ek, e])
  have hv : (nxS S).v = S.v.set k (addF (atD S.v k) (mulF (lockF (S.g[k]?.getD 0)) (nxN S))) := by
    show payF S.v S.g (nxP S) (nxN S) = _
    rw [ek]; rfl
  have hP2 : nxP (nxS S) = p := by
    rw [nxP_eq]
    have hg2 : goesB (nxS S) = false := by
      unfold goesB
      have h0 := h.w0
      have : (((nxS S).wt : Int) == 0) = false := by show ((S.wt : Int) == 0) = false; simp; omega
      rw [this, Bool.false_or]
      have : mayF (nxS S).p (nxS S).u (nxS S).s (nxS S).p = false := by
        show mayF (nxP S) (endF (nxU S) S.s) S.s (nxP S) = false
        unfold mayF
        have : ¬ (endF (nxU S) S.s < bringF S.s 1 16) := by rw [hu]; unfold endF; rw [if_pos hmay]; omega
        simp [this]
      rw [this, Bool.and_false]
    rw [hg2, if_neg (by simp)]
    have : leastV (nxS S).v (nxS S).wt = some p := by
      refine leastK_of (Nat.le_refl _) ?_
      rw [hv]
      show IsLeast _ (fun i => S.wt.testBit i) _ _
      refine ⟨by rw [List.length_set]; exact hL.1, hL.2.1, fun j hj hj2 => ?_⟩
      rw [List.length_set] at hj
      have := hL.2.2 j hj hj2
      rw [atD_setD hk, atD_setD hk, if_neg (fun e => hkp e.symm)]
      split
      · rename_i e
        subst e
        have hge := addge (h.v j hj) (mul_u64 (lockF (S.g[j]?.getD 0)) (nxN S))
        exact ⟨by omega, fun hlt => by have := this.2 hlt; omega⟩
      · exact this
    rw [this]; rfl
  show 0 ≤ (if nxP (nxS S) = p then (0 + nxN S) else ticksF m (nxS (nxS S)) p (0 + nxN S + nxN (nxS S))) ∧ (if nxP (nxS S) = p then (0 + nxN S) else ticksF m (nxS (nxS S)) p (0 + nxN S + nxN (nxS S))) ≤ _
  rw [if_pos hP2, hN]
  omega
end Go.Proofs.YthlogfclgakhkaaDoor
