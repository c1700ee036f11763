/-
  Heaps, as lists: what moves up and down keeps. No program in sight. No condition.
-/
import Derived.Test.YtjhjkchcjpijaaaPast
namespace Go.Hp
/-- An item: its key and what it bears. -/
structure It (α : Type) where
  v : Int
  id : Int
  x : α
section
variable {α : Type}
def lt (a b : It α) : Prop := a.v < b.v ∨ (a.v = b.v ∧ a.id < b.id)
instance (a b : It α) : Decidable (lt a b) := inferInstanceAs (Decidable (_ ∨ _))
theorem lt_irrefl (a : It α) : ¬ lt a a := by unfold lt; omega
theorem lt_asymm {a b : It α} (h : lt a b) : ¬ lt b a := by unfold lt at *; omega
/-- Not less, and not less. -/
theorem nlt_trans {a b c : It α} (h1 : ¬ lt b a) (h2 : ¬ lt c b) : ¬ lt c a := by unfold lt at *; omega
theorem nlt_of_lt {a b c : It α} (h1 : lt a b) (h2 : ¬ lt c b) : ¬ lt c a := by unfold lt at *; omega
theorem eq_of_nlt {a b : It α} (h1 : ¬ lt a b) (h2 : ¬ lt b a) : a.v = b.v ∧ a.id = b.id := by unfold lt at *; omega
def par (k : Nat) : Nat := (k - 1) / 2
theorem par_lt {k : Nat} (h : 0 < k) : par k < k := by unfold par; omega
theorem par_child {k i : Nat} (h : 0 < k) : par k = i ↔ k = 2 * i + 1 ∨ k = 2 * i + 2 := by unfold par; omega
/-- In order with what is above. -/
def Ok (l : List (It α)) (k : Nat) : Prop := ∀ (h : k < l.length), 0 < k → ¬ lt l[k] (l[par k]'(by have := par_lt (k := k); unfold par at *; omega))
def Ord (l : List (It α)) : Prop := ∀ k, Ok l k
/-- What hangs below i is in order with what is above i. -/
def Bel (l : List (It α)) (i : Nat) : Prop := ∀ k (h : k < l.length) (_k0 : 0 < k) (_hp : par k = i) (_i0 : 0 < i), ¬ lt l[k] (l[par i]'(by unfold par at *; omega))
structure Up (l : List (It α)) (i : Nat) : Prop where
  ok : ∀ k, k ≠ i → Ok l k
  bel : Bel l i
structure Dn (l : List (It α)) (i : Nat) : Prop where
  ok : ∀ k, k ≠ i → (0 < k → par k ≠ i) → Ok l k
  bel : Bel l i
def swp (l : List (It α)) (i k : Nat) (hi : i < l.length) (hk : k < l.length) : List (It α) := (l.set i l[k]).set k l[i]
theorem swp_length (l : List (It α)) (i k : Nat) (hi : i < l.length) (hk : k < l.length) : (swp l i k hi hk).length = l.length := by simp [swp]
theorem swp_perm (l : List (It α)) (i k : Nat) (hi : i < l.length) (hk : k < l.length) : (swp l i k hi hk).Perm l := List.set_set_perm hi hk
theorem swp_get (l : List (It α)) (i k : Nat) (hi : i < l.length) (hk : k < l.length) (j : Nat) (hj : j < l.length) : (swp l i k hi hk)[j]'(by rw [swp_length]; exact hj) = if j = k then l[i] else if j = i then l[k] else l[j] := by
  unfold swp
  rw [List.getElem_set]
  by_cases h1 : k = j
  · subst h1; simp
  · rw [if_neg h1, if_neg (fun e => h1 e.symm), List.getElem_set]
    by_cases h2 : i = j
    · subst h2; simp
    · rw [if_neg h2, if_neg (fun e => h2 e.symm)]
theorem swp_self (l : List (It α)) (i : Nat) (hi : i < l.length) : swp l i i hi hi = l := by unfold swp; simp
theorem Up.step {l : List (It α)} {i : Nat} (h : Up l i) (hi : i < l.length) (h0 : 0 < i) (hlt : lt l[i] (l[par i]'(by have := par_lt h0; omega))) :
    Up (swp l i (par i) hi (by have := par_lt h0; omega)) (par i) := by
  have hp := par_lt h0
  have hpl : par i < l.length := by omega
  refine ⟨fun k hk hkl k0 => ?_, fun k hkl k0 hk p0 => ?_⟩
  · rw [swp_length] at hkl
    have hpk := par_lt k0
    have hpkl : par k < l.length := by omega
    rw [swp_get _ _ _ _ _ k hkl, swp_get _ _ _ _ _ (par k) hpkl]
    rw [if_neg hk]
    by_cases e1 : k = i
    · subst e1
      rw [if_pos rfl, if_pos rfl]
      exact lt_asymm hlt
    · rw [if_neg e1]
      by_cases e2 : par k = par i
      · rw [if_pos e2]
        have := h.ok k e1 hkl k0
        simp only [e2] at this
        exact nlt_of_lt hlt this
      · rw [if_neg e2]
        by_cases e3 : par k = i
        · rw [if_pos e3]
          exact h.bel k hkl k0 e3 h0
        · rw [if_neg e3]
          exact h.ok k e1 hkl k0
  · rw [swp_length] at hkl
    have hpp := par_lt p0
    have hppl : par (par i) < l.length := by omega
    rw [swp_get _ _ _ _ _ k hkl, swp_get _ _ _ _ _ (par (par i)) hppl, if_neg (by omega : ¬ par (par i) = par i), if_neg (by omega : ¬ par (par i) = i)]
    have hki : k ≠ par i := by intro e; subst e; have := par_lt k0; omega
    rw [if_neg hki]
    have hpo := h.ok (par i) (by omega) hpl p0
    by_cases e1 : k = i
    · rw [if_pos e1]; exact hpo
    · rw [if_neg e1]
      have := h.ok k e1 hkl k0
      simp only [hk] at this
      exact nlt_trans hpo this
theorem Up.fin {l : List (It α)} {i : Nat} (h : Up l i) (he : ∀ (hi : i < l.length), 0 < i → ¬ lt l[i] (l[par i]'(by have := par_lt (k := i); unfold par at *; omega))) : Ord l := fun k => by
  by_cases e : k = i
  · subst e; exact he
  · exact h.ok k e
theorem Dn.step {l : List (It α)} {i k : Nat} (h : Dn l i) (hi : i < l.length) (hk : k < l.length) (k0 : 0 < k) (hki : par k = i) (hlt : lt l[k] l[i]) (hsib : ∀ q (hq : q < l.length), 0 < q → par q = i → ¬ lt l[q] l[k]) :
    Dn (swp l k i hk hi) k ∧ Ok (swp l k i hk hi) k ∧ Ok (swp l k i hk hi) i := by
  have hik : i < k := by rw [← hki]; exact par_lt k0
  refine ⟨⟨fun q hqk hqp hql q0 => ?_, fun q hql q0 hqp _ => ?_⟩, fun hkl _ => ?_, fun hil i0 => ?_⟩
  · rw [swp_length] at hql
    have hpq := par_lt q0
    have hpql : par q < l.length := by omega
    have hqp2 := hqp q0
    rw [swp_get _ _ _ _ _ q hql, swp_get _ _ _ _ _ (par q) hpql, if_neg hqp2]
    by_cases e1 : q = i
    · subst e1
      rw [if_pos rfl]
      rw [if_neg (by omega : ¬ par q = q)]
      exact h.bel k hk k0 hki q0
    · rw [if_neg e1, if_neg hqk]
      by_cases e2 : par q = i
      · rw [if_pos e2]; exact hsib q hql q0 e2
      · rw [if_neg e2]; exact h.ok q e1 (fun _ => e2) hql q0
  · rw [swp_length] at hql
    have hpkl : par k < l.length := by omega
    have hqi : q ≠ i := by intro e; subst e; have := par_lt q0; omega
    have hqk : q ≠ k := by intro e; subst e; have := par_lt q0; omega
    rw [swp_get _ _ _ _ _ q hql, swp_get _ _ _ _ _ (par k) hpkl, if_neg hqi, if_neg hqk, if_pos hki]
    have := h.ok q hqi (fun _ => by rw [hqp]; omega) hql q0
    simp only [hqp] at this
    exact this
  · rw [swp_length] at hkl
    have hpkl : par k < l.length := by omega
    rw [swp_get _ _ _ _ _ k hkl, swp_get _ _ _ _ _ (par k) hpkl, if_neg (by omega : ¬ k = i), if_pos rfl, if_pos hki]
    exact lt_asymm hlt
  · rw [swp_length] at hil
    have hpi := par_lt i0
    have hpil : par i < l.length := by omega
    rw [swp_get _ _ _ _ _ i hil, swp_get _ _ _ _ _ (par i) hpil, if_pos rfl, if_neg (by omega : ¬ par i = i), if_neg (by omega : ¬ par i = k)]
    exact h.bel k hk k0 hki i0
/-- Down is done: what is left is up. -/
theorem Dn.fin {l : List (It α)} {i i0 : Nat} (h : Dn l i) (hc : ∀ q (hq : q < l.length) (hi : i < l.length), 0 < q → par q = i → ¬ lt l[q] l[i]) (hi0 : i = i0 ∨ Ok l i) : Up l i0 := by
  have hch : ∀ k, k ≠ i → Ok l k := fun k hk hkl k0 => by
    by_cases e : par k = i
    · have := hc k hkl (by have := par_lt k0; omega) k0 e
      simp only [e]
      exact this
    · exact h.ok k hk (fun _ => e) hkl k0
  rcases hi0 with rfl | ho
  · exact ⟨hch, h.bel⟩
  · have hall : ∀ k, Ok l k := fun k => by
      by_cases e : k = i
      · subst e; exact ho
      · exact hch k e
    refine ⟨fun k _ => hall k, fun k hk k0 hp p0 => ?_⟩
    have h1 := hall k hk k0
    simp only [hp] at h1
    have h2 := hall i0 (by have := par_lt k0; omega) p0
    exact nlt_trans h2 h1
theorem Ord.root {l : List (It α)} (h : Ord l) : ∀ k (hk : k < l.length), ¬ lt l[k] (l[0]'(by omega)) := by
  intro k
  induction k using Nat.strongRecOn with
  | ind k ih =>
    intro hk
    by_cases k0 : k = 0
    · subst k0; exact lt_irrefl _
    · have hp := par_lt (k := k) (by omega)
      have h1 := h k hk (by omega)
      exact nlt_trans (ih (par k) hp (by omega)) h1
end
end Go.Hp
