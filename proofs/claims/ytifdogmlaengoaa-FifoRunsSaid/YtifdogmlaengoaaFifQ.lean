/-
  Layer 05: a queue as a list of places, tickets and values. No program in sight.
-/
import Derived.Test.YtifdogmlaengoaaFifP
namespace Go.Proofs.Ytifdogmlaengoaa
open Go.RowKit
section
variable {α : Type} {z : LkG α}
/-- The chain of free places. -/
def ChainQ {β : Type} (z : β) (l : List (Slot β)) : Nat → List Nat → Prop
  | f, [] => f = 0
  | f, k :: ks => f = k + 1 ∧ k < l.length ∧ (slotA z l k).2.1 = false ∧ ChainQ z l (slotA z l k).2.2 ks
theorem ChainQ.congr {β : Type} {z : β} {l l' : List (Slot β)} (hl : l.length ≤ l'.length) : ∀ {f : Nat} {ks : List Nat}, ChainQ z l f ks → (∀ k ∈ ks, slotA z l' k = slotA z l k) → ChainQ z l' f ks
  | _, [], h, _ => h
  | _, k :: ks, ⟨h1, h2, h3, h4⟩, he => ⟨h1, by omega, by rw [he k (by simp)]; exact h3, by rw [he k (by simp)]; exact h4.congr hl (fun j hj => he j (by simp [hj]))⟩
theorem ChainQ.off {β : Type} {z : β} {l : List (Slot β)} : ∀ {f : Nat} {ks : List Nat}, ChainQ z l f ks → ∀ k ∈ ks, k < l.length ∧ (slotA z l k).2.1 = false
  | _, [], _, _, h => by cases h
  | _, k :: ks, ⟨_, h2, h3, h4⟩, j, hj => by
    rcases List.mem_cons.1 hj with rfl | hj
    · exact ⟨h2, h3⟩
    · exact h4.off j hj
theorem setA_slot (S : Ar (LkG α)) (i : Int) (v : LkG α) (k : Nat) : slotA z (setA z S i v).l k = if isA z S.l i = true ∧ (k : Int) = i then (v, true, (slotA z S.l k).2.2) else slotA z S.l k := by
  unfold setA
  by_cases h : isA z S.l i = true
  · rw [if_pos h]
    obtain ⟨a, b, _⟩ := isA_iff.1 h
    rw [slot_set (by omega)]
    by_cases e : k = i.toNat
    · rw [if_pos e, if_pos ⟨h, by omega⟩, e]
    · rw [if_neg e, if_neg (fun q => e (by omega))]
  · rw [if_neg h, if_neg (fun q => h q.1)]
theorem setA_len (S : Ar (LkG α)) (i : Int) (v : LkG α) : (setA z S i v).l.length = S.l.length ∧ (setA z S i v).free = S.free ∧ (setA z S i v).n = S.n := by
  unfold setA
  split
  · exact ⟨by simp, rfl, rfl⟩
  · exact ⟨rfl, rfl, rfl⟩
theorem isA_congr {l l' : List (Slot (LkG α))} (hl : l'.length = l.length) (h : ∀ k, (slotA z l' k).2.1 = (slotA z l k).2.1) (i : Int) : isA z l' i = isA z l i := by
  unfold isA; rw [hl, h]
theorem setA_isA (S : Ar (LkG α)) (i : Int) (v : LkG α) (j : Int) : isA z (setA z S i v).l j = isA z S.l j := by
  refine isA_congr (setA_len S i v).1 (fun k => ?_) j
  rw [setA_slot]
  by_cases h : isA z S.l i = true ∧ (k : Int) = i
  · rw [if_pos h]
    obtain ⟨h1, h2⟩ := h
    obtain ⟨_, _, h3⟩ := isA_iff.1 h1
    rw [← h2] at h3
    simp only [Int.toNat_natCast] at h3
    exact h3.symm
  · rw [if_neg h]
theorem getA_slot (S : Ar (LkG α)) (k : Nat) (h : isA z S.l k = true) : (getA z S (k : Int)).1 = (slotA z S.l k).1 := by
  unfold getA; rw [if_pos h]; simp
/-- What join leaves. -/
theorem join_spec (q : Fq α) {a b : Int} (hab : isA z q.S.l a = true → a ≠ b) :
    (joinF z q a b).S.l.length = q.S.l.length ∧ (joinF z q a b).S.free = q.S.free ∧ (joinF z q a b).S.n = q.S.n ∧
    (joinF z q a b).fi = (if isA z q.S.l a = true then q.fi else b) ∧ (joinF z q a b).la = (if isA z q.S.l b = true then q.la else a) ∧
    (∀ k : Nat, slotA z (joinF z q a b).S.l k =
      if isA z q.S.l b = true ∧ (k : Int) = b then (((slotA z q.S.l k).1.1, (slotA z q.S.l k).1.2.1, a, (slotA z q.S.l k).1.2.2.2), true, (slotA z q.S.l k).2.2)
      else if isA z q.S.l a = true ∧ (k : Int) = a then (((slotA z q.S.l k).1.1, (slotA z q.S.l k).1.2.1, (slotA z q.S.l k).1.2.2.1, b), true, (slotA z q.S.l k).2.2)
      else slotA z q.S.l k) := by
  have A1 : ∀ j, isA z (joA z q a b).S.l j = isA z q.S.l j := fun j => by
    unfold joA; split
    · exact setA_isA _ _ _ _
    · rfl
  have A2 : (joA z q a b).S.l.length = q.S.l.length ∧ (joA z q a b).S.free = q.S.free ∧ (joA z q a b).S.n = q.S.n := by
    unfold joA; split
    · exact setA_len _ _ _
    · exact ⟨rfl, rfl, rfl⟩
  have A3 : ∀ k : Nat, slotA z (joA z q a b).S.l k = if isA z q.S.l a = true ∧ (k : Int) = a then (((slotA z q.S.l k).1.1, (slotA z q.S.l k).1.2.1, (slotA z q.S.l k).1.2.2.1, b), true, (slotA z q.S.l k).2.2) else slotA z q.S.l k := fun k => by
    unfold joA
    by_cases h : isA z q.S.l a = true
    · rw [if_pos h, setA_slot]
      by_cases e : (k : Int) = a
      · rw [if_pos ⟨h, e⟩, if_pos ⟨h, e⟩, ← e, getA_slot _ _ (by rw [e]; exact h)]
      · rw [if_neg (fun q => e q.2), if_neg (fun q => e q.2)]
    · rw [if_neg h, if_neg (fun q => h q.1)]
  have A4 : (joA z q a b).fi = (if isA z q.S.l a = true then q.fi else b) ∧ (joA z q a b).la = q.la := by
    unfold joA; split
    · exact ⟨rfl, rfl⟩
    · exact ⟨rfl, rfl⟩
  unfold joinF
  obtain ⟨q1, e1⟩ : ∃ q1, joA z q a b = q1 := ⟨_, rfl⟩
  rw [e1] at A1 A2 A3 A4 ⊢
  clear e1
  unfold joB
  by_cases h : isA z q.S.l b = true
  · rw [A1 b, if_pos h]
    obtain ⟨l1, l2, l3⟩ := setA_len (z := z) q1.S b ((getA z q1.S b).1.1, (getA z q1.S b).1.2.1, a, (getA z q1.S b).1.2.2.2)
    refine ⟨l1.trans A2.1, l2.trans A2.2.1, l3.trans A2.2.2, A4.1, by rw [if_pos h]; exact A4.2, fun k => ?_⟩
    show slotA z (setA z q1.S b _).l k = _
    rw [setA_slot, A1 b]
    by_cases e : (k : Int) = b
    · rw [if_pos ⟨h, e⟩, if_pos ⟨h, e⟩, ← e, getA_slot _ _ (by rw [e, A1]; exact h), A3 k, if_neg (fun q => hab q.1 (by rw [← q.2, e]))]
    · rw [if_neg (fun q => e q.2), if_neg (fun q => e q.2), A3 k]
  · rw [A1 b, if_neg h]
    refine ⟨A2.1, A2.2.1, A2.2.2, A4.1, by rw [if_neg h], fun k => ?_⟩
    show slotA z q1.S.l k = _
    rw [if_neg (fun q => h q.1), A3 k]
end
end Go.Proofs.Ytifdogmlaengoaa
