/-
  Layer 02: the deeds, on both objects: linked at each step; the values by places, one by one. No program in sight.
-/
import Derived.Test.YtgaenonggnkknaaAll
namespace Go.Proofs.Ytgaenonggnkknaa
open Go.RowKit
abbrev De := Int × Int × Int
def de (l : List De) (i : Nat) : De := l[i]?.getD (0, 0, 0)
def deV (x : De) : List Value := [.int .u8 x.1, .int .i64 x.2.1, .int .i64 x.2.2]
theorem deV_length (x : De) : (deV x).length = 3 := rfl
theorem de_at {w : World} {A : Option Addr} {l : List De} (h : Cells w A (tab deV l)) {k : Nat} (hk : k < l.length) :
    ∃ b off : Nat, A = some ⟨b, off, none⟩ ∧ w.cell? ⟨b, off + k * 3, none⟩ = some (.int .u8 (de l k).1) ∧ w.cell? ⟨b, off + k * 3 + 1, none⟩ = some (.int .i64 (de l k).2.1) ∧ w.cell? ⟨b, off + k * 3 + 2, none⟩ = some (.int .i64 (de l k).2.2) := by
  have e : l[k]? = some (de l k) := by simp [de, hk]
  obtain ⟨b, off, rfl, hc⟩ := h.tab_at deV_length e (by omega)
  exact ⟨b, off, rfl, by simpa using hc 0 _ rfl, hc 1 _ rfl, hc 2 _ rfl⟩
def deedA (most : Int) (S : Ar Int) (x : De) : Ar Int :=
  if x.1 % 4 = 0 then (putA 0 most S x.2.2).1 else if x.1 % 4 = 1 then dropA 0 S x.2.1 else if x.1 % 4 = 2 then setA 0 S x.2.1 x.2.2 else S
def deedD (most : Int) (D : Dc) (x : De) : Dc :=
  if x.1 % 4 = 0 then (putD most D x.2.2).1 else if x.1 % 4 = 1 then dropD D x.2.1 else if x.1 % 4 = 2 then setD D x.2.1 x.2.2 else D
def runA (most : Int) (l : List De) : Nat → Ar Int
  | 0 => ⟨[], 0, 0⟩
  | k + 1 => deedA most (runA most l k) (de l k)
def runD (most : Int) (l : List De) : Nat → Dc
  | 0 => ⟨[], [], []⟩
  | k + 1 => deedD most (runD most l k) (de l k)
theorem runA_ok (most : Int) (l : List De) : ∀ k, OkA k (runA most l k)
  | 0 => OkA.nil
  | k + 1 => by
    have := runA_ok most l k
    unfold runA deedA
    split
    · exact this.put most _
    · split
      · exact this.drop _
      · split
        · exact (this.set _ _).mono (by omega)
        · exact this.mono (by omega)
theorem runD_ok (most : Int) (l : List De) : ∀ k, OkD k (runD most l k)
  | 0 => OkD.nil
  | k + 1 => by
    have := runD_ok most l k
    unfold runD deedD
    split
    · exact this.put most _
    · split
      · exact this.drop _
      · split
        · exact (this.set _ _).mono (by omega)
        · exact this.mono (by omega)
theorem run_lk (most : Int) (l : List De) : ∀ k, Lk (runA most l k) (runD most l k)
  | 0 => Lk.nil
  | k + 1 => by
    have := run_lk most l k
    unfold runA runD deedA deedD
    split
    · exact (this.put most _).1
    · split
      · exact this.drop _
      · split
        · exact this.set _ _
        · exact this
theorem pre_snoc {α : Type} {a b : List α} {x y : α} (h : a ++ [x] <+: b ++ [y]) : (a ++ [x] <+: b) ∨ (a = b ∧ x = y) := by
  obtain ⟨t, ht⟩ := h
  rcases List.eq_nil_or_concat t with rfl | ⟨t, z, rfl⟩
  · rw [List.append_nil] at ht
    have := List.append_inj' ht rfl
    exact .inr ⟨this.1, by simpa using this.2⟩
  · left
    rw [List.concat_eq_append, ← List.append_assoc] at ht
    have := List.append_inj' ht rfl
    exact ⟨t, this.1⟩
theorem all_next {α : Type} {z : α} {l : List (Slot α)} {pre : List (Int × α)} {x : Int × α} : ∀ {m : Nat}, pre ++ [x] <+: allA (z := z) l m → ∃ k, k < m ∧ x = ((k : Int), (slotA z l k).1) ∧ (slotA z l k).2.1 = true ∧ pre = allA (z := z) l k
  | 0, h => by
    have := h.length_le
    simp [allA] at this
  | m + 1, h => by
    rw [allA] at h
    by_cases c : (slotA z l m).2.1 = true
    · rw [if_pos c] at h
      rcases pre_snoc h with h | ⟨h1, h2⟩
      · obtain ⟨k, h1, h2⟩ := all_next h
        exact ⟨k, by omega, h2⟩
      · exact ⟨m, by omega, h2, c, h1⟩
    · rw [if_neg c, List.append_nil] at h
      obtain ⟨k, h1, h2⟩ := all_next h
      exact ⟨k, by omega, h2⟩
def lastOf {α : Type} (pre : List (Int × α)) : Int := (pre.getLast?.map (·.1)).getD (-1)
theorem last_snoc {α : Type} (pre : List (Int × α)) (x : Int × α) : lastOf (pre ++ [x]) = x.1 := by simp [lastOf]
theorem last_all {α : Type} (z : α) (l : List (Slot α)) : ∀ k : Nat, -1 ≤ lastOf (allA (z := z) l k) ∧ lastOf (allA (z := z) l k) < k ∧ ∀ j : Nat, j < k → lastOf (allA (z := z) l k) < j → (slotA z l j).2.1 = false := by
  intro k
  induction k with
  | zero => exact ⟨by simp [allA, lastOf], by simp [allA, lastOf], fun j hj => by omega⟩
  | succ k ih =>
    rw [allA]
    by_cases c : (slotA z l k).2.1 = true
    · rw [if_pos c, last_snoc]
      exact ⟨by show -1 ≤ (k : Int); omega, by show (k : Int) < ((k + 1 : Nat) : Int); omega, fun j hj hl => by have : (k : Int) < j := hl; omega⟩
    · rw [if_neg c, List.append_nil]
      refine ⟨ih.1, by omega, fun j hj hl => ?_⟩
      by_cases e : j = k
      · subst e; exact Bool.eq_false_iff.2 c
      · exact ih.2.2 j (by omega) hl
end Go.Proofs.Ytgaenonggnkknaa
