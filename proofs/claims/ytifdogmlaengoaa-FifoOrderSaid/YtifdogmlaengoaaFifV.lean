/-
  Layer 05: what was pushed, by tickets; what is left when each of some number is removed. No program in sight.
-/
import Derived.Test.YtifdogmlaengoaaFifT
namespace Go.Proofs.Ytifdogmlaengoaa
open Go.RowKit
/-- What was pushed, one by one. -/
def tkv (t : Int) (l : List Int) : List (Int × Int) := tkt t (l.map fun v => (0, v))
theorem tkv_snoc (t : Int) (l : List Int) (v : Int) : tkv t (l ++ [v]) = tkv t l ++ [(t + l.length + 1, v)] := by
  unfold tkv; rw [List.map_append, List.map_cons, List.map_nil, tkt_snoc, List.length_map]
theorem tkv_length (t : Int) (l : List Int) : (tkv t l).length = l.length := by unfold tkv; rw [tkt_length, List.length_map]
theorem take_snocI {l : List Int} {k : Nat} (h : k < l.length) : l.take (k + 1) = l.take k ++ [atL l k] := by
  rw [List.take_succ_eq_append_getElem h]; simp [atL, h]
theorem tkt_get : ∀ (t : Int) (l : List (Int × Int)) (k : Nat) (h : k < l.length), (tkt t l)[k]? = some (t + k + 1, l[k].2)
  | _, [], _, h => by simp at h
  | t, x :: l, 0, _ => by simp [tkt]
  | t, x :: l, k + 1, h => by
    simp only [tkt, List.getElem?_cons_succ, List.getElem_cons_succ]
    rw [tkt_get (t + 1) l k (by simpa using h)]
    congr 2
    omega
theorem tkv_get (l : List Int) {k : Nat} (h : k < l.length) : (tkv 0 l)[k]? = some ((k : Int) + 1, atL l k) := by
  unfold tkv
  rw [tkt_get 0 _ k (by simpa using h)]
  simp [atL, h]
theorem tkv_drop (l : List Int) {k : Nat} (h : k < l.length) : (tkv 0 l).drop k = ((k : Int) + 1, atL l k) :: (tkv 0 l).drop (k + 1) := by
  have h1 := tkv_get l h
  have hk := (List.getElem?_eq_some_iff.1 h1).1
  rw [List.drop_eq_getElem_cons hk, (List.getElem?_eq_some_iff.1 h1).2]
theorem tkv_take (l : List Int) {k : Nat} (h : k < l.length) : (tkv 0 l).take (k + 1) = (tkv 0 l).take k ++ [((k : Int) + 1, atL l k)] := by
  have h1 := tkv_get l h
  have hk := (List.getElem?_eq_some_iff.1 h1).1
  rw [List.take_succ_eq_append_getElem hk, (List.getElem?_eq_some_iff.1 h1).2]
/-- It isn't removed. -/
def keepE (E : Nat) (x : Int × Int) : Bool := decide ((x.1.toNat - 1) % E ≠ 0)
/-- The first k are gone through. -/
def rmE (E : Nat) (l : List Int) (k : Nat) : List (Int × Int) := ((tkv 0 l).take k).filter (keepE E) ++ (tkv 0 l).drop k
theorem keepE_at (E k : Nat) (v : Int) : keepE E ((k : Int) + 1, v) = decide (k % E ≠ 0) := by
  unfold keepE
  rw [show ((k : Int) + 1).toNat - 1 = k by omega]
theorem rmE_zero (E : Nat) (l : List Int) : rmE E l 0 = tkv 0 l := by simp [rmE]
theorem rmE_off {E : Nat} {l : List Int} {k : Nat} (h : k < l.length) (hk : k % E = 0) : ∃ i : Nat, (rmE E l k)[i]? = some ((k : Int) + 1, atL l k) ∧ (rmE E l k).eraseIdx i = rmE E l (k + 1) := by
  refine ⟨(((tkv 0 l).take k).filter (keepE E)).length, ?_, ?_⟩
  · unfold rmE
    rw [List.getElem?_append_right (Nat.le_refl _), Nat.sub_self, tkv_drop l h]; rfl
  · unfold rmE
    rw [List.eraseIdx_append_of_length_le (Nat.le_refl _), Nat.sub_self, tkv_drop l h, tkv_take l h, List.filter_append]
    simp [keepE_at, hk]
theorem rmE_on {E : Nat} {l : List Int} {k : Nat} (h : k < l.length) (hk : k % E ≠ 0) : rmE E l k = rmE E l (k + 1) := by
  unfold rmE
  rw [tkv_drop l h, tkv_take l h, List.filter_append]
  simp [keepE_at, hk]
theorem rmE_all {E : Nat} {l : List Int} {n : Nat} (h : l.length = n) : rmE E l n = (tkv 0 l).filter (keepE E) := by
  have : (tkv 0 l).length = n := by rw [tkv_length, h]
  unfold rmE
  rw [List.take_of_length_le (by omega), List.drop_eq_nil_of_le (by omega), List.append_nil]
/-- What is left from the k-th on. -/
def lfE (E : Nat) (l : List Int) (k : Nat) : List (Int × Int) := ((tkv 0 l).drop k).filter (keepE E)
theorem lfE_zero (E : Nat) (l : List Int) : lfE E l 0 = (tkv 0 l).filter (keepE E) := by simp [lfE]
theorem lfE_off {E : Nat} {l : List Int} {k : Nat} (h : k < l.length) (hk : k % E = 0) : lfE E l k = lfE E l (k + 1) := by
  unfold lfE; rw [tkv_drop l h, List.filter_cons_of_neg (by simp [keepE_at, hk])]
theorem lfE_on {E : Nat} {l : List Int} {k : Nat} (h : k < l.length) (hk : k % E ≠ 0) : lfE E l k = ((k : Int) + 1, atL l k) :: lfE E l (k + 1) := by
  unfold lfE; rw [tkv_drop l h, List.filter_cons_of_pos (by simp [keepE_at, hk])]
theorem lfE_end {E : Nat} {l : List Int} {n : Nat} (h : l.length = n) : lfE E l n = [] := by
  unfold lfE; rw [List.drop_eq_nil_of_le (by rw [tkv_length]; omega)]; rfl
/-- How many are left. -/
theorem lfE_length (E : Nat) (hE : 2 ≤ E ∧ E ≤ 6) (l : List Int) : ∀ k, k ≤ l.length → ((((tkv 0 l).take k).filter (keepE E)).length : Int) = k - ((k + E - 1) / E : Nat)
  | 0, _ => by
    obtain ⟨h1, h2⟩ := hE
    have : (0 + E - 1) / E = 0 := Nat.div_eq_of_lt (by omega)
    rw [this]; simp
  | k + 1, h => by
    have ih := lfE_length E hE l k (by omega)
    rw [tkv_take l (by omega), List.filter_append, List.length_append]
    have hEs : E = 2 ∨ E = 3 ∨ E = 4 ∨ E = 5 ∨ E = 6 := by omega
    by_cases hk : k % E = 0
    · rw [List.filter_cons_of_neg (by simp [keepE_at, hk])]
      simp only [List.filter_nil, List.length_nil]
      rcases hEs with rfl | rfl | rfl | rfl | rfl <;> omega
    · rw [List.filter_cons_of_pos (by simp [keepE_at, hk])]
      simp only [List.filter_nil, List.length_cons, List.length_nil]
      rcases hEs with rfl | rfl | rfl | rfl | rfl <;> omega
theorem left_length {E : Nat} (hE : 2 ≤ E ∧ E ≤ 6) {l : List Int} {n : Nat} (h : l.length = n) : (((tkv 0 l).filter (keepE E)).length : Int) = n - ((n + E - 1) / E : Nat) := by
  have := lfE_length E hE l n (by omega)
  rwa [List.take_of_length_le (by rw [tkv_length]; omega)] at this
end Go.Proofs.Ytifdogmlaengoaa
