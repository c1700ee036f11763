/-
  Layer 37: turns by strides: the plain part. No condition.
-/
import Derived.Test.YtjhjkchcjpijaaaHpP
import Derived.Test.YtjhjkchcjpijaaaUnit
namespace Go.Proofs.Ytjhjkchcjpijaaa
open Go Go.RowKit HpI
abbrev It := Hp.It Int
/-- The weights, brought. -/
def bringW (l : List Int) : List Int := (l.take 16).map (fun w => bringF w 1 4096)
theorem bringW_length (l : List Int) : (bringW l).length = min l.length 16 := by simp [bringW]; omega
theorem bringW_le (l : List Int) : (bringW l).length ≤ 16 := by rw [bringW_length]; omega
/-- The first one of the least, of the first k and one. -/
def pickK (P : List Int) : Nat → Nat
  | 0 => 0
  | k + 1 => if atL P (k + 1) < atL P (pickK P k) then k + 1 else pickK P k
theorem pick_in (P : List Int) : ∀ k, pickK P k ≤ k ∧ (∀ j, j ≤ k → atL P (pickK P k) ≤ atL P j) ∧ ∀ j, j < pickK P k → atL P (pickK P k) < atL P j
  | 0 => ⟨Nat.le_refl _, fun j hj => by obtain rfl : j = 0 := by omega
                                        exact Int.le_refl _, fun j hj => by simp [pickK] at hj⟩
  | k + 1 => by
    obtain ⟨h1, h2, h3⟩ := pick_in P k
    have e : pickK P (k + 1) = if atL P (k + 1) < atL P (pickK P k) then k + 1 else pickK P k := rfl
    split at e
    · rename_i h
      rw [e]
      refine ⟨Nat.le_refl _, fun j hj => ?_, fun j hj => ?_⟩
      · by_cases hjk : j = k + 1
        · rw [hjk]; exact Int.le_refl _
        · have := h2 j (by omega); omega
      · have := h2 j (by omega); omega
    · rename_i h
      rw [e]
      refine ⟨by omega, fun j hj => ?_, h3⟩
      by_cases hjk : j = k + 1
      · rw [hjk]; omega
      · exact h2 j (by omega)
def pickP (P : List Int) : Nat := pickK P (P.length - 1)
theorem pickP_lt {P : List Int} (h : 0 < P.length) : pickP P < P.length := by have := (pick_in P (P.length - 1)).1; unfold pickP; omega
theorem pickP_le {P : List Int} {j : Nat} (hj : j < P.length) : atL P (pickP P) ≤ atL P j := (pick_in P (P.length - 1)).2.1 j (by omega)
theorem pickP_first {P : List Int} {j : Nat} (hj : j < pickP P) : atL P (pickP P) < atL P j := (pick_in P (P.length - 1)).2.2 j hj
def stepP (w P : List Int) : List Int := P.set (pickP P) (addF (atL P (pickP P)) (coreF (atL w (pickP P))))
def passF (w : List Int) : Nat → List Int
  | 0 => List.replicate w.length 0
  | k + 1 => stepP w (passF w k)
theorem pass_length (w : List Int) : ∀ k, (passF w k).length = w.length
  | 0 => by simp [passF]
  | k + 1 => by unfold passF stepP; rw [List.length_set]; exact pass_length w k
def turnF (w : List Int) (k : Nat) : Nat := pickP (passF w k)
def turnsF (w : List Int) (n : Nat) : List Int := (List.range n).map fun k => (turnF w k : Int)
theorem turns_length (w : List Int) (n : Nat) : (turnsF w n).length = n := by simp [turnsF]
theorem turns_succ (w : List Int) (n : Nat) : turnsF w (n + 1) = turnsF w n ++ [(turnF w n : Int)] := by simp [turnsF, List.range_succ]
theorem turn_lt {w : List Int} (h : 0 < w.length) (k : Nat) : turnF w k < w.length := by
  have := pickP_lt (P := passF w k) (by rw [pass_length]; exact h)
  rwa [pass_length] at this
theorem atL_set {l : List Int} {i : Nat} (h : i < l.length) (v : Int) (j : Nat) : atL (l.set i v) j = if j = i then v else atL l j := by
  unfold atL
  rw [List.getElem?_set]
  by_cases e : i = j
  · subst e; simp [h]
  · rw [if_neg e, if_neg (fun h => e h.symm)]
theorem pass_u64 {w : List Int} (k : Nat) : ∀ j, U64 (atL (passF w k) j) := by
  induction k with
  | zero =>
    intro j
    unfold atL passF
    rw [List.getElem?_replicate]
    split <;> exact ⟨by simp, by simp⟩
  | succ k ih =>
    intro j
    show U64 (atL (stepP w (passF w k)) j)
    unfold stepP
    by_cases h : pickP (passF w k) < (passF w k).length
    · rw [atL_set h]
      split
      · have hc := core_in (atL w (pickP (passF w k)))
        exact (add_ge (ih _) (by unfold U64; omega)).2
      · exact ih j
    · rw [List.set_eq_of_length_le (by omega)]; exact ih j
/-- The heap's items. -/
def itP (P : List Int) (i : Nat) : It := ⟨atL P i, i, i⟩
def itemsP (P : List Int) : List It := (List.range P.length).map (itP P)
theorem itemsP_length (P : List Int) : (itemsP P).length = P.length := by simp [itemsP]
theorem itemsP_get {P : List Int} {i : Nat} (h : i < P.length) : (itemsP P)[i]? = some (itP P i) := by simp [itemsP, h]
theorem least_pick {P : List Int} (h : 0 < P.length) : Least (itemsP P) (itP P (pickP P)) := by
  refine ⟨List.mem_of_getElem? (itemsP_get (pickP_lt h)), fun y hy => ?_⟩
  simp only [itemsP, List.mem_map, List.mem_range] at hy
  obtain ⟨j, hj, rfl⟩ := hy
  have h1 := pickP_le hj
  unfold Hp.lt itP
  simp only
  by_cases hjp : j < pickP P
  · have := pickP_first hjp; omega
  · omega
theorem items_set {P : List Int} {i : Nat} (h : i < P.length) (v : Int) : (itemsP P).set i ⟨v, i, i⟩ = itemsP (P.set i v) := by
  apply List.ext_getElem?
  intro j
  rw [List.getElem?_set, itemsP_length]
  by_cases hj : j < P.length
  · rw [itemsP_get (P := P.set i v) (by simpa using hj), itemsP_get hj]
    by_cases e : i = j
    · subst e
      rw [if_pos rfl, if_pos h]
      simp [itP, atL_set h]
    · rw [if_neg e]
      simp only [itP, atL_set h, if_neg (fun hh : j = i => e hh.symm)]
  · have hl : (P.set i v).length = P.length := by simp
    rw [List.getElem?_eq_none (by rw [itemsP_length]; omega), List.getElem?_eq_none (by rw [itemsP_length]; omega)]
    split <;> (try split) <;> first | rfl | omega
theorem items_perm {P : List Int} {i : Nat} (h : i < P.length) : (itemsP P).Perm (itP P i :: (itemsP P).eraseIdx i) := by
  have h1 : i < (itemsP P).length := by rw [itemsP_length]; exact h
  have h2 := (erase_perm (itemsP P) i h1).symm
  rw [(List.getElem?_eq_some_iff.1 (itemsP_get h)).2] at h2
  exact h2
theorem items_moved {P : List Int} {i : Nat} (h : i < P.length) (v : Int) : ((⟨v, i, i⟩ : It) :: (itemsP P).eraseIdx i).Perm (itemsP (P.set i v)) := by
  rw [← items_set h]
  exact (set_perm (y := ⟨v, i, i⟩) (itemsP_get h) (items_perm h)).symm
end Go.Proofs.Ytjhjkchcjpijaaa
