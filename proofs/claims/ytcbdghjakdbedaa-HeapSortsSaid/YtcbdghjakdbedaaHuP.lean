/-
  Layer 04: heaps of uint64s: Move. (Printed by mkH.py out of XHpP.) No condition.
-/
import Derived.Test.YtcbdghjakdbedaaHuO
namespace Go.Proofs.Ytcbdghjakdbedaa.HpU
open Go Go.RowKit Go.Proofs.Ytcbdghjakdbedaa
section
variable {B : Nat} {w w' : World} {b mb : Nat} {most : Int} {l L : List (Hp.It A)}
theorem up_of_ord (h : Hp.Ord l) (i : Nat) : Hp.Up l i := ⟨fun k _ => h k, fun k hk k0 hp i0 => by
  have h1 := h k hk k0
  simp only [hp] at h1
  have := Hp.par_lt k0
  exact Hp.nlt_trans (h i (by omega) i0) h1⟩
theorem dn_put (h : Hp.Ord l) (i : Nat) (y : Hp.It A) : Hp.Dn (l.set i y) i := by
  refine ⟨fun k hk hkp hkl k0 => ?_, fun k hkl k0 hp i0 => ?_⟩
  · have := hkp k0
    have hp := Hp.par_lt k0
    simp at hkl
    rw [List.getElem_set_ne (by omega), List.getElem_set_ne (by omega)]
    exact h k hkl k0
  · have h1 := Hp.par_lt k0
    have h2 := Hp.par_lt i0
    simp at hkl
    rw [List.getElem_set_ne (by omega), List.getElem_set_ne (by omega)]
    exact (up_of_ord h i).bel k hkl k0 hp i0
theorem erase_perm {α : Type} : ∀ (l : List α) (i : Nat) (h : i < l.length), (l[i] :: l.eraseIdx i).Perm l
  | x :: l, 0, _ => List.Perm.refl _
  | x :: l, i + 1, h => by
    simp only [List.getElem_cons_succ, List.eraseIdx_cons_succ]
    exact (List.Perm.swap _ _ _).trans (List.Perm.cons _ (erase_perm l i (by simpa using h)))
theorem map_set_id {i : Nat} {x : Hp.It A} (hx : l[i]? = some x) {y : Hp.It A} (hy : y.id = x.id) : (l.set i y).map (·.id) = l.map (·.id) := by
  rw [List.map_set, hy]
  obtain ⟨h1, h2⟩ := List.getElem?_eq_some_iff.1 hx
  apply List.ext_getElem?
  intro k
  rw [List.getElem?_set]
  split
  · rename_i e
    subst e
    simp [h1, h2]
  · rfl
theorem idx_map (h : l.map (·.id) = L.map (·.id)) (z : Int) : idx l z = idx L z := by
  have e : ∀ M : List (Hp.It A), idx M z = ((M.map (·.id)).findIdx? (fun y => y == z)).map fun k => (k : Int) := fun M => by
    unfold idx
    rw [List.findIdx?_map]
    rfl
  rw [e, e, h]
theorem set_perm {i : Nat} {x y : Hp.It A} {L' : List (Hp.It A)} (hx : l[i]? = some x) (hp : l.Perm (x :: L')) : (l.set i y).Perm (y :: L') := by
  obtain ⟨h1, h2⟩ := List.getElem?_eq_some_iff.1 hx
  have e1 : l.Perm (x :: l.eraseIdx i) := by rw [← h2]; exact (erase_perm l i h1).symm
  have e2 : (l.set i y).Perm (y :: l.eraseIdx i) := by
    have h3 := (erase_perm (l.set i y) i (by simpa using h1)).symm
    rw [List.getElem_set_self, List.eraseIdx_set_eq] at h3
    exact h3
  exact e2.trans (List.Perm.cons _ (List.Perm.cons_inv (e1.symm.trans hp)))
/-- What New takes for the most. -/
def mostH (most : Int) : Int := if most < 0 then 0 else if 4096 < most then 4096 else most
def NewPost (B : Nat) (most : Int) (w : World) (e : Ending) (w' : World) : Prop := ∃ b mb, e = .returned (.pointer (some ⟨b, 0, none⟩)) ∧ HP B w' b mb (mostH most) [] ∧ Below w.heap.size w w' ∧ w.heap.size ≤ b ∧ w.heap.size ≤ mb
set_option maxRecDepth 100000 in
set_option maxHeartbeats 4000000 in
theorem New_any (most : Int) (w : World) (hB : B ≤ w.heap.size) :
    Calls Try.prog 19 #[.int .i64 most] w (NewPost B most w) := by
  obtain ⟨m, hm⟩ : ∃ m, mostH most = m := ⟨_, rfl⟩
  have HM := hid hm
  have key : ∀ W : World, W = (w.alloc (.map #[] 0)).alloc (.cells #[.int .i64 m, .slice none 0 0, .map (some w.heap.size)] tH) → HP B W (w.heap.size + 1) w.heap.size m [] ∧ Below w.heap.size w W := by
    rintro _ rfl
    refine ⟨⟨⟨[], ⟨by omega, hB, ⟨none, 0, ?_, rfl, .inl ⟨rfl, rfl⟩⟩, ?_⟩, fun k hk => by simp at hk, List.Perm.refl _⟩, ⟨by simp, by simp, by simp⟩⟩, ((Below.refl _ w).alloc (Nat.le_refl _) _).alloc (by simp) _⟩
    · have := Rec.new (w.alloc (.map #[] 0)) tH #[.int .i64 m, .slice none 0 0, .map (some w.heap.size)]
      simpa using this
    · have := (MapI.made (P := Try.prog) (t := 3) w).below ((Below.refl _ _).alloc (Nat.le_refl _) (.cells #[.int .i64 m, .slice none 0 0, .map (some w.heap.size)] tH)) (by simp)
      exact this.ext fun z => rfl
  have K := hid key
  have hmm := @run_makeMap Try.prog
  unfold mostH at hm
  clear key
  by_cases h1 : most < 0
  · obtain rfl : m = 0 := by omega
    clear hm
    go_enter Try.func19, Try.ntmps19
    go_wp2
    go_ret
    exact ⟨_, _, rfl, by rw [HM.out]; exact (K.out _ rfl).1, (K.out _ rfl).2, by omega, by omega⟩
  · by_cases h2 : 4096 < most
    · obtain rfl : m = 4096 := by omega
      clear hm
      have h3 : 0 ≤ most := by omega
      go_enter Try.func19, Try.ntmps19
      go_wp2
      go_ret
      exact ⟨_, _, rfl, by rw [HM.out]; exact (K.out _ rfl).1, (K.out _ rfl).2, by omega, by omega⟩
    · obtain rfl : m = most := by omega
      clear hm
      have h3 : 0 ≤ m := by omega
      have h4 : m ≤ 4096 := by omega
      go_enter Try.func19, Try.ntmps19
      go_wp2
      go_ret
      exact ⟨_, _, rfl, by rw [HM.out]; exact (K.out _ rfl).1, (K.out _ rfl).2, by omega, by omega⟩
end

end Go.Proofs.Ytcbdghjakdbedaa.HpU
