/-
  Layer 04: what is pushed comes off in order: the plain part. No condition.
-/
import Derived.Test.YtcbdghjakdbedaaHuQ
namespace Go.Proofs.Ytcbdghjakdbedaa
open Go Go.RowKit HpU
/-- The item of a number at its place. -/
def itA (l : List Int) (j : Nat) : Hp.It HpU.A := ⟨atL l j, j, atL l j⟩
def its (l : List Int) (k : Nat) : List (Hp.It HpU.A) := (List.range k).map (itA l)
theorem its_succ (l : List Int) (k : Nat) : its l (k + 1) = its l k ++ [itA l k] := by simp [its, List.range_succ]
theorem its_length (l : List Int) (k : Nat) : (its l k).length = k := by simp [its]
theorem its_id (l : List Int) (k : Nat) : ¬ (k : Int) ∈ (its l k).map (·.id) := by
  simp [its, itA]
  omega
theorem its_mem {l : List Int} {n : Nat} {x : Hp.It HpU.A} (h : x ∈ its l n) : ∃ j, j < n ∧ x = itA l j := by
  simp only [its, List.mem_map, List.mem_range] at h
  obtain ⟨j, hj, e⟩ := h
  exact ⟨j, hj, e.symm⟩
theorem its_nodup (l : List Int) (n : Nat) : ((its l n).map (·.id)).Nodup := by
  induction n with
  | zero => simp [its]
  | succ n ih =>
    rw [its_succ, List.map_append, List.nodup_append]
    refine ⟨ih, by simp, fun a ha b hb e => ?_⟩
    simp at hb
    subst hb e
    exact its_id l n (by simpa [itA] using ha)
/-- The key of the last one. -/
def lastK (pre : List (Hp.It HpU.A)) : Int × Int := match pre.getLast? with | some y => (y.v, y.id) | none => (0, 0)
theorem lastK_snoc (pre : List (Hp.It HpU.A)) (x : Hp.It HpU.A) : lastK (pre ++ [x]) = (x.v, x.id) := by simp [lastK]
theorem took_inv {u : Int} {L0 pre L : List (Hp.It HpU.A)} {x : Hp.It HpU.A} (h : Took u L0 (pre ++ [x]) L) : ∃ L1, Took u L0 pre L1 ∧ Least L1 x ∧ (x :: L).Perm L1 := by
  generalize e : pre ++ [x] = q at h
  cases h with
  | nil h => simp at e
  | snoc h hx hu hp =>
    obtain ⟨rfl, e2⟩ := List.append_inj' e rfl
    injection e2 with e2
    subst e2
    exact ⟨_, h, hx, hp⟩
/-- What comes next is behind what came last. -/
theorem took_next {u : Int} {l : List Int} {n : Nat} {pre L : List (Hp.It HpU.A)} {x : Hp.It HpU.A} (h : Took u (its l n) (pre ++ [x]) L) :
    ∃ j, j < n ∧ x = itA l j ∧ pre.length < n ∧ (0 < pre.length → ¬ x.v < (lastK pre).1 ∧ (x.v = (lastK pre).1 → (lastK pre).2 < x.id)) := by
  have hp := h.perm
  have hm : x ∈ its l n := hp.mem_iff.1 (by simp)
  obtain ⟨j, hj, e⟩ := its_mem hm
  have hl := hp.length_eq
  rw [its_length] at hl
  simp at hl
  refine ⟨j, hj, e, by omega, fun h0 => ?_⟩
  obtain ⟨L1, h1, h2, h3⟩ := took_inv h
  obtain ⟨pre', y, rfl⟩ : ∃ pre' y, pre = pre' ++ [y] := by
    refine ⟨pre.dropLast, pre.getLast (by intro e; rw [e] at h0; exact absurd h0 (by simp)), (List.dropLast_concat_getLast _).symm⟩
  rw [lastK_snoc]
  obtain ⟨L2, h4, h5, h6⟩ := took_inv h1
  have hx2 : x ∈ L2 := h6.mem_iff.1 (List.mem_cons_of_mem _ h2.1)
  have h7 := h5.2 x hx2
  have hnd : ((y :: L1).map (·.id)).Nodup := by
    have h8 := (h4.perm.map (·.id)).nodup_iff.2 (its_nodup l n)
    rw [List.map_append, List.nodup_append] at h8
    exact (h6.map (·.id)).nodup_iff.2 h8.2.1
  have hne : x.id ≠ y.id := by
    rw [List.map_cons, List.nodup_cons] at hnd
    intro e
    exact hnd.1 (by rw [← e]; exact List.mem_map.2 ⟨x, h2.1, rfl⟩)
  unfold Hp.lt at h7
  simp only
  constructor
  · omega
  · intro e; omega
theorem took_all {u : Int} {L0 xs L : List (Hp.It HpU.A)} (h : Took u L0 xs L) (hL : ∀ y ∈ L, u < y.v) (hu : ∀ y ∈ L0, y.v ≤ u) : xs.length = L0.length ∧ L = [] := by
  have hp := h.perm
  have e : L = [] := by
    cases L with
    | nil => rfl
    | cons y L =>
      have h1 := hL y (by simp)
      have h2 := hu y (hp.mem_iff.1 (by simp))
      omega
  subst e
  exact ⟨by have := h.length; simpa using this, rfl⟩
end Go.Proofs.Ytcbdghjakdbedaa
