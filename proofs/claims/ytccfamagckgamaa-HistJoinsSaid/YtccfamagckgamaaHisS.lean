/-
  Layer 34: what came, and how often; by places, in all. No program in sight.
-/
import Derived.Test.YtccfamagckgamaaFixq
import Derived.Test.YtccfamagckgamaaObj
import Derived.Test.YtccfamagckgamaaTab
import Derived.Lib.ItoaNum
namespace Go.Proofs.Ytccfamagckgamaa
open Go.RowKit
abbrev Cm := Int × Int
def placeF (n : Int) : Nat := Lib.bitLen n.toNat
theorem place_le {n : Int} (h : U64 n) : placeF n ≤ 64 := by
  unfold U64 at h
  exact Lib.bitLen_le _ 64 (by omega) (by omega)
def cntF (L : List Cm) : Int := (L.map (·.2)).sum
def atF (L : List Cm) (k : Nat) : Int := ((L.filter fun x => placeF x.1 == k).map (·.2)).sum
def sumStep (s : Int) (x : Cm) : Int := addF s (mulF x.1 x.2)
def totF (L : List Cm) : Int := L.foldl sumStep 0
def mostF (L : List Cm) : Int := L.foldl (fun m x => max m x.1) 0
theorem cnt_snoc (L : List Cm) (x : Cm) : cntF (L ++ [x]) = cntF L + x.2 := by simp [cntF]
theorem at_snoc (L : List Cm) (x : Cm) (k : Nat) : atF (L ++ [x]) k = if placeF x.1 = k then atF L k + x.2 else atF L k := by
  unfold atF
  rw [List.filter_append]
  by_cases h : placeF x.1 = k
  · rw [if_pos h]; simp [h]
  · rw [if_neg h]; simp [h]
theorem sum_snoc (L : List Cm) (x : Cm) : totF (L ++ [x]) = addF (totF L) (mulF x.1 x.2) := by simp [totF, sumStep]
theorem most_snoc (L : List Cm) (x : Cm) : mostF (L ++ [x]) = max (mostF L) x.1 := by simp [mostF]
/-- What came may have come. -/
structure OkL (L : List Cm) : Prop where
  each : ∀ x ∈ L, U64 x.1 ∧ 1 ≤ x.2
  most : cntF L ≤ 1099511627776
def cts (L : List Cm) : List Value := (List.range 65).map fun k => .int .i64 (atF L k)
def cellsF (L : List Cm) : List Value := cts L ++ [.int .i64 (cntF L), .int .u64 (totF L), .int .u64 (mostF L)]
theorem cts_length (L : List Cm) : (cts L).length = 65 := by simp [cts]
theorem cells_length (L : List Cm) : (cellsF L).length = 68 := by simp [cellsF, cts_length]
theorem cells_ct (L : List Cm) {k : Nat} (h : k < 65) : (cellsF L)[k]? = some (.int .i64 (atF L k)) := by
  rw [cellsF, List.getElem?_append_left (by rw [cts_length]; exact h)]
  simp [cts, h]
theorem cells_cnt (L : List Cm) : (cellsF L)[65]? = some (.int .i64 (cntF L)) := by
  rw [cellsF, List.getElem?_append_right (by rw [cts_length]; omega), cts_length]; rfl
theorem cells_sum (L : List Cm) : (cellsF L)[66]? = some (.int .u64 (totF L)) := by
  rw [cellsF, List.getElem?_append_right (by rw [cts_length]; omega), cts_length]; rfl
theorem cells_most (L : List Cm) : (cellsF L)[67]? = some (.int .u64 (mostF L)) := by
  rw [cellsF, List.getElem?_append_right (by rw [cts_length]; omega), cts_length]; rfl
theorem cells_snoc (L : List Cm) (x : Cm) (hp : placeF x.1 < 65) :
    ((((cellsF L).set (placeF x.1) (.int .i64 (atF L (placeF x.1) + x.2))).set 65 (.int .i64 (cntF L + x.2))).set 66 (.int .u64 (addF (totF L) (mulF x.1 x.2)))).set 67 (.int .u64 (max (mostF L) x.1)) = cellsF (L ++ [x]) := by
  apply List.ext_getElem?
  intro i
  by_cases h0 : i < 65
  · rw [cells_ct _ h0, List.getElem?_set_ne (by omega), List.getElem?_set_ne (by omega), List.getElem?_set_ne (by omega), at_snoc]
    by_cases e : placeF x.1 = i
    · rw [if_pos e, ← e, List.getElem?_set_self (by rw [cells_length]; omega)]
    · rw [if_neg e, List.getElem?_set_ne e, cells_ct _ h0]
  · by_cases h1 : i = 65
    · subst h1
      rw [cells_cnt, List.getElem?_set_ne (by omega), List.getElem?_set_ne (by omega), List.getElem?_set_self (by simp [cells_length]), cnt_snoc]
    · by_cases h2 : i = 66
      · subst h2
        rw [cells_sum, List.getElem?_set_ne (by omega), List.getElem?_set_self (by simp [cells_length]), sum_snoc]
      · by_cases h3 : i = 67
        · subst h3
          rw [cells_most, List.getElem?_set_self (by simp [cells_length]), most_snoc]
        · rw [List.getElem?_eq_none (by simp [cells_length]; omega), List.getElem?_eq_none (by rw [cells_length]; omega)]
theorem cnt_nonneg {L : List Cm} (h : ∀ x ∈ L, U64 x.1 ∧ 1 ≤ x.2) : (L.length : Int) ≤ cntF L := by
  induction L with
  | nil => simp [cntF]
  | cons x L ih =>
    have h1 := ih fun y hy => h y (List.mem_cons_of_mem _ hy)
    have h2 := (h x List.mem_cons_self).2
    simp only [cntF, List.map_cons, List.sum_cons, List.length_cons] at h1 ⊢
    omega
theorem at_range {L : List Cm} (h : ∀ x ∈ L, U64 x.1 ∧ 1 ≤ x.2) (k : Nat) : 0 ≤ atF L k ∧ atF L k ≤ cntF L := by
  induction L with
  | nil => simp [atF, cntF]
  | cons x L ih =>
    have h1 := ih fun y hy => h y (List.mem_cons_of_mem _ hy)
    have h2 := (h x List.mem_cons_self).2
    have e : atF (x :: L) k = if placeF x.1 = k then x.2 + atF L k else atF L k := by
      unfold atF
      by_cases c : placeF x.1 = k <;> simp [c]
    have e2 : cntF (x :: L) = x.2 + cntF L := by simp [cntF]
    rw [e, e2]
    split <;> omega
theorem addF_w (a b : Int) : U64 (addF a b) := by
  unfold addF sumF top64
  split <;> (unfold U64; omega)
theorem sum_u64 (L : List Cm) : U64 (totF L) := by
  unfold totF
  have key : ∀ (L : List Cm) (s : Int), U64 s → U64 (L.foldl sumStep s) := by
    intro L
    induction L with
    | nil => intro s h; exact h
    | cons x L ih => intro s h; exact ih _ (addF_w _ _)
  exact key L 0 (by unfold U64; omega)
theorem most_range {L : List Cm} (h : ∀ x ∈ L, U64 x.1 ∧ 1 ≤ x.2) : U64 (mostF L) := by
  unfold mostF
  have key : ∀ (L : List Cm) (s : Int), (∀ x ∈ L, U64 x.1 ∧ 1 ≤ x.2) → U64 s → U64 (L.foldl (fun m x => max m x.1) s) := by
    intro L
    induction L with
    | nil => intro s _ h; exact h
    | cons x L ih =>
      intro s hL h
      have h1 := (hL x List.mem_cons_self).1
      refine ih _ (fun y hy => hL y (List.mem_cons_of_mem _ hy)) ?_
      show U64 (max s x.1)
      unfold U64 at h h1 ⊢; omega
  exact key L 0 h (by unfold U64; omega)
end Go.Proofs.Ytccfamagckgamaa
