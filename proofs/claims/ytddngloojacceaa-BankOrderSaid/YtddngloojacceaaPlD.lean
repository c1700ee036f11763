/-
  Layer 44's BankOrder: the marks in a map, what those have that aren't stuck, and what a stuck one lacks. Plain laws. No condition.
-/
import Derived.Test.YtddngloojacceaaPlC
import Derived.Test.YtddngloojacceaaLwH
import Derived.Test.YtddngloojacceaaMapI
namespace Go.Proofs.Ytddngloojacceaa
open Go Go.RowKit
/-- The first q of S, marked by v. -/
def mapF (S : List Int) (v : Int) (q : Nat) (z : Int) : Option Int := if z ∈ S.take q then some v else none
theorem mapF_zero (S : List Int) (v z : Int) : mapF S v 0 z = none := by simp [mapF]
theorem mapF_succ {S : List Int} {v : Int} {q : Nat} {x : Int} (h : S[q]? = some x) (z : Int) : upd (mapF S v q) x (some v) z = mapF S v (q + 1) z := by
  have e : S.take (q + 1) = S.take q ++ [x] := by rw [List.take_add_one, h]; rfl
  unfold upd mapF
  rw [e]
  by_cases hz : z = x
  · subst hz; simp
  · rw [if_neg hz]; simp [hz]
theorem mapF_none {S : List Int} {v : Int} {q : Nat} {x : Int} (hn : S.Nodup) (h : S[q]? = some x) : mapF S v q x = none := by
  unfold mapF
  rw [if_neg]
  intro hm
  obtain ⟨j, hj, e⟩ := List.mem_iff_getElem.1 hm
  simp at hj e
  obtain ⟨hq, e2⟩ := List.getElem?_eq_some_iff.1 h
  have := List.pairwise_iff_getElem.1 hn j q (by omega) hq (by omega)
  exact this (e.trans e2.symm)
theorem mapF_all {S : List Int} {v z : Int} : mapF S v S.length z = if z ∈ S then some v else none := by unfold mapF; rw [List.take_length]
theorem stuckK_nodup (r : List Int) (nh : Nat) : (stuckK r nh).Nodup := by
  unfold stuckK iota
  refine List.Pairwise.filter _ ?_
  rw [List.pairwise_map]
  exact List.pairwise_lt_range.imp (fun h => by omega)
theorem stuckK_mem {r : List Int} {nh : Nat} {z : Int} : z ∈ stuckK r nh ↔ ∃ t : Nat, z = t ∧ t < nh ∧ r.contains (t : Int) = false := by
  unfold stuckK
  rw [List.mem_filter]
  constructor
  · rintro ⟨h1, h2⟩
    obtain ⟨t, rfl, ht⟩ := mem_iota.1 h1
    exact ⟨t, rfl, ht, by simpa using h2⟩
  · rintro ⟨t, rfl, ht, hc⟩
    exact ⟨mem_iota.2 ⟨t, rfl, ht⟩, by rw [hc]; rfl⟩
/-- What is free stays small, whoever gives back. -/
theorem freeA_okL {x : Bk} {k nh : Nat} (ok : x.Ok k nh) : ∀ (A F : List Int) (b : Nat), FreeOk F k b → (∀ i ∈ A, ∃ t : Nat, i = t ∧ t < nh) → FreeOk (freeA x F A) k (b + A.length)
  | [], F, b, h, _ => h
  | a :: A, F, b, h, hA => by
    obtain ⟨t, rfl, ht⟩ := hA a List.mem_cons_self
    have := freeA_okL ok A (plusF F (hasR x t) 1) (b + 1) (h.plus (ok.hl t ht) (ok.hv t ht)) (fun i hi => hA i (List.mem_cons_of_mem _ hi))
    rw [show b + (((t : Nat) : Int) :: A).length = b + 1 + A.length by simp; omega]
    exact this
theorem free_start {x : Bk} {k nh : Nat} (ok : x.Ok k nh) : FreeOk x.F.2.2 k 1 := ⟨ok.ef, fun j hj => by have := ok.fv j hj; simp; omega⟩
/-- Those of the first i that aren't in S. -/
def nonS (S : List Int) (i : Nat) : List Int := (iota i).filter fun z => !S.contains z
theorem nonS_zero (S : List Int) : nonS S 0 = [] := rfl
theorem nonS_succ (S : List Int) (i : Nat) : nonS S (i + 1) = if S.contains (i : Int) then nonS S i else nonS S i ++ [(i : Int)] := by
  unfold nonS
  rw [iota_succ, List.filter_append]
  cases h : S.contains (i : Int) with
  | true => simp [h]; simpa using h
  | false => simp [h]; simpa using h
theorem nonS_mem {S : List Int} {i : Nat} : ∀ z ∈ nonS S i, ∃ t : Nat, z = t ∧ t < i := fun z hz => by
  unfold nonS at hz
  obtain ⟨h1, _⟩ := List.mem_filter.1 hz
  exact mem_iota.1 h1
theorem nonS_length (S : List Int) (i : Nat) : (nonS S i).length ≤ i := by
  unfold nonS
  have := List.length_filter_le (fun z => !S.contains z) (iota i)
  rw [iota_length] at this
  exact this
/-- Who is stuck can't be served by what is free, and all that the others have. -/
theorem stuck_lacks {x : Bk} {k nh : Nat} {F r : List Int} (hr : Served x k nh F r) (hF : F.length = k) (hh : ∀ i, i < nh → ∀ j, j < k → 0 ≤ atL (hasR x i) j) {t : Nat} (ht : t < nh) (hc : r.contains (t : Int) = false) :
    canK x (freeA x F (nonS (stuckK r nh) nh)) t k = false := by
  cases h : canK x (freeA x F (nonS (stuckK r nh) nh)) t k with
  | false => rfl
  | true =>
    have h2 := can_mono (f2 := freeA x F r) (fun j hj => by
      rw [freeA_at x hj _ _ hF, freeA_at x hj _ _ hF]
      have := sum_le (f := fun i => atL (hasR x i.toNat) j) (nonS (stuckK r nh) nh) r (by
        unfold nonS iota
        refine List.Pairwise.filter _ ?_
        rw [List.pairwise_map]
        exact List.pairwise_lt_range.imp (fun h => by omega)) (fun i hi => by
          unfold nonS at hi
          obtain ⟨h1, h2⟩ := List.mem_filter.1 hi
          obtain ⟨s, rfl, hs⟩ := mem_iota.1 h1
          cases hcs : r.contains (s : Int) with
          | true => simpa using hcs
          | false =>
            exfalso
            have : (s : Int) ∈ stuckK r nh := stuckK_mem.2 ⟨s, rfl, hs, hcs⟩
            simp [this] at h2) (fun i hi => by
          obtain ⟨s, rfl, hs⟩ := hr.all.mem i hi
          exact hh s hs j hj)
      omega) h
    rw [hr.non t ht hc] at h2
    cases h2
/-- Is one of the first k more than is free? -/
def lackK (m h f : List Int) (k : Nat) : Bool := (List.range k).any fun j => decide (atL f j < atL m j - atL h j)
theorem lackK_zero (m h f : List Int) : lackK m h f 0 = false := rfl
theorem lackK_succ (m h f : List Int) (k : Nat) : lackK m h f (k + 1) = (lackK m h f k || decide (atL f k < atL m k - atL h k)) := by simp [lackK, List.range_succ, List.any_append]
theorem lackK_can {x : Bk} {f : List Int} {i k : Nat} (hm : (mostR x i).length = k) (h : canK x f i k = false) : lackK (mostR x i) (hasR x i) f k = true := by
  cases e : lackK (mostR x i) (hasR x i) f k with
  | true => rfl
  | false =>
    have : canK x f i k = true := withK_iff.2 fun j hj => by
      unfold lackK at e
      have := List.any_eq_false.1 e j (List.mem_range.2 hj)
      rw [plusF_at (by rw [hm]; exact hj)]
      simp at this
      omega
    rw [h] at this
    cases this
/-- The next one of an order: who it is, and that it can be served. -/
theorem can_next {x : Bk} {k nh : Nat} {F l : List Int} (h : CanAll x k nh F l) {q : Nat} (hq : q < l.length) :
    ∃ t : Nat, l[q]? = some (t : Int) ∧ t < nh ∧ canK x (freeA x F (l.take q)) t k = true := by
  have e : l = l.take q ++ l[q] :: l.drop (q + 1) := by simp
  obtain ⟨t, e2, ht, _, hc⟩ := h _ _ _ e
  exact ⟨t, by rw [List.getElem?_eq_getElem hq, e2], ht, hc⟩
end Go.Proofs.Ytddngloojacceaa
