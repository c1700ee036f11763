/-
  Layer 44: what is given back leaves a safe bank safe; nothing is lost. Plain laws. No condition.
-/
import Derived.Test.YtddngloojacceaaPlB
import Derived.Test.YtddngloojacceaaRfG
namespace Go.Proofs.Ytddngloojacceaa
open Go Go.RowKit
theorem Served.full {x : Bk} {k nh : Nat} {F r : List Int} (h : Served x k nh F r) (hl : ¬ r.length < nh) : ∀ t : Nat, t < nh → (t : Int) ∈ r := fun t ht => by
  have h0 : (stuckK r nh).length = 0 := by have := h.len; omega
  have h1 := List.length_eq_zero_iff.1 h0
  cases hc : r.contains (t : Int) with
  | true => simpa using hc
  | false =>
    exfalso
    have : (t : Int) ∈ stuckK r nh := by
      unfold stuckK
      exact List.mem_filter.2 ⟨mem_iota.2 ⟨t, rfl, ht⟩, by rw [hc]; rfl⟩
    rw [h1] at this
    cases this
theorem sum_change {f g : Int → Int} {j : Int} {d : Int} (hfg : ∀ i, i ≠ j → g i = f i) (hj : g j = f j + d) : ∀ (A : List Int), A.Nodup → (A.map g).sum = (A.map f).sum + if j ∈ A then d else 0
  | [], _ => by simp
  | a :: A, hn => by
    have hn2 := List.nodup_cons.1 hn
    have ih := sum_change hfg hj A hn2.2
    simp only [List.map_cons, List.sum_cons, ih, List.mem_cons]
    by_cases e : a = j
    · subst e
      rw [hj, if_neg hn2.1, if_pos (.inl rfl)]
      omega
    · rw [hfg a e]
      by_cases hm : j ∈ A
      · rw [if_pos hm, if_pos (.inr hm)]; omega
      · rw [if_neg hm, if_neg (by rintro (h | h); exact e h.symm; exact hm h)]; omega
/-- What the change of one client's row does to what is free. -/
theorem freeA_moved {x : Bk} {k nh : Nat} (ok : x.Ok k nh) {j : Nat} (hj : j < nh) {n : List Int} {s : Int} (A : List Int) (hA : A.Nodup) (hr : ∀ i ∈ A, ∃ t : Nat, i = t ∧ t < nh) {i : Nat} (hi : i < k) :
    atL (freeA (movedB x j n s) (movedB x j n s).F.2.2 A) i = atL (freeA x x.F.2.2 A) i - s * atL n i + if (j : Int) ∈ A then s * atL n i else 0 := by
  have fl : (movedB x j n s).F.2.2.length = k := by rw [movedB_free, plusF_length]; exact ok.ef
  rw [freeA_at _ hi _ _ fl, freeA_at _ hi _ _ ok.ef]
  have hh := sum_change (f := fun q => atL (hasR x q.toNat) i) (g := fun q => if q = (j : Int) then atL (hasR x j) i + s * atL n i else atL (hasR x q.toNat) i) (j := (j : Int)) (d := s * atL n i) (fun q hq => if_neg hq) (by simp) A hA
  have e : A.map (fun q => atL (hasR (movedB x j n s) q.toNat) i) = A.map (fun q => if q = (j : Int) then atL (hasR x j) i + s * atL n i else atL (hasR x q.toNat) i) := by
    apply List.map_congr_left
    intro q hq
    obtain ⟨t, rfl, ht⟩ := hr q hq
    rw [movedB_has _ _ _ _ _ (by rw [ok.eh]; exact hj), Int.toNat_natCast]
    by_cases e : j = t
    · subst e
      rw [if_pos rfl, if_pos rfl, plusF_at (by rw [ok.hl j hj]; exact hi)]
    · rw [if_neg e, if_neg (by omega)]
  rw [e, hh, movedB_free, plusF_at (by rw [ok.ef]; exact hi)]
  have : -s * atL n i = -(s * atL n i) := Int.neg_mul _ _
  omega
theorem CanAll.mem {x : Bk} {k nh : Nat} {F l : List Int} (h : CanAll x k nh F l) : ∀ i ∈ l, ∃ t : Nat, i = t ∧ t < nh := fun i hi => by
  obtain ⟨A, B, rfl⟩ := List.append_of_mem hi
  obtain ⟨t, e, ht, _⟩ := h A B i rfl
  exact ⟨t, e, ht⟩
theorem CanAll.prefix {x : Bk} {k nh : Nat} {F A B : List Int} (h : CanAll x k nh F (A ++ B)) : CanAll x k nh F A := fun C D i e => h C (D ++ B) i (by rw [e]; simp)
/-- What is given back leaves it safe. -/
theorem give_safe {x : Bk} {k nh : Nat} (ok : x.Ok k nh) (hm : mayB x = true) (ho : orderF x ≠ none) {j : Nat} (hj : j < nh) {n : List Int} (hn : n.length = k) (hp : ∀ i, i < k → 0 ≤ atL n i) (hh : ∀ i, i < k → atL n i ≤ atL (hasR x j) i) (hf : ∀ i, i < k → atL n i ≤ 1000000 - atL x.F.2.2 i) :
    mayB (movedB x j n (-1)) = true ∧ orderF (movedB x j n (-1)) ≠ none := by
  have hmy : mayB (movedB x j n (-1)) = true := movedB_may ok hj hn (fun i hi => by
    have h1 := hp i hi
    have h2 := hf i hi
    have h3 := ok.fv i hi
    omega) (fun i hi => by
    have h1 := hp i hi
    have h2 := hh i hi
    have h3 := ok.le j hj i hi
    omega)
  refine ⟨hmy, fun hc => ?_⟩
  have sx := served_spec x
  have sy := served_spec (movedB x j n (-1))
  rw [ok.ef, ok.eh] at sx
  have fl : (movedB x j n (-1)).F.2.2.length = k := by rw [movedB_free, plusF_length]; exact ok.ef
  rw [fl, movedB_hl, ok.eh] at sy
  have hlen : ¬ (servedF x).length < nh := fun h => ho (by unfold orderF; rw [if_neg (fun e => e.2 (by rw [ok.eh]; exact h))])
  have hall := sx.full hlen
  have hcan : CanAll (movedB x j n (-1)) k nh (movedB x j n (-1)).F.2.2 (servedF x) := fun A B i e => by
    obtain ⟨t, rfl, ht, h2, h3⟩ := sx.all A B i e
    refine ⟨t, rfl, ht, h2, ?_⟩
    have hAc : CanAll x k nh x.F.2.2 A := by have := sx.all; rw [e] at this; exact this.prefix
    refine withK_iff.2 fun q hq => ?_
    have h4 := withK_iff.1 h3 q hq
    rw [freeA_moved ok hj A hAc.nodup hAc.mem hq]
    rw [plusF_at (by rw [ok.ml t ht]; exact hq)] at h4
    rw [movedB_most, plusF_at (by rw [ok.ml t ht]; exact hq), movedB_has _ _ _ _ _ (by rw [ok.eh]; exact hj)]
    have h5 := hp q hq
    by_cases ej : j = t
    · subst ej
      rw [if_pos rfl, plusF_at (by rw [ok.hl j hj]; exact hq), if_neg (by intro hmem; have : A.contains (j : Int) = true := by simpa using hmem
                                                                          rw [h2] at this; cases this)]
      omega
    · rw [if_neg ej]
      split <;> omega
  have hin := all_in sy hcan fl (fun i hi q hq => by
    rw [movedB_has _ _ _ _ _ (by rw [ok.eh]; exact hj)]
    split
    · rw [plusF_at (by rw [ok.hl j hj]; exact hq)]
      have := hh q hq
      omega
    · exact (ok.hv i hi q hq).1)
  have h0 := (orderF_none hmy).1 hc
  rw [movedB_hl, ok.eh] at h0
  obtain ⟨v, hv⟩ := List.exists_mem_of_ne_nil _ (List.ne_nil_of_length_pos h0)
  unfold stuckK at hv
  obtain ⟨hv1, hv2⟩ := List.mem_filter.1 hv
  obtain ⟨t, rfl, ht⟩ := mem_iota.1 hv1
  have := hin _ (hall t ht)
  have h9 : (servedF (movedB x j n (-1))).contains (t : Int) = true := by simpa using this
  rw [h9] at hv2
  cases hv2
/-- All there is. -/
def totalF (x : Bk) : List Int := freeA x x.F.2.2 (iota x.H.length)
theorem total_moved {x : Bk} {k nh : Nat} (ok : x.Ok k nh) {j : Nat} (hj : j < nh) {n : List Int} {s : Int} : totalF (movedB x j n s) = totalF x := by
  have fl : (movedB x j n s).F.2.2.length = k := by rw [movedB_free, plusF_length]; exact ok.ef
  apply List.ext_getElem?
  intro i
  unfold totalF
  rw [movedB_hl, ok.eh]
  by_cases hi : i < k
  · have h1 := freeA_moved ok hj (n := n) (s := s) (iota nh) (by
      unfold List.Nodup iota
      rw [List.pairwise_map]
      exact List.pairwise_lt_range.imp (fun h => by omega)) (fun q hq => mem_iota.1 hq) hi
    rw [if_pos (mem_iota.2 ⟨j, rfl, hj⟩)] at h1
    have l1 : (freeA (movedB x j n s) (movedB x j n s).F.2.2 (iota nh)).length = k := by rw [freeA_length, fl]
    have l2 : (freeA x x.F.2.2 (iota nh)).length = k := by rw [freeA_length, ok.ef]
    unfold atL at h1
    rw [List.getElem?_eq_getElem (by omega), List.getElem?_eq_getElem (by omega)] at h1 ⊢
    simp only [Option.getD_some] at h1
    congr 1
    omega
  · rw [List.getElem?_eq_none (by rw [freeA_length, fl]; omega), List.getElem?_eq_none (by rw [freeA_length, ok.ef]; omega)]
end Go.Proofs.Ytddngloojacceaa
