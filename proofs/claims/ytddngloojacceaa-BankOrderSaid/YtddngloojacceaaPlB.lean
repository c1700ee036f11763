/-
  Layer 44: who is served hangs on the bank alone, not on the order in which its clients stand. Plain laws. No condition.
-/
import Derived.Test.YtddngloojacceaaPlA
import Derived.Test.YtddngloojacceaaLwB
namespace Go.Proofs.Ytddngloojacceaa
open Go Go.RowKit
theorem freeA_at (x : Bk) {k j : Nat} (hj : j < k) : ∀ (out F : List Int), F.length = k → atL (freeA x F out) j = atL F j + (out.map fun i => atL (hasR x i.toNat) j).sum
  | [], F, _ => by simp [freeA]
  | i :: out, F, h => by
    have h1 := freeA_at x hj out (plusF F (hasR x i.toNat) 1) (by rw [plusF_length]; exact h)
    rw [plusF_at (by rw [h]; exact hj)] at h1
    have h2 : freeA x F (i :: out) = freeA x (plusF F (hasR x i.toNat) 1) out := rfl
    rw [h2, h1]
    simp
    omega
theorem sum_le {f : Int → Int} : ∀ (A r : List Int), A.Nodup → (∀ i ∈ A, i ∈ r) → (∀ i ∈ r, 0 ≤ f i) → (A.map f).sum ≤ (r.map f).sum
  | [], r, _, _, h => by
    simp only [List.map_nil, List.sum_nil]
    induction r with
    | nil => simp
    | cons a r ih =>
      have h1 := h a (by simp)
      have h2 := ih (fun i hi => by cases hi) (fun i hi => h i (by simp [hi]))
      simp only [List.map_cons, List.sum_cons]
      omega
  | a :: A, r, hn, hs, h => by
    obtain ⟨s, t, rfl⟩ := List.append_of_mem (hs a (by simp))
    have hn2 := List.nodup_cons.1 hn
    have h1 := sum_le A (s ++ t) hn2.2 (fun i hi => by
      have h3 := hs i (by simp [hi])
      have h4 : i ≠ a := fun e => hn2.1 (e ▸ hi)
      simp only [List.mem_append, List.mem_cons] at h3 ⊢
      rcases h3 with h3 | h3 | h3
      · exact .inl h3
      · exact (h4 h3).elim
      · exact .inr h3) (fun i hi => h i (by
        simp only [List.mem_append, List.mem_cons] at hi ⊢
        rcases hi with hi | hi
        · exact .inl hi
        · exact .inr (.inr hi)))
    simp only [List.map_append, List.map_cons, List.sum_append, List.sum_cons] at h1 ⊢
    omega
theorem can_mono {x : Bk} {f1 f2 : List Int} {i k : Nat} (h : ∀ j, j < k → atL f1 j ≤ atL f2 j) (hc : canK x f1 i k = true) : canK x f2 i k = true :=
  withK_iff.2 fun j hj => Int.le_trans (withK_iff.1 hc j hj) (h j hj)
theorem CanAll.nodup {x : Bk} {k nh : Nat} {F : List Int} : ∀ {l : List Int}, CanAll x k nh F l → l.Nodup := fun {l} h => by
  unfold List.Nodup
  rw [List.pairwise_iff_getElem]
  intro i j hi hj hij e
  have hl : l = l.take j ++ l[j] :: l.drop (j + 1) := by simp
  obtain ⟨t, e1, _, h2, _⟩ := h _ _ _ hl
  have : l[i] ∈ l.take j := by
    rw [List.mem_take_iff_getElem]
    exact ⟨i, by omega, rfl⟩
  rw [e] at this
  have h3 : (l.take j).contains l[j] = true := by simpa using this
  rw [h2] at h3
  cases h3
/-- Whoever is in an order is served. -/
theorem all_in {x : Bk} {k nh : Nat} {F r l : List Int} (hr : Served x k nh F r) (hl : CanAll x k nh F l) (hF : F.length = k) (hh : ∀ i, i < nh → ∀ j, j < k → 0 ≤ atL (hasR x i) j) : ∀ i ∈ l, i ∈ r := by
  have key : ∀ n, ∀ i ∈ l.take n, i ∈ r := by
    intro n
    induction n with
    | zero => intro i hi; simp at hi
    | succ n ih =>
      intro i hi
      by_cases hn : n < l.length
      · rw [List.take_succ_eq_append_getElem hn] at hi
        rcases List.mem_append.1 hi with hi | hi
        · exact ih i hi
        · have e : i = l[n] := by simpa using hi
          have hsp : l = l.take n ++ l[n] :: l.drop (n + 1) := by simp
          obtain ⟨t, e1, ht, h2, h3⟩ := hl _ _ _ hsp
          cases hc : r.contains (t : Int) with
          | true => rw [e, e1]; simpa using hc
          | false =>
            exfalso
            have h4 := hr.non t ht hc
            have h5 := can_mono (f2 := freeA x F r) (fun j hj => by
              rw [freeA_at x hj _ _ hF, freeA_at x hj _ _ hF]
              have h6 := sum_le (f := fun i => atL (hasR x i.toNat) j) (l.take n) r ((List.take_sublist n l).nodup hl.nodup) ih (fun i hi => by
                obtain ⟨A, B, e7⟩ := List.append_of_mem hi
                obtain ⟨t', e8, h8, _⟩ := hr.all A B i e7
                rw [e8, Int.toNat_natCast]
                exact hh t' h8 j hj)
              omega) h3
            rw [h4] at h5
            cases h5
      · rw [List.take_of_length_le (by omega)] at hi
        exact ih i (by rw [List.take_of_length_le (by omega)]; exact hi)
  intro i hi
  exact key l.length i (by rw [List.take_length]; exact hi)
def rho (nh : Nat) (i : Int) : Int := nh - 1 - i
/-- The other way round. -/
structure RevB (x y : Bk) (nh : Nat) : Prop where
  f : y.F.2.2 = x.F.2.2
  has : ∀ i, i < nh → hasR y i = hasR x (nh - 1 - i)
  most : ∀ i, i < nh → mostR y i = mostR x (nh - 1 - i)
  xl : x.H.length = nh
  yl : y.H.length = nh
  xm : x.M.length = nh
  ym : y.M.length = nh
theorem RevB.symm {x y : Bk} {nh : Nat} (h : RevB x y nh) : RevB y x nh :=
  ⟨h.f.symm, fun i hi => by rw [h.has _ (by omega)]; congr 1; omega, fun i hi => by rw [h.most _ (by omega)]; congr 1; omega, h.yl, h.xl, h.ym, h.xm⟩
theorem RevB.may {x y : Bk} {nh : Nat} (h : RevB x y nh) (hm : mayB x = true) : mayB y = true := by
  have ok := Bk.Ok.of hm
  rw [h.xl] at ok
  unfold mayB
  rw [h.f, h.yl, h.ym]
  unfold mayB at hm
  rw [h.xl, h.xm] at hm
  simp only [Bool.and_eq_true, decide_eq_true_eq, List.all_eq_true, List.mem_range] at hm ⊢
  refine ⟨hm.1, fun i hi => ?_⟩
  have := hm.2 (nh - 1 - i) (by omega)
  unfold mayI at this ⊢
  rw [h.f, h.has i hi, h.most i hi]
  exact this
theorem freeA_rev {x y : Bk} {nh : Nat} (h : RevB x y nh) : ∀ (A F : List Int), (∀ i ∈ A, ∃ t : Nat, i = t ∧ t < nh) → freeA y F A = freeA x F (A.map (rho nh))
  | [], F, _ => rfl
  | i :: A, F, hA => by
    obtain ⟨t, rfl, ht⟩ := hA i (by simp)
    have h1 := freeA_rev h A (plusF F (hasR y t) 1) (fun i hi => hA i (by simp [hi]))
    have e : (rho nh (t : Int)).toNat = nh - 1 - t := by unfold rho; omega
    have h2 : freeA y F ((t : Int) :: A) = freeA y (plusF F (hasR y t) 1) A := rfl
    have h3 : freeA x F (((t : Int) :: A).map (rho nh)) = freeA x (plusF F (hasR x (rho nh t).toNat) 1) (A.map (rho nh)) := rfl
    rw [h2, h3, h1, e, h.has t ht]
theorem CanAll.rev {x y : Bk} {k nh : Nat} {F s : List Int} (h : RevB x y nh) (hs : CanAll y k nh F s) : CanAll x k nh F (s.map (rho nh)) := fun A B i e => by
  obtain ⟨A', C, rfl, rfl, hC⟩ := List.map_eq_append_iff.1 e
  obtain ⟨i', B', rfl, rfl, rfl⟩ := List.map_eq_cons_iff.1 hC
  obtain ⟨t, rfl, ht, h2, h3⟩ := hs A' B' i' rfl
  have hAm : ∀ q ∈ A', ∃ t : Nat, q = t ∧ t < nh := fun q hq => by
    obtain ⟨A1, A2, rfl⟩ := List.append_of_mem hq
    obtain ⟨t', e, h', _⟩ := hs A1 (A2 ++ (t : Int) :: B') q (by simp)
    exact ⟨t', e, h'⟩
  refine ⟨nh - 1 - t, by unfold rho; omega, by omega, ?_, ?_⟩
  · rw [Bool.eq_false_iff] at h2 ⊢
    intro hc
    refine h2 ?_
    simp only [List.contains_eq_mem, decide_eq_true_eq, List.mem_map] at hc ⊢
    obtain ⟨q, hq, e2⟩ := hc
    have : q = (t : Int) := by unfold rho at e2; omega
    rw [← this]
    exact hq
  · rw [← freeA_rev h A' F hAm]
    unfold canK at h3 ⊢
    rw [h.most t ht, h.has t ht] at h3
    exact h3
theorem served_rev {x y : Bk} {k nh : Nat} {F r s : List Int} (h : RevB x y nh) (hr : Served x k nh F r) (hs : Served y k nh F s) (hF : F.length = k) (hh : ∀ i, i < nh → ∀ j, j < k → 0 ≤ atL (hasR x i) j) {t : Nat} (ht : t < nh) : s.contains (rho nh t) = r.contains (t : Int) := by
  have hh2 : ∀ i, i < nh → ∀ j, j < k → 0 ≤ atL (hasR y i) j := fun i hi j hj => by rw [h.has i hi]; exact hh _ (by omega) j hj
  have a1 := all_in hr (CanAll.rev h hs.all) hF hh
  have a2 := all_in hs (CanAll.rev h.symm hr.all) hF hh2
  have rr : rho nh (rho nh (t : Int)) = t := by unfold rho; omega
  rw [Bool.eq_iff_iff]
  simp only [List.contains_eq_mem, decide_eq_true_eq]
  constructor
  · intro hc
    have := a1 _ (List.mem_map.2 ⟨_, hc, rfl⟩)
    rwa [rr] at this
  · intro hc
    exact a2 _ (List.mem_map.2 ⟨_, hc, rfl⟩)
theorem iota_rev (nh : Nat) : (iota nh).map (rho nh) = (iota nh).reverse := by
  apply List.ext_getElem?
  intro i
  rw [List.getElem?_map]
  by_cases h : i < nh
  · rw [List.getElem?_reverse (by rw [iota_length]; exact h), iota_length]
    simp [iota, h, show nh - 1 - i < nh by omega, rho]
    omega
  · rw [List.getElem?_eq_none (by rw [iota_length]; omega), List.getElem?_eq_none (by rw [List.length_reverse, iota_length]; omega)]
    rfl
theorem stuck_rev {x y : Bk} {k nh : Nat} {F r s : List Int} (h : RevB x y nh) (hr : Served x k nh F r) (hs : Served y k nh F s) (hF : F.length = k) (hh : ∀ i, i < nh → ∀ j, j < k → 0 ≤ atL (hasR x i) j) : stuckK s nh = ((stuckK r nh).map (rho nh)).reverse := by
  have e : iota nh = ((iota nh).map (rho nh)).reverse := by rw [iota_rev, List.reverse_reverse]
  unfold stuckK
  rw [e, List.filter_reverse, List.filter_map, ← e]
  congr 2
  apply List.filter_congr
  intro v hv
  obtain ⟨t, rfl, ht⟩ := mem_iota.1 hv
  simp only [Function.comp_apply]
  rw [served_rev h hr hs hF hh ht]
/-- The same ones are stuck; one is safe just if the other is. -/
theorem rev_all {x y : Bk} {nh : Nat} (h : RevB x y nh) (hm : mayB x = true) : mayB y = true ∧ stuckF y = ((stuckF x).map (rho nh)).reverse ∧ (orderF y = none ↔ orderF x = none) ∧ (stuckF x).length ≤ 8 := by
  have hy := h.may hm
  have ok := Bk.Ok.of hm
  have s1 := served_spec x
  have s2 := served_spec y
  rw [h.xl] at s1 ok
  rw [h.f, h.yl] at s2
  have hst := stuck_rev h s1 s2 rfl (fun i hi j hj => (ok.hv i hi j hj).1)
  have e1 : stuckF x = stuckK (servedF x) nh := by unfold stuckF; rw [if_pos hm, h.xl]; rfl
  have e2 : stuckF y = stuckK (servedF y) nh := by unfold stuckF; rw [if_pos hy, h.yl]; rfl
  have o1 := orderF_none hm
  have o2 := orderF_none hy
  rw [h.xl] at o1
  rw [h.yl] at o2
  refine ⟨hy, by rw [e1, e2, hst], ?_, ?_⟩
  · rw [o1, o2, hst]; simp
  · rw [e1]; exact Nat.le_trans (stuckK_length _ _) ok.h8
end Go.Proofs.Ytddngloojacceaa
