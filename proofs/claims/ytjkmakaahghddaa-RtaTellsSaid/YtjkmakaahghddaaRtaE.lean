/-
  Layer 43: works by levels, tick by tick; when one is done for the first time is its answer time. No program in sight.
-/
import Derived.Test.YtjkmakaahghddaaRtaM
import Derived.Test.YtjkmakaahghddaaOwn
namespace Go.Proofs.Ytjkmakaahghddaa
def arrK (l : List Wk) (t : Int) (L : List Int) : Nat → List Int
  | 0 => L
  | k + 1 => if (t % (wk l k).p == 0) = true then (arrK l t L k).set k (atL (arrK l t L k) k + (wk l k).c) else arrK l t L k
theorem arrK_length (l : List Wk) (t : Int) (L : List Int) : ∀ k, (arrK l t L k).length = L.length := by
  intro k
  induction k with
  | zero => rfl
  | succ k ih => rw [arrK]; split <;> simp [ih]
theorem atL_set {L : List Int} {k : Nat} (h : k < L.length) (x : Int) (i : Nat) : atL (L.set k x) i = if i = k then x else atL L i := by
  unfold atL
  rw [List.getElem?_set]
  by_cases e : k = i
  · subst e; simp [h]
  · rw [if_neg e, if_neg (by omega)]
theorem arrK_at (l : List Wk) (t : Int) (L : List Int) (i : Nat) : ∀ k, k ≤ L.length → atL (arrK l t L k) i = if i < k ∧ t % (wk l i).p = 0 then atL L i + (wk l i).c else atL L i := by
  intro k
  induction k with
  | zero => intro _; simp [arrK]
  | succ k ih =>
    intro hk
    have ih := ih (by omega)
    rw [arrK]
    by_cases e : i = k
    · subst e
      rw [if_neg (by omega)] at ih
      split
      · rename_i h
        rw [atL_set (by rw [arrK_length]; omega), if_pos rfl, ih, if_pos ⟨by omega, by simpa using h⟩]
      · rename_i h
        rw [ih, if_neg (by intro hc; exact h (by simpa using hc.2))]
    · split
      · rw [atL_set (by rw [arrK_length]; omega), if_neg e, ih]
        by_cases h1 : i < k
        · simp [h1, show i < k + 1 by omega]
        · simp [h1, show ¬ i < k + 1 by omega]
      · rw [ih]
        by_cases h1 : i < k
        · simp [h1, show i < k + 1 by omega]
        · simp [h1, show ¬ i < k + 1 by omega]
def fpos (L : List Int) : Nat := L.findIdx fun x => decide (0 < x)
theorem atL_get {L : List Int} {k : Nat} (h : k < L.length) : atL L k = L[k] := by simp [atL, h]
theorem fpos_of {L : List Int} {k : Nat} (hk : k < L.length) (h : 0 < atL L k) (hj : ∀ j, j < k → atL L j ≤ 0) : fpos L = k := by
  unfold fpos
  rw [List.findIdx_eq hk]
  refine ⟨by rw [← atL_get hk]; simpa using h, fun j hjk => ?_⟩
  have := hj j hjk
  rw [atL_get (by omega)] at this
  simpa using this
theorem fpos_none {L : List Int} (h : ∀ j, j < L.length → atL L j ≤ 0) : fpos L = L.length := by
  unfold fpos
  rw [List.findIdx_eq_length]
  intro x hx
  obtain ⟨i, hi⟩ := List.mem_iff_getElem?.1 hx
  have := h i (List.getElem?_eq_some_iff.1 hi).1
  rw [atL, hi] at this
  simpa using this
theorem fpos_spec (L : List Int) : (fpos L < L.length ∧ 0 < atL L (fpos L) ∧ ∀ j, j < fpos L → atL L j ≤ 0) ∨ (fpos L = L.length ∧ ∀ j, j < L.length → atL L j ≤ 0) := by
  by_cases h : fpos L < L.length
  · refine .inl ⟨h, ?_, fun j hj => ?_⟩
    · have := List.findIdx_getElem (p := fun x => decide (0 < x)) (xs := L) (w := h)
      rw [atL_get h]
      exact of_decide_eq_true this
    · have := List.not_of_lt_findIdx (p := fun x => decide (0 < x)) (xs := L) hj
      rw [atL_get (by omega)]
      simpa using this
  · have e : fpos L = L.length := by have := List.findIdx_le_length (p := fun x => decide (0 < x)) (xs := L); unfold fpos at h ⊢; omega
    refine .inr ⟨e, fun j hj => ?_⟩
    have := List.findIdx_eq_length.1 e L[j] (List.getElem_mem hj)
    rw [atL_get hj]
    simpa using this
def simD (l : List Wk) (n at' : Nat) : Nat → Int → List Int → Int → Int
  | 0, _, _, _ => -1
  | f + 1, t, L, d =>
    if fpos (arrK l t L n) < n then
      if fpos (arrK l t L n) = at' then
        if d + 1 = (wk l at').c then t + 1 else simD l n at' f (t + 1) ((arrK l t L n).set (fpos (arrK l t L n)) (atL (arrK l t L n) (fpos (arrK l t L n)) - 1)) (d + 1)
      else simD l n at' f (t + 1) ((arrK l t L n).set (fpos (arrK l t L n)) (atL (arrK l t L n) (fpos (arrK l t L n)) - 1)) d
    else simD l n at' f (t + 1) (arrK l t L n) d
theorem list_ext {A B : List Int} (hl : A.length = B.length) (h : ∀ i, i < A.length → atL A i = atL B i) : A = B := by
  apply List.ext_getElem hl
  intro i h1 h2
  have := h i h1
  rwa [atL_get h1, atL_get h2] at this
theorem atL_take {L : List Int} {k i : Nat} (h : i < k) : atL (L.take k) i = atL L i := by
  unfold atL; rw [List.getElem?_take, if_pos h]
theorem sim_cut (l : List Wk) (n at' : Nat) (hat : at' < n) : ∀ (f : Nat) (t : Int) (L : List Int) (d : Int), L.length = n → simD l n at' f t L d = simD l (at' + 1) at' f t (L.take (at' + 1)) d := by
  intro f
  induction f with
  | zero => intro t L d _; rfl
  | succ f ih =>
    intro t L d hL
    have hl2 : (L.take (at' + 1)).length = at' + 1 := by simp; omega
    have hM : arrK l t (L.take (at' + 1)) (at' + 1) = (arrK l t L n).take (at' + 1) := by
      apply list_ext
      · rw [arrK_length, List.length_take, List.length_take, arrK_length]
      · intro i hi
        rw [arrK_length, hl2] at hi
        rw [arrK_at _ _ _ _ _ (by omega), atL_take hi, atL_take hi, arrK_at _ _ _ _ _ (by omega)]
        simp [hi, show i < n by omega]
    rw [simD, simD, hM]
    have hlM : (arrK l t L n).length = n := by rw [arrK_length, hL]
    generalize arrK l t L n = M at hlM
    have hlT : (M.take (at' + 1)).length = at' + 1 := by simp; omega
    rcases fpos_spec M with ⟨h1, h2, h3⟩ | ⟨h1, h2⟩
    · by_cases hp : fpos M < at' + 1
      · have hp2 : fpos (M.take (at' + 1)) = fpos M := fpos_of (by omega) (by rw [atL_take hp]; exact h2) (fun j hj => by rw [atL_take (by omega)]; exact h3 j hj)
        have hs : ∀ x, (M.set (fpos M) x).take (at' + 1) = (M.take (at' + 1)).set (fpos M) x := fun x => List.take_set
        rw [hp2, if_pos (by omega), if_pos hp, atL_take hp]
        by_cases e : fpos M = at'
        · rw [if_pos e, if_pos e]
          split
          · rfl
          · rw [ih _ _ _ (by simp [hlM]), hs]
        · rw [if_neg e, if_neg e, ih _ _ _ (by simp [hlM]), hs]
      · have hp2 : fpos (M.take (at' + 1)) = at' + 1 := by
          exact (fpos_none (fun j hj => by rw [hlT] at hj; rw [atL_take hj]; exact h3 j (by omega))).trans hlT
        rw [hp2, if_pos (by omega), if_neg (show ¬ at' + 1 < at' + 1 by omega), if_neg (by omega), ih _ _ _ (by simp [hlM])]
        congr 1
        rw [List.take_set_of_le (by omega)]
    · have hp2 : fpos (M.take (at' + 1)) = at' + 1 := by
        exact (fpos_none (fun j hj => by rw [hlT] at hj; rw [atL_take hj]; exact h2 j (by omega))).trans hlT
      rw [hp2, if_neg (by omega), if_neg (by omega), ih _ _ _ hlM]
theorem came_step (x : Wk) (h : WkOk x) {t : Int} (ht : 0 ≤ t) : cameF x (t + 1) = cameF x t + (if t % x.p = 0 then x.c else 0) := by
  obtain ⟨_, ⟨p0, _⟩, _⟩ := h
  unfold cameF
  have e := Int.mul_ediv_add_emod t x.p
  have r0 := Int.emod_nonneg t (show x.p ≠ 0 by omega)
  have r1 := Int.emod_lt_of_pos t (show 0 < x.p by omega)
  generalize t / x.p = q at *
  generalize t % x.p = r at *
  have e1 : (t + 1 + x.p - 1) / x.p = q + 1 := by
    rw [show t + 1 + x.p - 1 = r + x.p * (q + 1) by rw [Int.mul_add]; omega, Int.add_mul_ediv_left _ _ (by omega), Int.ediv_eq_zero_of_lt r0 r1]; omega
  rw [e1]
  by_cases hr : r = 0
  · have e2 : (t + x.p - 1) / x.p = q := by
      rw [show t + x.p - 1 = (x.p - 1) + x.p * q by omega, Int.add_mul_ediv_left _ _ (by omega), Int.ediv_eq_zero_of_lt (by omega) (by omega)]; omega
    rw [e2, if_pos hr, Int.add_mul]; omega
  · have e2 : (t + x.p - 1) / x.p = q + 1 := by
      rw [show t + x.p - 1 = (r - 1) + x.p * (q + 1) by rw [Int.mul_add]; omega, Int.add_mul_ediv_left _ _ (by omega), Int.ediv_eq_zero_of_lt (by omega) (by omega)]; omega
    rw [e2, if_neg hr]; omega
theorem came_ge (x : Wk) (h : WkOk x) {t : Int} (ht : 1 ≤ t) : x.c ≤ cameF x t := by
  obtain ⟨⟨c0, _⟩, ⟨p0, _⟩, _⟩ := h
  unfold cameF
  have : 1 ≤ (t + x.p - 1) / x.p := Int.le_ediv_of_mul_le (by omega) (by omega)
  have := Int.mul_le_mul_of_nonneg_right this (show 0 ≤ x.c by omega)
  omega
theorem came_zero (x : Wk) (h : WkOk x) : cameF x 0 = 0 := by
  obtain ⟨_, ⟨p0, _⟩, _⟩ := h
  unfold cameF
  rw [Int.ediv_eq_zero_of_lt (by omega) (by omega)]; omega
def sumK (L : List Int) : Nat → Int
  | 0 => 0
  | k + 1 => sumK L k + atL L k
theorem sumK_set {L : List Int} {p : Nat} (hp : p < L.length) (x : Int) : ∀ k, sumK (L.set p x) k = sumK L k + (if p < k then x - atL L p else 0) := by
  intro k
  induction k with
  | zero => simp [sumK]
  | succ k ih =>
    rw [sumK, sumK, ih, atL_set hp]
    by_cases e : k = p
    · subst e; simp; omega
    · rw [if_neg e]
      by_cases h : p < k
      · rw [if_pos h, if_pos (by omega)]; omega
      · rw [if_neg h, if_neg (by omega)]; omega
theorem sumK_arr {l : List Wk} (h : ∀ x ∈ l, WkOk x) {t : Int} (ht : 0 ≤ t) (L : List Int) (n : Nat) (hn : n ≤ L.length) : ∀ k, k ≤ n → sumK (arrK l t L n) k - hiK l (t + 1) k = sumK L k - hiK l t k := by
  intro k
  induction k with
  | zero => intro _; simp [sumK, hiK]
  | succ k ih =>
    intro hk
    have := ih (by omega)
    rw [sumK, sumK, hiK, hiK, arrK_at _ _ _ _ _ hn, came_step _ (wk_ok h k) ht]
    by_cases e : t % (wk l k).p = 0
    · rw [if_pos ⟨by omega, e⟩, if_pos e]; omega
    · rw [if_neg (by intro hc; exact e hc.2), if_neg e]; omega
theorem sumK_zero {L : List Int} (h0 : ∀ i, 0 ≤ atL L i) : ∀ k, 0 ≤ sumK L k ∧ (∀ p, p < k → atL L p ≤ sumK L k) := by
  intro k
  induction k with
  | zero => simp [sumK]
  | succ k ih =>
    have := h0 k
    simp only [sumK]
    refine ⟨by omega, fun p hp => ?_⟩
    by_cases e : p = k
    · subst e; omega
    · have := ih.2 p (by omega); omega
theorem sumK_none {L : List Int} (h0 : ∀ i, 0 ≤ atL L i) : ∀ k, (∀ j, j < k → atL L j ≤ 0) → sumK L k = 0 := by
  intro k
  induction k with
  | zero => intro _; rfl
  | succ k ih =>
    intro h
    have := h k (by omega)
    have := h0 k
    rw [sumK, ih (fun j hj => h j (by omega))]
    omega
/-- What holds behind t ticks, while the level is not done. -/
structure Lev (l : List Wk) (at' : Nat) (t : Int) (L : List Int) (d : Int) : Prop where
  ln : L.length = at' + 1
  nn : ∀ i, 0 ≤ atL L i
  sum : sumK L at' = hiK l t at' + d - t
  own : atL L at' = cameF (wk l at') t - d
  dn : 0 ≤ d ∧ d < (wk l at').c
  t0 : 0 ≤ t
theorem sim_search {l : List Wk} (h : ∀ x ∈ l, WkOk x) (at' : Nat) : ∀ (f : Nat) (t : Int) (L : List Int) (d : Int), Lev l at' t L d → simD l (at' + 1) at' f t L d = searchF (needF l at' 0) (t + 1) f := by
  intro f
  induction f with
  | zero => intro t L d _; rfl
  | succ f ih =>
    intro t L d hv
    have hok := wk_ok h at'
    have hM := arrK_at l t L
    have hMl : (arrK l t L (at' + 1)).length = at' + 1 := by rw [arrK_length, hv.ln]
    have hMn : ∀ i, 0 ≤ atL (arrK l t L (at' + 1)) i := by
      intro i
      have hc := (wk_ok h i).1.1
      have := hv.nn i
      rw [hM i _ (by rw [hv.ln]; exact Nat.le_refl _)]
      split <;> omega
    have hMs := sumK_arr h hv.t0 L (at' + 1) (by rw [hv.ln]; exact Nat.le_refl _) at' (by omega)
    have hMo : atL (arrK l t L (at' + 1)) at' = cameF (wk l at') (t + 1) - d := by
      rw [hM at' _ (by rw [hv.ln]; exact Nat.le_refl _), came_step _ hok hv.t0]
      have := hv.own
      by_cases e : t % (wk l at').p = 0
      · rw [if_pos ⟨by omega, e⟩, if_pos e]; omega
      · rw [if_neg (by intro hc; exact e hc.2), if_neg e]; omega
    have hge := came_ge _ hok (show 1 ≤ t + 1 by have := hv.t0; omega)
    have hdn := hv.dn
    have hsum := hv.sum
    have ht0 := hv.t0
    have hneed : needF l at' 0 (t + 1) = (wk l at').c + hiK l (t + 1) at' := by rw [needF_eq]; omega
    rw [simD, searchF, hneed]
    generalize arrK l t L (at' + 1) = M at *
    rcases fpos_spec M with ⟨h1, h2, h3⟩ | ⟨h1, h2⟩
    · rw [if_pos (by omega)]
      generalize fpos M = p at *
      have hs := sumK_zero hMn at'
      have hset : ∀ i, 0 ≤ atL (M.set p (atL M p - 1)) i := by
        intro i
        rw [atL_set h1]
        have := hMn i
        split <;> omega
      by_cases e : p = at'
      · subst e
        rw [if_pos rfl]
        have hz := sumK_none hMn p h3
        by_cases hd : d + 1 = (wk l p).c
        · rw [if_pos hd, if_pos (by omega)]
        · rw [if_neg hd, if_neg (by omega)]
          refine ih _ _ _ ⟨by simp [hMl], hset, ?_, ?_, by omega, by omega⟩
          · rw [sumK_set h1, if_neg (by omega)]; omega
          · rw [atL_set h1, if_pos rfl]; omega
      · rw [if_neg e]
        have hp := hs.2 p (by omega)
        rw [if_neg (by omega)]
        refine ih _ _ _ ⟨by simp [hMl], hset, ?_, ?_, hdn, by omega⟩
        · rw [sumK_set h1, if_pos (by omega)]; omega
        · rw [atL_set h1, if_neg (by omega)]; omega
    · have := h2 at' (by omega)
      omega
theorem atL_rep (n i : Nat) : atL (List.replicate n 0) i = 0 := by
  unfold atL
  rw [List.getElem?_replicate]
  split <;> rfl
theorem sumK_rep (n : Nat) : ∀ k, sumK (List.replicate n 0) k = 0 := by
  intro k
  induction k with
  | zero => rfl
  | succ k ih => rw [sumK, ih, atL_rep]; rfl
theorem hiK_zero {l : List Wk} (h : ∀ x ∈ l, WkOk x) : ∀ k, hiK l 0 k = 0 := by
  intro k
  induction k with
  | zero => rfl
  | succ k ih => rw [hiK, ih, came_zero _ (wk_ok h k)]; rfl
def doneF (l : List Wk) (at' N : Nat) : Int := simD l (at' + 1) at' N 0 (List.replicate (at' + 1) 0) 0
theorem done_search {l : List Wk} (h : ∀ x ∈ l, WkOk x) (at' N : Nat) : doneF l at' N = searchF (needF l at' 0) 1 N := by
  have hok := wk_ok h at'
  refine sim_search h at' N 0 _ 0 ⟨by simp, fun i => by rw [atL_rep]; omega, ?_, ?_, by have := hok.1; omega, by omega⟩
  · rw [sumK_rep, hiK_zero h]; rfl
  · rw [atL_rep, came_zero _ hok]; rfl
theorem done_big {l : List Wk} {n at' : Nat} (hat : at' < n) (N : Nat) : simD l n at' N 0 (List.replicate n 0) 0 = doneF l at' N := by
  rw [sim_cut l n at' hat _ _ _ _ (by simp), List.take_replicate, Nat.min_eq_left (by omega)]
  rfl
/-- The answer time without a block is just when it is done; ahead of it, it is not. -/
theorem done_time {l : List Wk} (h : ∀ x ∈ l, WkOk x) (at' : Nat) : doneF l at' 10000 = timeF l at' 0 ∧ (0 < timeF l at' 0 → doneF l at' (timeF l at' 0 - 1).toNat = -1) := by
  have hok := wk_ok h at'
  have hge : ∀ y, 0 ≤ y → (wk l at').c ≤ needF l at' 0 y := by
    intro y hy
    rw [needF_eq]
    have := hiK_in h hy at'
    omega
  rw [done_search h]
  unfold timeF
  rcases search_spec (needF l at' 0) (10001 - ((wk l at').c + 0)).toNat ((wk l at').c + 0) with ⟨x, h1, h2, h3, h4, h5⟩ | ⟨h1, h2⟩
  · have hno : ∀ y, 1 ≤ y → y < x → needF l at' 0 y ≠ y := by
      intro y y1 y2
      by_cases hc : (wk l at').c + 0 ≤ y
      · exact h5 y hc y2
      · have := hge y (by omega); omega
    rw [h1]
    refine ⟨search_at _ _ _ _ (by have := hok.1; omega) (by have := hok.1; omega) h4 hno, fun hx => ?_⟩
    rw [done_search h]
    exact search_none _ _ _ (fun y y1 y2 => hno y y1 (by omega))
  · rw [h1]
    refine ⟨search_none _ _ _ (fun y y1 y2 => ?_), fun hx => by omega⟩
    by_cases hc : (wk l at').c + 0 ≤ y
    · exact h2 y hc (by have := hok.1; omega)
    · have := hge y (by omega); omega
end Go.Proofs.Ytjkmakaahghddaa
