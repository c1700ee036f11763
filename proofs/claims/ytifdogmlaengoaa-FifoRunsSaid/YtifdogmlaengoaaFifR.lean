/-
  Layer 05: what a queue is, as a list; what push and take leave. No program in sight.
-/
import Derived.Test.YtifdogmlaengoaaFifQ
namespace Go.Proofs.Ytifdogmlaengoaa
open Go.RowKit
section
variable {α : Type} {z : LkG α}
/-- A place, a ticket, a value. -/
abbrev ItQ (α : Type) := Nat × Int × α
def plc (Q : List (ItQ α)) (i : Nat) : Int := match Q[i]? with | some x => (x.1 : Int) | none => -1
def pv (Q : List (ItQ α)) (i : Nat) : Int := if i = 0 then -1 else plc Q (i - 1)
structure InvQ (z : LkG α) (q : Fq α) (tk : Int) (f : Int → Option Int) (c : Nat) (Q : List (ItQ α)) (ks : List Nat) : Prop where
  nd : (Q.map (·.1) ++ ks).Nodup
  len : q.S.l.length = Q.length + ks.length
  n : q.S.n = Q.length
  chain : ChainQ z q.S.l q.S.free ks
  lt : ∀ x ∈ Q, x.1 < q.S.l.length
  link : ∀ i x, Q[i]? = some x → (slotA z q.S.l x.1).1 = (x.2.2, x.2.1, pv Q i, plc Q (i + 1)) ∧ (slotA z q.S.l x.1).2.1 = true
  fi : q.fi = plc Q 0
  la : q.la = pv Q Q.length
  f : ∀ t p, f t = some p ↔ ∃ x ∈ Q, x.2.1 = t ∧ p = (x.1 : Int)
  tk : ∀ x ∈ Q, 1 ≤ x.2.1 ∧ x.2.1 ≤ tk
  tnd : (Q.map (·.2.1)).Pairwise (· < ·)
  c : c = Q.length
theorem plc_some {Q : List (ItQ α)} {i : Nat} {x : ItQ α} (h : Q[i]? = some x) : plc Q i = (x.1 : Int) := by unfold plc; rw [h]
theorem plc_none {Q : List (ItQ α)} {i : Nat} (h : Q.length ≤ i) : plc Q i = -1 := by unfold plc; rw [List.getElem?_eq_none h]
theorem isA_neg {l : List (Slot (LkG α))} {i : Int} (h : i < 0) : isA z l i = false := by unfold isA; rw [decide_eq_false (by omega)]; rfl
theorem InvQ.isA {q : Fq α} {tk : Int} {f : Int → Option Int} {c : Nat} {Q : List (ItQ α)} {ks : List Nat} (h : InvQ z q tk f c Q ks) {i : Nat} {x : ItQ α} (hx : Q[i]? = some x) : Go.Proofs.Ytifdogmlaengoaa.isA z q.S.l (x.1 : Int) = true :=
  isA_iff.2 ⟨by omega, by have := h.lt x (List.mem_of_getElem? hx); omega, by simp only [Int.toNat_natCast]; exact (h.link i x hx).2⟩
theorem place_inj {Q : List (ItQ α)} {ks : List Nat} (nd : (Q.map (·.1) ++ ks).Nodup) {i j : Nat} {x y : ItQ α} (hx : Q[i]? = some x) (hy : Q[j]? = some y) (e : x.1 = y.1) : i = j := by
  have n1 := (List.nodup_append.1 nd).1
  have h1 : (Q.map (·.1))[i]? = some x.1 := by rw [List.getElem?_map, hx]; rfl
  have h2 : (Q.map (·.1))[j]? = some x.1 := by rw [List.getElem?_map, hy]; simp [e]
  exact (List.getElem?_inj (List.getElem?_eq_some_iff.1 h1).1 n1).1 (h1.trans h2.symm)
theorem place_free {Q : List (ItQ α)} {ks : List Nat} (nd : (Q.map (·.1) ++ ks).Nodup) {x : ItQ α} (hx : x ∈ Q) {k : Nat} (hk : k ∈ ks) : x.1 ≠ k :=
  (List.nodup_append.1 nd).2.2 _ (List.mem_map_of_mem hx) _ hk
theorem erase_perm {β : Type} : ∀ {Q : List β} {i : Nat} (h : i < Q.length), (Q[i] :: Q.eraseIdx i).Perm Q
  | _ :: _, 0, _ => List.Perm.refl _
  | x :: Q, i + 1, h => by
    have h2 : i < Q.length := by simpa using h
    exact (List.Perm.swap x (Q[i]) (Q.eraseIdx i)).trans ((erase_perm h2).cons x)
/-- An item is taken off. -/
theorem take_inv {q : Fq α} {tk : Int} {f : Int → Option Int} {c : Nat} {Q : List (ItQ α)} {ks : List Nat} (h : InvQ z q tk f c Q ks) {i : Nat} {x : ItQ α} (hx : Q[i]? = some x) :
    InvQ z (takeQ z q (x.1 : Int)) tk (upd f x.2.1 none) (c - 1) (Q.eraseIdx i) (x.1 :: ks) := by
  have hil := (List.getElem?_eq_some_iff.1 hx).1
  have hxm := List.mem_of_getElem? hx
  have his := h.isA hx
  have hsl := h.link i x hx
  have hg : (getA z q.S (x.1 : Int)).1 = (x.2.2, x.2.1, pv Q i, plc Q (i + 1)) := by rw [getA_slot _ _ his]; exact hsl.1
  have hT : takeQ z q (x.1 : Int) = joinF z ⟨dropA z q.S (x.1 : Int), q.fi, q.la⟩ (pv Q i) (plc Q (i + 1)) := by unfold takeQ; rw [if_pos his, hg]
  have hD : dropA z q.S (x.1 : Int) = ⟨q.S.l.set x.1 (z, false, q.S.free), x.1 + 1, q.S.n - 1⟩ := by unfold dropA; rw [if_pos his]; simp
  have hxl := h.lt x hxm
  -- the neighbours
  have e1 : ∀ j y, Q[j]? = some y → j ≠ i → (Go.Proofs.Ytifdogmlaengoaa.isA z (dropA z q.S (x.1 : Int)).l (y.1 : Int) = true) := fun j y hy hj => by
    rw [hD]
    refine isA_iff.2 ⟨by omega, by simp; exact h.lt y (List.mem_of_getElem? hy), ?_⟩
    simp only [Int.toNat_natCast]
    rw [slot_set hxl, if_neg (fun e => hj (place_inj h.nd hy hx e))]
    exact (h.link j y hy).2
  have hpv : (i = 0 ∧ pv Q i = -1) ∨ (0 < i ∧ ∃ y, Q[i - 1]? = some y ∧ pv Q i = (y.1 : Int)) := by
    unfold pv
    by_cases h0 : i = 0
    · exact .inl ⟨h0, by rw [if_pos h0]⟩
    · refine .inr ⟨by omega, Q[i - 1], List.getElem?_eq_getElem (by omega), ?_⟩
      rw [if_neg h0, plc_some (List.getElem?_eq_getElem (by omega))]
  have hnx : (Q.length ≤ i + 1 ∧ plc Q (i + 1) = -1) ∨ (i + 1 < Q.length ∧ ∃ y, Q[i + 1]? = some y ∧ plc Q (i + 1) = (y.1 : Int)) := by
    by_cases h0 : i + 1 < Q.length
    · exact .inr ⟨h0, Q[i + 1], List.getElem?_eq_getElem h0, plc_some (List.getElem?_eq_getElem h0)⟩
    · exact .inl ⟨by omega, plc_none (by omega)⟩
  obtain ⟨S1, eS1⟩ : ∃ S1, dropA z q.S (x.1 : Int) = S1 := ⟨_, rfl⟩
  rw [eS1] at hT e1
  have hl1 : S1.l.length = q.S.l.length := by rw [← eS1, hD]; simp
  have hs1 : ∀ k, slotA z S1.l k = if k = x.1 then (z, false, q.S.free) else slotA z q.S.l k := fun k => by rw [← eS1, hD]; exact slot_set hxl
  have haA : Go.Proofs.Ytifdogmlaengoaa.isA z S1.l (pv Q i) = decide (0 < i) := by
    rcases hpv with ⟨h0, h1⟩ | ⟨h0, y, hy, h1⟩
    · rw [h1, isA_neg (by omega)]; simp [h0]
    · rw [h1, e1 _ y hy (by omega)]; simp [h0]
  have hbB : Go.Proofs.Ytifdogmlaengoaa.isA z S1.l (plc Q (i + 1)) = decide (i + 1 < Q.length) := by
    rcases hnx with ⟨h0, h1⟩ | ⟨h0, y, hy, h1⟩
    · rw [h1, isA_neg (by omega)]; simp; omega
    · rw [h1, e1 _ y hy (by omega)]; simp [h0]
  have hab : Go.Proofs.Ytifdogmlaengoaa.isA z S1.l (pv Q i) = true → pv Q i ≠ plc Q (i + 1) := fun ha e => by
    rw [haA] at ha
    have ha := of_decide_eq_true ha
    rcases hpv with ⟨h0, _⟩ | ⟨_, y, hy, h1⟩
    · omega
    · rcases hnx with ⟨h2, h3⟩ | ⟨_, y', hy', h3⟩
      · rw [h1, h3] at e; omega
      · rw [h1, h3] at e
        have := place_inj h.nd hy hy' (by omega)
        omega
  obtain ⟨j1, j2, j3, j4, j5, j6⟩ := join_spec (z := z) (⟨S1, q.fi, q.la⟩ : Fq α) hab
  rw [← hT] at j1 j2 j3 j4 j5 j6
  simp only at j1 j2 j3 j4 j5 j6
  rw [haA] at j4 j6
  rw [hbB] at j5 j6
  have hoff : ∀ k, (slotA z S1.l k).2.1 = false → slotA z (takeQ z q (x.1 : Int)).S.l k = slotA z S1.l k := fun k hk => by
    rw [j6]
    have n1 : ¬ (decide (i + 1 < Q.length) = true ∧ (k : Int) = plc Q (i + 1)) := by
      rintro ⟨g1, g2⟩
      rw [← hbB, ← g2] at g1
      have := (isA_iff.1 g1).2.2
      simp only [Int.toNat_natCast] at this
      rw [hk] at this; cases this
    have n2 : ¬ (decide (0 < i) = true ∧ (k : Int) = pv Q i) := by
      rintro ⟨g1, g2⟩
      rw [← haA, ← g2] at g1
      have := (isA_iff.1 g1).2.2
      simp only [Int.toNat_natCast] at this
      rw [hk] at this; cases this
    rw [if_neg n1, if_neg n2]
  have hel : (Q.eraseIdx i).length = Q.length - 1 := List.length_eraseIdx_of_lt hil
  have hP : ∀ j, plc (Q.eraseIdx i) j = if j < i then plc Q j else plc Q (j + 1) := fun j => by
    unfold plc
    rw [List.getElem?_eraseIdx]
    by_cases hj : j < i
    · rw [if_pos hj, if_pos hj]
    · rw [if_neg hj, if_neg hj]
  have hsub : ∀ y ∈ Q.eraseIdx i, y ∈ Q := fun y hy => List.mem_of_mem_eraseIdx hy
  have hperm : (Q.map (·.1) ++ ks).Perm ((Q.eraseIdx i).map (·.1) ++ x.1 :: ks) := by
    have h1 : (x :: Q.eraseIdx i).Perm Q := by
      have := erase_perm hil
      rwa [(List.getElem?_eq_some_iff.1 hx).2] at this
    have h2 := (h1.map (·.1)).symm.append_right ks
    exact h2.trans List.perm_middle.symm
  refine ⟨(hperm.nodup_iff).1 h.nd, ?_, ?_, ?_, fun y hy => ?_, fun j y hy => ?_, ?_, ?_, fun t p => ?_, fun y hy => h.tk y (hsub y hy), ?_, ?_⟩
  · rw [j1, hl1, h.len, hel]; simp; omega
  · rw [j3, ← eS1, hD, h.n, hel]; simp; omega
  · refine ⟨by rw [j2, ← eS1, hD], by rw [j1, hl1]; exact hxl, ?_, ?_⟩
    · rw [hoff _ (by rw [hs1, if_pos rfl]), hs1, if_pos rfl]
    · rw [hoff _ (by rw [hs1, if_pos rfl]), hs1, if_pos rfl]
      refine h.chain.congr (by rw [j1, hl1]; exact Nat.le_refl _) (fun k hk => ?_)
      have hk1 : k ≠ x.1 := fun e => place_free h.nd hxm hk e.symm
      have hk2 : slotA z S1.l k = slotA z q.S.l k := by rw [hs1, if_neg hk1]
      rw [hoff k (by rw [hk2]; exact (h.chain.off k hk).2), hk2]
  · rw [j1, hl1]; exact h.lt y (hsub y hy)
  · rw [List.getElem?_eraseIdx] at hy
    have hjy : ∃ m, Q[m]? = some y ∧ m ≠ i ∧ ((j < i ∧ m = j) ∨ (i ≤ j ∧ m = j + 1)) := by
      split at hy
      · rename_i hj; exact ⟨j, hy, by omega, .inl ⟨hj, rfl⟩⟩
      · rename_i hj; exact ⟨j + 1, hy, by omega, .inr ⟨by omega, rfl⟩⟩
    obtain ⟨m, hm, hmi, hmj⟩ := hjy
    have hml := (List.getElem?_eq_some_iff.1 hm).1
    have hne : y.1 ≠ x.1 := fun e => hmi (place_inj h.nd hm hx e)
    have hk2 : slotA z S1.l y.1 = slotA z q.S.l y.1 := by rw [hs1, if_neg hne]
    obtain ⟨g1, g2⟩ := h.link m y hm
    have hb1 : (decide (i + 1 < Q.length) = true ∧ (y.1 : Int) = plc Q (i + 1)) ↔ m = i + 1 := by
      constructor
      · rintro ⟨c1, c2⟩
        rcases hnx with ⟨h0, _⟩ | ⟨_, y', hy', h3⟩
        · have := of_decide_eq_true c1; omega
        · exact place_inj h.nd hm hy' (by omega)
      · intro e
        subst e
        exact ⟨by simpa using hml, (plc_some hm).symm⟩
    have ha1 : (decide (0 < i) = true ∧ (y.1 : Int) = pv Q i) ↔ m + 1 = i := by
      constructor
      · rintro ⟨c1, c2⟩
        rcases hpv with ⟨h0, _⟩ | ⟨h0, y', hy', h3⟩
        · have := of_decide_eq_true c1; omega
        · have := place_inj h.nd hm hy' (by omega); omega
      · intro e
        subst e
        refine ⟨by simp, ?_⟩
        unfold pv
        rw [if_neg (by omega), Nat.add_sub_cancel]
        exact (plc_some hm).symm
    rw [j6, hk2]
    have pe : pv (Q.eraseIdx i) j = if m = i + 1 then pv Q i else pv Q m := by
      unfold pv
      rcases hmj with ⟨c1, c2⟩ | ⟨c1, c2⟩
      · rw [if_neg (show ¬ m = i + 1 by omega), c2]
        split
        · rfl
        · rw [hP, if_pos (by omega)]
      · by_cases c3 : m = i + 1
        · rw [if_pos c3, show j = i by omega]
          split
          · rfl
          · rw [hP, if_pos (by omega)]
        · rw [if_neg c3, if_neg (show ¬ j = 0 by omega), if_neg (show ¬ m = 0 by omega), hP, if_neg (show ¬ j - 1 < i by omega), show j - 1 + 1 = m - 1 by omega]
    have ne : plc (Q.eraseIdx i) (j + 1) = if m + 1 = i then plc Q (i + 1) else plc Q (m + 1) := by
      rw [hP]
      rcases hmj with ⟨c1, c2⟩ | ⟨c1, c2⟩
      · by_cases c3 : m + 1 = i
        · rw [if_pos c3, if_neg (by omega), show j + 1 + 1 = i + 1 by omega]
        · rw [if_neg c3, if_pos (by omega), c2]
      · rw [if_neg (by omega), if_neg (show ¬ m + 1 = i by omega), c2]
    rw [pe, ne]
    by_cases c3 : m = i + 1
    · rw [if_pos (hb1.2 c3), if_pos c3, if_neg (show ¬ m + 1 = i by omega), g1]
      exact ⟨rfl, rfl⟩
    · rw [if_neg (fun q => c3 (hb1.1 q)), if_neg c3]
      by_cases c4 : m + 1 = i
      · rw [if_pos (ha1.2 c4), if_pos c4, g1]
        exact ⟨rfl, rfl⟩
      · rw [if_neg (fun q => c4 (ha1.1 q)), if_neg c4]
        exact ⟨g1, g2⟩
  · rw [j4, hP]
    by_cases c1 : 0 < i
    · rw [if_pos (by simpa using c1), if_pos c1]; exact h.fi
    · rw [if_neg (by simpa using c1), if_neg c1, show i = 0 by omega]
  · rw [j5, hel]
    by_cases c1 : i + 1 < Q.length
    · rw [if_pos (by simpa using c1), h.la]
      unfold pv
      rw [if_neg (by omega), if_neg (by omega), hP, if_neg (by omega), show Q.length - 1 - 1 + 1 = Q.length - 1 by omega]
    · rw [if_neg (by simpa using c1), show Q.length - 1 = i by omega]
      unfold pv
      split
      · rfl
      · rw [hP, if_pos (by omega)]
  · unfold upd
    have htk : ∀ y ∈ Q.eraseIdx i, y.2.1 ≠ x.2.1 := by
      intro y hy e
      obtain ⟨j, hj⟩ := List.getElem?_of_mem hy
      rw [List.getElem?_eraseIdx] at hj
      have hjy : ∃ m, Q[m]? = some y ∧ m ≠ i := by
        split at hj
        · exact ⟨j, hj, by omega⟩
        · exact ⟨j + 1, hj, by omega⟩
      obtain ⟨m, hm, hmi⟩ := hjy
      have hpw := List.pairwise_iff_getElem.1 h.tnd
      have hml := (List.getElem?_eq_some_iff.1 hm).1
      have ey := (List.getElem?_eq_some_iff.1 hm).2
      have ex := (List.getElem?_eq_some_iff.1 hx).2
      rcases Nat.lt_or_gt_of_ne hmi with g | g
      · have := hpw m i (by simpa using hml) (by simpa using hil) g
        simp only [List.getElem_map, ex, ey] at this
        omega
      · have := hpw i m (by simpa using hil) (by simpa using hml) g
        simp only [List.getElem_map, ex, ey] at this
        omega
    by_cases c1 : t = x.2.1
    · rw [if_pos c1]
      constructor
      · intro e; cases e
      · rintro ⟨y, hy, e, _⟩
        exact (htk y hy (by rw [e, c1])).elim
    · rw [if_neg c1, h.f]
      constructor
      · rintro ⟨y, hy, e, hp⟩
        refine ⟨y, ?_, e, hp⟩
        have h1 : (x :: Q.eraseIdx i).Perm Q := by
          have := erase_perm hil
          rwa [(List.getElem?_eq_some_iff.1 hx).2] at this
        rcases List.mem_cons.1 (h1.mem_iff.2 hy) with rfl | h2
        · exact (c1 e.symm).elim
        · exact h2
      · rintro ⟨y, hy, e, hp⟩
        exact ⟨y, hsub y hy, e, hp⟩
  · exact h.tnd.sublist ((List.eraseIdx_sublist Q i).map _)
  · rw [hel, h.c]
/-- Where a value is put. -/
theorem put_spec {q : Fq α} {tk : Int} {f : Int → Option Int} {c : Nat} {Q : List (ItQ α)} {ks : List Nat} (h : InvQ z q tk f c Q ks) {most : Int} (hr : q.S.n < most) (v : LkG α) :
    ∃ S' p ks', putA z most q.S v = (S', p, 0) ∧ S'.l.length = Q.length + 1 + ks'.length ∧ q.S.l.length ≤ S'.l.length ∧ p < S'.l.length ∧ p ≤ q.S.l.length ∧ S'.n = (Q.length : Int) + 1 ∧ ChainQ z S'.l S'.free ks' ∧
      (∀ k, slotA z S'.l k = if k = p then (v, true, 0) else slotA z q.S.l k) ∧ (Q.map (·.1) ++ p :: ks').Nodup ∧ (S'.l.length = q.S.l.length ∨ S'.l.length = Q.length + 1) := by
  have hlen := h.len
  have hch := h.chain
  have hnd := h.nd
  unfold putA
  rw [if_neg (show ¬ most ≤ q.S.n by omega)]
  cases ks with
  | nil =>
    have h0 : q.S.free = 0 := hch
    rw [if_pos h0]
    refine ⟨_, _, [], rfl, by simp at hlen; simp; omega, by simp, by simp, Nat.le_refl _, by rw [h.n], rfl, fun k => slot_snoc k, ?_, .inr (by simp at hlen; simp; omega)⟩
    rw [List.nodup_append] at hnd ⊢
    refine ⟨hnd.1, by simp, fun a ha b hb => ?_⟩
    simp only [List.mem_cons, List.not_mem_nil, or_false] at hb
    obtain ⟨y, hy, rfl⟩ := List.mem_map.1 ha
    have := h.lt y hy
    omega
  | cons k ks =>
    obtain ⟨h1, hk, h3, h4⟩ := hch
    rw [if_neg (by omega), h1, Nat.add_sub_cancel]
    refine ⟨_, _, ks, rfl, by simp at hlen; simp; omega, by simp, by simpa using hk, Nat.le_of_lt hk, by rw [h.n], ?_, fun j => slot_set hk, hnd, .inl (by simp)⟩
    refine h4.congr (by simp) (fun j hj => ?_)
    rw [slot_set hk, if_neg]
    rintro rfl
    have h5 := (List.nodup_append.1 hnd).2.1
    rw [List.nodup_cons] at h5
    exact h5.1 hj
/-- An item is put at the end. -/
theorem push_inv {q : Fq α} {tk : Int} {f : Int → Option Int} {c : Nat} {Q : List (ItQ α)} {ks : List Nat} (h : InvQ z q tk f c Q ks) (htk : 0 ≤ tk) {most : Int} (hr : q.S.n < most) (v : α) :
    ∃ S' p ks', putA z most q.S (v, tk + 1, -1, -1) = (S', p, 0) ∧ p ≤ q.S.l.length ∧ f (tk + 1) = none ∧ (S'.l.length = q.S.l.length ∨ S'.l.length = Q.length + 1) ∧
      InvQ z (pushQ z q S' (p : Int)) (tk + 1) (upd f (tk + 1) (some (p : Int))) (c + 1) (Q ++ [(p, tk + 1, v)]) ks' := by
  obtain ⟨S', p, ks', hput, l1, l2, l3, l4, hn, hch, hs, hnd, hll⟩ := put_spec h hr (v, tk + 1, -1, -1)
  have hpf : ∀ y ∈ Q, y.1 ≠ p := fun y hy => (List.nodup_append.1 hnd).2.2 _ (List.mem_map_of_mem hy) _ (by simp)
  have hfn : f (tk + 1) = none := by
    cases e : f (tk + 1) with
    | none => rfl
    | some r => obtain ⟨y, hy, h1, _⟩ := (h.f _ _).1 e; have := (h.tk y hy).2; omega
  refine ⟨S', p, ks', hput, l4, hfn, hll, ?_⟩
  have hla := h.la
  have e1 : ∀ (j : Nat) (y : ItQ α), Q[j]? = some y → Go.Proofs.Ytifdogmlaengoaa.isA z S'.l (y.1 : Int) = true := fun j y hy => by
    have hym := List.mem_of_getElem? hy
    refine isA_iff.2 ⟨by omega, by have := h.lt y hym; omega, ?_⟩
    simp only [Int.toNat_natCast]
    rw [hs, if_neg (hpf y hym)]
    exact (h.link j y hy).2
  have hpv : (Q = [] ∧ pv Q Q.length = -1) ∨ (0 < Q.length ∧ ∃ y, Q[Q.length - 1]? = some y ∧ pv Q Q.length = (y.1 : Int)) := by
    unfold pv
    by_cases h0 : Q.length = 0
    · exact .inl ⟨List.eq_nil_of_length_eq_zero h0, by rw [if_pos h0]⟩
    · refine .inr ⟨by omega, Q[Q.length - 1], List.getElem?_eq_getElem (by omega), ?_⟩
      rw [if_neg h0, plc_some (List.getElem?_eq_getElem (by omega))]
  have haA : Go.Proofs.Ytifdogmlaengoaa.isA z S'.l (pv Q Q.length) = decide (0 < Q.length) := by
    rcases hpv with ⟨h0, h1⟩ | ⟨h0, y, hy, h1⟩
    · rw [h1, isA_neg (by omega), h0]; rfl
    · rw [h1, e1 _ y hy]; simp [h0]
  have hbB : Go.Proofs.Ytifdogmlaengoaa.isA z S'.l (p : Int) = true := isA_iff.2 ⟨by omega, by omega, by simp only [Int.toNat_natCast]; rw [hs, if_pos rfl]⟩
  have hab : Go.Proofs.Ytifdogmlaengoaa.isA z S'.l (pv Q Q.length) = true → pv Q Q.length ≠ (p : Int) := fun _ e => by
    rcases hpv with ⟨_, h1⟩ | ⟨_, y, hy, h1⟩
    · omega
    · exact hpf y (List.mem_of_getElem? hy) (by omega)
  obtain ⟨j1, j2, j3, j4, j5, j6⟩ := join_spec (z := z) (⟨S', q.fi, q.la⟩ : Fq α) (a := pv Q Q.length) (b := (p : Int)) hab
  have hQ : pushQ z q S' (p : Int) = ⟨(joinF z ⟨S', q.fi, q.la⟩ (pv Q Q.length) (p : Int)).S, (joinF z ⟨S', q.fi, q.la⟩ (pv Q Q.length) (p : Int)).fi, p⟩ := by unfold pushQ; rw [hla]
  rw [hQ]
  obtain ⟨J, eJ⟩ : ∃ J, joinF z (⟨S', q.fi, q.la⟩ : Fq α) (pv Q Q.length) (p : Int) = J := ⟨_, rfl⟩
  rw [eJ] at j1 j2 j3 j4 j5 j6 ⊢
  simp only at j1 j2 j3 j4 j5 j6
  rw [haA] at j4 j6
  rw [hbB] at j6
  have hoff : ∀ k, (slotA z S'.l k).2.1 = false → slotA z J.S.l k = slotA z S'.l k := fun k hk => by
    rw [j6]
    have n1 : ¬ (true = true ∧ (k : Int) = (p : Int)) := by
      rintro ⟨_, g2⟩
      have : k = p := by omega
      subst this
      rw [hs, if_pos rfl] at hk; cases hk
    have n2 : ¬ (decide (0 < Q.length) = true ∧ (k : Int) = pv Q Q.length) := by
      rintro ⟨g1, g2⟩
      rw [← haA, ← g2] at g1
      have := (isA_iff.1 g1).2.2
      simp only [Int.toNat_natCast] at this
      rw [hk] at this; cases this
    rw [if_neg n1, if_neg n2]
  have hP : ∀ j, plc (Q ++ [(p, tk + 1, v)]) j = if j < Q.length then plc Q j else if j = Q.length then (p : Int) else -1 := fun j => by
    unfold plc
    by_cases g1 : j < Q.length
    · rw [if_pos g1, List.getElem?_append_left g1]
    · rw [if_neg g1, List.getElem?_append_right (by omega)]
      by_cases g2 : j = Q.length
      · rw [if_pos g2, g2, Nat.sub_self]; rfl
      · rw [if_neg g2, List.getElem?_eq_none (by simp; omega)]
  have hpve : ∀ j, j ≤ Q.length → pv (Q ++ [(p, tk + 1, v)]) j = pv Q j := fun j hj => by
    unfold pv
    split
    · rfl
    · rw [hP, if_pos (by omega)]
  refine ⟨?_, ?_, ?_, ?_, fun y hy => ?_, fun j y hy => ?_, ?_, ?_, fun t r => ?_, fun y hy => ?_, ?_, ?_⟩
  · simp only [List.map_append, List.map_cons, List.map_nil, List.append_assoc, List.cons_append, List.nil_append]; exact hnd
  · show J.S.l.length = _
    rw [j1, l1]; simp
  · show J.S.n = _
    rw [j3, hn]; simp
  · show ChainQ z J.S.l J.S.free ks'
    rw [j2]
    refine hch.congr (by rw [j1]; exact Nat.le_refl _) (fun k hk => hoff k (hch.off k hk).2)
  · show y.1 < J.S.l.length
    rw [j1]
    rcases List.mem_append.1 hy with hy | hy
    · have := h.lt y hy; omega
    · simp only [List.mem_cons, List.not_mem_nil, or_false] at hy
      rw [hy]; exact l3
  · show (slotA z J.S.l y.1).1 = _ ∧ (slotA z J.S.l y.1).2.1 = true
    rw [j6]
    by_cases g1 : j < Q.length
    · rw [List.getElem?_append_left g1] at hy
      have hym := List.mem_of_getElem? hy
      obtain ⟨k1, k2⟩ := h.link j y hy
      have hk2 : slotA z S'.l y.1 = slotA z q.S.l y.1 := by rw [hs, if_neg (hpf y hym)]
      rw [if_neg (fun q => hpf y hym (by have := q.2; omega)), hk2, hpve j (by omega), hP]
      by_cases g2 : j + 1 < Q.length
      · have n2 : ¬ (decide (0 < Q.length) = true ∧ (y.1 : Int) = pv Q Q.length) := by
          rintro ⟨_, c2⟩
          rcases hpv with ⟨h0, _⟩ | ⟨_, y', hy', h3⟩
          · rw [h0] at g1; simp at g1
          · have := place_inj h.nd hy hy' (by omega); omega
        rw [if_neg n2, if_pos g2]
        exact ⟨k1, k2⟩
      · have e : j = Q.length - 1 := by omega
        have n2 : decide (0 < Q.length) = true ∧ (y.1 : Int) = pv Q Q.length := by
          refine ⟨by simp; omega, ?_⟩
          unfold pv
          rw [if_neg (by omega), ← e, plc_some hy]
        rw [if_pos n2, if_neg g2, if_pos (by omega), k1]
        exact ⟨rfl, rfl⟩
    · rw [List.getElem?_append_right (by omega)] at hy
      have hj : j = Q.length := by
        have := (List.getElem?_eq_some_iff.1 hy).1
        simp at this; omega
      subst hj
      rw [Nat.sub_self] at hy
      simp only [List.getElem?_cons_zero, Option.some.injEq] at hy
      subst hy
      rw [if_pos ⟨rfl, rfl⟩, hs, if_pos rfl, hpve _ (Nat.le_refl _), hP, if_neg (by omega), if_neg (by omega)]
      exact ⟨rfl, rfl⟩
  · show J.fi = _
    rw [j4, hP]
    by_cases g1 : 0 < Q.length
    · rw [if_pos (by simpa using g1), if_pos g1]; exact h.fi
    · rw [if_neg (by simpa using g1), if_neg g1, if_pos (by omega)]
  · show (p : Int) = _
    unfold pv
    rw [if_neg (by simp), hP, if_neg (by simp), if_pos (by simp)]
  · unfold upd
    by_cases c1 : t = tk + 1
    · rw [if_pos c1]
      constructor
      · intro e
        injection e with e
        exact ⟨(p, tk + 1, v), by simp, c1.symm, e.symm⟩
      · rintro ⟨y, hy, e, hp⟩
        rcases List.mem_append.1 hy with hy | hy
        · have := (h.tk y hy).2; omega
        · simp only [List.mem_cons, List.not_mem_nil, or_false] at hy
          rw [hp, hy]
    · rw [if_neg c1, h.f]
      constructor
      · rintro ⟨y, hy, e, hp⟩; exact ⟨y, by simp [hy], e, hp⟩
      · rintro ⟨y, hy, e, hp⟩
        rcases List.mem_append.1 hy with hy | hy
        · exact ⟨y, hy, e, hp⟩
        · simp only [List.mem_cons, List.not_mem_nil, or_false] at hy
          rw [hy] at e
          exact (c1 e.symm).elim
  · rcases List.mem_append.1 hy with hy | hy
    · have := h.tk y hy; omega
    · simp only [List.mem_cons, List.not_mem_nil, or_false] at hy
      rw [hy]
      show 1 ≤ tk + 1 ∧ tk + 1 ≤ tk + 1
      omega
  · rw [List.map_append, List.pairwise_append]
    refine ⟨h.tnd, by simp, fun a ha b hb => ?_⟩
    obtain ⟨y, hy, rfl⟩ := List.mem_map.1 ha
    simp only [List.map_cons, List.map_nil, List.mem_cons, List.not_mem_nil, or_false] at hb
    have := (h.tk y hy).2
    omega
  · rw [h.c]; simp
/-- None. -/
theorem InvQ.nil (z : LkG α) : InvQ z ⟨⟨[], 0, 0⟩, -1, -1⟩ 0 (fun _ => none) 0 [] [] :=
  ⟨by simp, rfl, rfl, rfl, (fun x hx => by cases hx), (fun i x hx => by simp at hx), rfl, rfl, (fun t p => by simp), (fun x hx => by cases hx), by simp, rfl⟩
/-- All is small. -/
theorem InvQ.ok {q : Fq α} {tk : Int} {f : Int → Option Int} {c : Nat} {Q : List (ItQ α)} {ks : List Nat} (h : InvQ z q tk f c Q ks) : OkA q.S.l.length q.S := by
  have h1 := h.len
  have h2 := h.n
  have h3 : q.S.free ≤ q.S.l.length := by
    have := h.chain
    cases ks with
    | nil => have h0 : q.S.free = 0 := this; omega
    | cons k ks => obtain ⟨h0, h4, _⟩ := this; omega
  exact ⟨Nat.le_refl _, h3, by omega, by omega⟩
theorem map_eraseIdx {β γ : Type} (g : β → γ) : ∀ (l : List β) (i : Nat), (l.eraseIdx i).map g = (l.map g).eraseIdx i
  | [], _ => rfl
  | _ :: _, 0 => rfl
  | x :: l, i + 1 => by simp [List.eraseIdx, map_eraseIdx g l i]
theorem join_len (q : Fq α) (a b : Int) : (joinF z q a b).S.l.length = q.S.l.length := by
  have A2 : (joA z q a b).S.l.length = q.S.l.length := by
    unfold joA; split
    · exact (setA_len _ _ _).1
    · rfl
  unfold joinF joB
  split
  · exact (setA_len _ _ _).1.trans A2
  · exact A2
end
end Go.Proofs.Ytifdogmlaengoaa
