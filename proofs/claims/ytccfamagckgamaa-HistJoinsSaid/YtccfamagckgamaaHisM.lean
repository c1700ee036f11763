/-
  Layer 34: the more of all are asked for, the greater is the number below which they are. No program in sight.
-/
import Derived.Test.YtccfamagckgamaaHisB
namespace Go.Proofs.Ytccfamagckgamaa
theorem at_cons (x : Cm) (L : List Cm) (k : Nat) : atF (x :: L) k = atF L k + if placeF x.1 = k then x.2 else 0 := by
  unfold atF
  by_cases c : placeF x.1 = k
  · simp [c, Int.add_comm]
  · simp [c]
theorem cnt_cons (x : Cm) (L : List Cm) : cntF (x :: L) = cntF L + x.2 := by simp [cntF, Int.add_comm]
theorem pref_cons (x : Cm) (L : List Cm) : ∀ k, prefF (x :: L) k = prefF L k + if placeF x.1 < k then x.2 else 0 := by
  intro k
  induction k with
  | zero => simp [prefF]
  | succ k ih =>
    rw [prefF, prefF, ih, at_cons]
    by_cases c : placeF x.1 < k
    · rw [if_pos c, if_neg (by omega), if_pos (by omega)]; omega
    · by_cases d : placeF x.1 = k
      · rw [if_neg c, if_pos d, if_pos (by omega)]; omega
      · rw [if_neg c, if_neg d, if_neg (by omega)]; omega
theorem pref_all {L : List Cm} {k : Nat} (h : ∀ x ∈ L, placeF x.1 < k) : prefF L k = cntF L := by
  induction L with
  | nil =>
    have : ∀ k, prefF [] k = 0 := by
      intro k
      induction k with
      | zero => rfl
      | succ k ih => rw [prefF, ih]; rfl
    rw [this]; rfl
  | cons x L ih =>
    rw [pref_cons, ih fun y hy => h y (List.mem_cons_of_mem _ hy), if_pos (h x List.mem_cons_self), cnt_cons]
theorem pref_le {L : List Cm} (h : ∀ x ∈ L, U64 x.1 ∧ 1 ≤ x.2) {x : Cm} (hx : x ∈ L) : prefF L (placeF x.1) + x.2 ≤ cntF L := by
  induction L with
  | nil => cases hx
  | cons y L ih =>
    have hL : ∀ z ∈ L, U64 z.1 ∧ 1 ≤ z.2 := fun z hz => h z (List.mem_cons_of_mem _ hz)
    rw [pref_cons, cnt_cons]
    rcases List.mem_cons.1 hx with e | hx
    · subst e
      rw [if_neg (by omega)]
      have : prefF L (placeF x.1) ≤ cntF L := by
        clear ih hx h
        induction L with
        | nil =>
          have : ∀ k, prefF [] k = 0 := by
            intro k
            induction k with
            | zero => rfl
            | succ k ih => rw [prefF, ih]; rfl
          rw [this]; exact Int.le_refl _
        | cons z L ih =>
          have := ih fun u hu => hL u (List.mem_cons_of_mem _ hu)
          have := (hL z List.mem_cons_self).2
          rw [pref_cons, cnt_cons]
          split <;> omega
      omega
    · have := ih hL hx
      have := (h y List.mem_cons_self).2
      split <;> omega
theorem pref_mono {L : List Cm} (h : ∀ x ∈ L, U64 x.1 ∧ 1 ≤ x.2) {a b : Nat} (hab : a ≤ b) : prefF L a ≤ prefF L b := by
  induction b with
  | zero => obtain rfl : a = 0 := by omega
            exact Int.le_refl _
  | succ b ih =>
    by_cases e : a = b + 1
    · subst e; exact Int.le_refl _
    · have := ih (by omega)
      have := (at_range h b).1
      rw [prefF]; omega
theorem findK_spec (L : List Cm) (need : Int) : ∀ m, (∃ k, findK L need m = some k ∧ k < m ∧ need ≤ prefF L (k + 1) ∧ ∀ j, j < k → prefF L (j + 1) < need) ∨ (findK L need m = none ∧ ∀ j, j < m → prefF L (j + 1) < need) := by
  intro m
  induction m with
  | zero => exact .inr ⟨rfl, fun j h => by omega⟩
  | succ m ih =>
    rcases ih with ⟨k, h1, h2, h3, h4⟩ | ⟨h1, h2⟩
    · exact .inl ⟨k, by rw [findK, h1], by omega, h3, h4⟩
    · by_cases c : need ≤ prefF L (m + 1)
      · exact .inl ⟨m, by rw [findK, h1, if_pos c], by omega, c, h2⟩
      · refine .inr ⟨by rw [findK, h1, if_neg c], fun j hj => ?_⟩
        by_cases e : j = m
        · subst e; omega
        · exact h2 j (by omega)
theorem place_mono {a b : Int} (ha : 0 ≤ a) (hab : a ≤ b) (hb : U64 b) : placeF a ≤ placeF b := by
  unfold U64 at hb
  unfold placeF
  have h64 : Lib.bitLen b.toNat ≤ 64 := Lib.bitLen_le _ 64 (by omega) (by omega)
  refine Lib.bitLen_le _ _ h64 ?_
  by_cases e : b.toNat = 0
  · have : a.toNat = 0 := by omega
    rw [this]; exact Nat.two_pow_pos _
  · have := (Lib.bitLenAux_bounds 64 b.toNat (by omega) e).2.2
    exact Nat.lt_of_le_of_lt (by omega) this
theorem place_lt {a : Int} (ha : U64 a) : a ≤ (2 : Int) ^ placeF a - 1 := by
  unfold U64 at ha
  unfold placeF
  by_cases e : a.toNat = 0
  · have h1 : a = 0 := by omega
    have : Lib.bitLen 0 = 0 := by rfl
    subst h1
    simp [this]
  · have h1 := (Lib.bitLenAux_bounds 64 a.toNat (by omega) e).2.2
    have h2 : ((a.toNat : Nat) : Int) < ((2 ^ Lib.bitLen a.toNat : Nat) : Int) := Int.ofNat_lt.2 h1
    rw [Int.natCast_pow] at h2
    have h3 : ((a.toNat : Nat) : Int) = a := Int.toNat_of_nonneg ha.1
    rw [h3] at h2
    simp only [Int.cast_ofNat_Int] at h2
    omega
theorem place_pow (k : Nat) (hk : k ≤ 64) : placeF ((2 : Int) ^ k - 1) = k := by
  have key : ∀ k : Fin 65, placeF ((2 : Int) ^ k.val - 1) = k.val := by decide +kernel
  exact key ⟨k, by omega⟩
theorem pow_mono {a b : Nat} (h : a ≤ b) : (2 : Int) ^ a - 1 ≤ (2 : Int) ^ b - 1 := by
  have : (2 : Nat) ^ a ≤ 2 ^ b := Nat.pow_le_pow_right (by omega) h
  have h2 : ((2 ^ a : Nat) : Int) ≤ ((2 ^ b : Nat) : Int) := Int.ofNat_le.2 this
  rw [Int.natCast_pow, Int.natCast_pow] at h2
  simp only [Int.cast_ofNat_Int] at h2
  omega
theorem most_le {L : List Cm} : (∀ x ∈ L, x.1 ≤ mostF L) ∧ (L = [] ∨ 0 < mostF L → L = [] ∨ ∃ x ∈ L, x.1 = mostF L) ∧ 0 ≤ mostF L := by
  have key : ∀ (L : List Cm) (s : Int), (∀ x ∈ L, x.1 ≤ L.foldl (fun m x => max m x.1) s) ∧ s ≤ L.foldl (fun m x => max m x.1) s ∧ (L.foldl (fun m x => max m x.1) s = s ∨ ∃ x ∈ L, x.1 = L.foldl (fun m x => max m x.1) s) := by
    intro L
    induction L with
    | nil => intro s; exact ⟨by simp, Int.le_refl _, .inl rfl⟩
    | cons x L ih =>
      intro s
      obtain ⟨h1, h2, h3⟩ := ih (max s x.1)
      refine ⟨fun y hy => ?_, ?_, ?_⟩
      · rcases List.mem_cons.1 hy with rfl | hy
        · exact Int.le_trans (Int.le_max_right _ _) h2
        · exact h1 y hy
      · exact Int.le_trans (Int.le_max_left _ _) h2
      · simp only [List.foldl_cons]
        rcases h3 with h3 | ⟨y, hy, h3⟩
        · rw [h3]
          by_cases c : x.1 ≤ s
          · exact .inl (Int.max_eq_left c)
          · exact .inr ⟨x, List.mem_cons_self, (Int.max_eq_right (by omega)).symm⟩
        · exact .inr ⟨y, List.mem_cons_of_mem _ hy, h3⟩
  obtain ⟨h1, h2, h3⟩ := key L 0
  refine ⟨h1, fun h => ?_, h2⟩
  rcases h3 with h3 | h3
  · rcases h with h | h
    · exact .inl h
    · have h4 : mostF L = 0 := h3
      omega
  · exact .inr h3
/-- Somebody is of the greatest one's place. -/
theorem most_in {L : List Cm} (h : ∀ x ∈ L, U64 x.1 ∧ 1 ≤ x.2) (hne : L ≠ []) : ∃ x ∈ L, placeF x.1 = placeF (mostF L) := by
  obtain ⟨h1, h2, h3⟩ := most_le (L := L)
  by_cases c : 0 < mostF L
  · rcases h2 (.inr c) with e | ⟨x, hx, e⟩
    · exact absurd e hne
    · exact ⟨x, hx, by rw [e]⟩
  · obtain ⟨x, hx⟩ := List.exists_mem_of_ne_nil L hne
    have := h1 x hx
    have := (h x hx).1.1
    exact ⟨x, hx, by rw [show x.1 = mostF L by omega]⟩
theorem cnt_zero {L : List Cm} (h : ∀ x ∈ L, U64 x.1 ∧ 1 ≤ x.2) : cntF L = 0 ↔ L = [] := by
  have := cnt_nonneg h
  constructor
  · intro e
    cases L with
    | nil => rfl
    | cons x L => simp only [List.length_cons] at this; omega
  · rintro rfl; rfl
theorem below_law {L : List Cm} (hL : OkL L) (a b : Int) (ha : 0 ≤ a) (hab : a ≤ b) (hb : b ≤ 65535) :
    (cntF L = 0 ∧ belowF L a 65535 = (0, false) ∧ belowF L b 65535 = (0, false) ∧ belowF L 1 1 = (0, false)) ∨
    (cntF L ≠ 0 ∧ ∃ i j : Nat, i ≤ j ∧ j ≤ placeF (mostF L) ∧ belowF L a 65535 = ((2 : Int) ^ i - 1, true) ∧ belowF L b 65535 = ((2 : Int) ^ j - 1, true) ∧ belowF L 1 1 = ((2 : Int) ^ placeF (mostF L) - 1, true)) := by
  by_cases h0 : cntF L = 0
  · exact .inl ⟨h0, by unfold belowF; rw [if_pos (.inl h0)], by unfold belowF; rw [if_pos (.inl h0)], by unfold belowF; rw [if_pos (.inl h0)]⟩
  · have hpos : 0 < cntF L := by have := cnt_nonneg hL.each; omega
    have hmu := most_range hL.each
    have hp64 := place_le hmu
    obtain ⟨x, hx, hxp⟩ := most_in hL.each (fun e => h0 ((cnt_zero hL.each).2 e))
    have hall : prefF L (placeF (mostF L) + 1) = cntF L := pref_all fun y hy => by
      have := place_mono (hL.each y hy).1.1 (most_le.1 y hy) hmu
      omega
    have hlow : prefF L (placeF (mostF L)) < cntF L := by
      have h1 := pref_le hL.each hx
      have h2 := (hL.each x hx).2
      rw [hxp] at h1
      omega
    have find : ∀ need, need ≤ cntF L → ∃ k, findK L need 65 = some k ∧ k ≤ placeF (mostF L) ∧ need ≤ prefF L (k + 1) ∧ ∀ j, j < k → prefF L (j + 1) < need := by
      intro need hn
      rcases findK_spec L need 65 with ⟨k, h1, h2, h3, h4⟩ | ⟨_, h2⟩
      · refine ⟨k, h1, ?_, h3, h4⟩
        rcases Nat.lt_or_ge (placeF (mostF L)) k with c | c
        · have := h4 _ c; omega
        · exact c
      · have := h2 (placeF (mostF L)) (by omega); omega
    have needle : ∀ p : Int, 0 ≤ p → p ≤ 65535 → needF L p 65535 ≤ cntF L := by
      intro p hp1 hp2
      unfold needF
      have h1 := Int.mul_le_mul_of_nonneg_left hp2 (show 0 ≤ cntF L by omega)
      have : (cntF L * p + 65535 - 1) / 65535 < cntF L + 1 := Int.ediv_lt_of_lt_mul (by omega) (by omega)
      omega
    have nb : ∀ p : Int, 0 ≤ p → p ≤ 65535 → ¬ badF L p 65535 := by
      intro p hp1 hp2
      unfold badF
      omega
    have n1 : needF L 1 1 = cntF L := by unfold needF; rw [Int.ediv_one]; omega
    have nb1 : ¬ badF L 1 1 := by unfold badF; omega
    obtain ⟨i, i1, i2, i3, i4⟩ := find _ (needle a ha (by omega))
    obtain ⟨j, j1, j2, j3, j4⟩ := find _ (needle b (by omega) hb)
    obtain ⟨k, k1, k2, k3, k4⟩ := find (cntF L) (Int.le_refl _)
    have hk : k = placeF (mostF L) := by
      rcases Nat.lt_or_ge k (placeF (mostF L)) with c | c
      · have := pref_mono hL.each (show k + 1 ≤ placeF (mostF L) by omega)
        omega
      · omega
    have hmono : needF L a 65535 ≤ needF L b 65535 := by
      unfold needF
      have h1 := Int.mul_le_mul_of_nonneg_left hab (show 0 ≤ cntF L by omega)
      exact Int.ediv_le_ediv (by omega) (by omega)
    have hij : i ≤ j := by
      rcases Nat.lt_or_ge j i with c | c
      · have := i4 j c; omega
      · exact c
    subst hk
    refine .inr ⟨h0, i, j, hij, j2, ?_, ?_, ?_⟩
    · unfold belowF; rw [if_neg (nb a ha (by omega)), i1]
    · unfold belowF; rw [if_neg (nb b (by omega) hb), j1]
    · unfold belowF; rw [if_neg nb1, n1, k1]
end Go.Proofs.Ytccfamagckgamaa
