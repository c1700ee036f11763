/-
  Layer 33: what is cut out of rising pieces, the first gap, and that pieces hang on what is in them alone. Plain laws. No condition.
-/
import Derived.Test.YtjihhpipdhhjkaaSpM
namespace Go.Proofs.Ytjihhpipdhhjkaa
open Go.RowKit
/-- None of that stays in it. -/
theorem cut_good {l : List (Int × Int)} (h : Good l) {low high : Int} (hlt : low < high) : Good (cutL l low high) ∧ (∀ x, Mem (cutL l low high) x ↔ Mem l x ∧ ¬ (low ≤ x ∧ x < high)) ∧ (cutL l low high).length ≤ l.length + 1 := by
  obtain ⟨s1, s2⟩ := ah_spec h low true
  obtain ⟨t1, t2⟩ := be_spec h high false
  have l2 := beF_le l high false
  have e1 : cutL l low high = (if ahF l low true < beF l high false then l.take (ahF l low true) ++ (cutA l low ++ cutB l high) ++ l.drop (beF l high false) else l) := by unfold cutL; rw [if_pos (by unfold ltV; simpa using hlt)]
  have ea : cutA l low = if ltV (pc l (ahF l low true)).1 low = true then [((pc l (ahF l low true)).1, low)] else [] := rfl
  have eb : cutB l high = if ltV high (pc l (beF l high false - 1)).2 = true then [(high, (pc l (beF l high false - 1)).2)] else [] := rfl
  obtain ⟨r, er⟩ : ∃ r, ahF l low true = r := ⟨_, rfl⟩
  obtain ⟨s, es⟩ : ∃ s, beF l high false = s := ⟨_, rfl⟩
  rw [er, es] at e1
  rw [er] at s1 s2 ea
  rw [es] at t1 t2 l2 eb
  have s1' : ∀ k, k < r → (pc l k).2 ≤ low := fun k hk => by have := s1 k hk; simp at this; omega
  have s2' : ∀ k, r ≤ k → k < l.length → low < (pc l k).2 := fun k hk hk2 => by have := s2 k hk hk2; simp at this; omega
  have t1' : ∀ k, k < s → (pc l k).1 < high := fun k hk => by have := t1 k hk; simpa using this
  have t2' : ∀ k, s ≤ k → k < l.length → high ≤ (pc l k).1 := fun k hk hk2 => by have := t2 k hk hk2; simpa using this
  by_cases hc : r < s
  · rw [if_pos hc] at e1
    have hr := h.lt (show r < l.length by omega)
    have hs := h.lt (show s - 1 < l.length by omega)
    have hA : ∀ p ∈ cutA l low, p = ((pc l r).1, low) ∧ (pc l r).1 < low := fun p hp => by
      rw [ea] at hp
      unfold ltV at hp
      split at hp
      · rename_i g; simp at hp g; exact ⟨hp, g⟩
      · simp at hp
    have hB : ∀ p ∈ cutB l high, p = (high, (pc l (s - 1)).2) ∧ high < (pc l (s - 1)).2 := fun p hp => by
      rw [eb] at hp
      unfold ltV at hp
      split at hp
      · rename_i g; simp at hp g; exact ⟨hp, g⟩
      · simp at hp
    have gA : Good (cutA l low) := by
      refine ⟨fun p hp => by obtain ⟨rfl, g⟩ := hA p hp; exact g, ?_⟩
      rw [ea]; split <;> simp
    have gB : Good (cutB l high) := by
      refine ⟨fun p hp => by obtain ⟨rfl, g⟩ := hB p hp; exact g, ?_⟩
      rw [eb]; split <;> simp
    have mA : ∀ x, Mem (cutA l low) x ↔ (pc l r).1 ≤ x ∧ x < low := fun x => by
      rw [ea]; unfold ltV
      split
      · rw [mem_one]
      · rename_i g; simp at g; rw [mem_nil]; constructor
        · exact fun h => h.elim
        · rintro ⟨a, b⟩; omega
    have mB : ∀ x, Mem (cutB l high) x ↔ high ≤ x ∧ x < (pc l (s - 1)).2 := fun x => by
      rw [eb]; unfold ltV
      split
      · rw [mem_one]
      · rename_i g; simp at g; rw [mem_nil]; constructor
        · exact fun h => h.elim
        · rintro ⟨a, b⟩; omega
    refine ⟨?_, fun x => ?_, ?_⟩
    · rw [e1, good_append, good_append, good_append]
      refine ⟨⟨h.take r, ⟨gA, gB, fun a ha b hb => ?_⟩, fun a ha b hb => ?_⟩, h.drop s, fun a ha b hb => ?_⟩
      · obtain ⟨rfl, _⟩ := hA a ha
        obtain ⟨rfl, _⟩ := hB b hb
        exact hlt
      · obtain ⟨k, hk, _, rfl⟩ := mem_take_pc ha
        have k1 := s1' k hk
        have k2 := h.ord hk (show r < l.length by omega)
        rcases List.mem_append.1 hb with hb | hb
        · obtain ⟨rfl, _⟩ := hA b hb; exact k2
        · obtain ⟨rfl, _⟩ := hB b hb; simp only; omega
      · obtain ⟨j, hj, hj2, rfl⟩ := mem_drop_pc hb
        have j1 := t2' j hj hj2
        have j2 := h.ord (show s - 1 < j by omega) hj2
        rcases List.mem_append.1 ha with ha | ha
        · obtain ⟨k, hk, _, rfl⟩ := mem_take_pc ha
          exact h.ord (by omega) hj2
        · rcases List.mem_append.1 ha with ha | ha
          · obtain ⟨rfl, _⟩ := hA a ha; simp only; omega
          · obtain ⟨rfl, _⟩ := hB a ha; exact j2
    · rw [e1, mem_append, mem_append, mem_append, mA, mB]
      constructor
      · rintro ((⟨a, ha, h1, h2⟩ | (⟨h1, h2⟩ | ⟨h1, h2⟩)) | ⟨a, ha, h1, h2⟩)
        · obtain ⟨k, hk, hk2, rfl⟩ := mem_take_pc ha
          have := s1' k hk
          exact ⟨mem_iff_pc.2 ⟨k, hk2, h1, h2⟩, by omega⟩
        · have := s2' r (Nat.le_refl _) (by omega)
          exact ⟨mem_iff_pc.2 ⟨r, by omega, h1, by omega⟩, by omega⟩
        · have := t1' (s - 1) (by omega)
          exact ⟨mem_iff_pc.2 ⟨s - 1, by omega, by omega, h2⟩, by omega⟩
        · obtain ⟨k, hk, hk2, rfl⟩ := mem_drop_pc ha
          have := t2' k hk hk2
          exact ⟨mem_iff_pc.2 ⟨k, hk2, h1, h2⟩, by omega⟩
      · rintro ⟨hm, hn⟩
        obtain ⟨k, hk, h1, h2⟩ := mem_iff_pc.1 hm
        by_cases c1 : k < r
        · exact .inl (.inl ⟨_, pc_take c1 hk, h1, h2⟩)
        · by_cases c2 : k < s
          · by_cases c3 : x < low
            · have := h.ord1 (show r ≤ k by omega) hk
              exact .inl (.inr (.inl ⟨by omega, c3⟩))
            · have := h.ord2 (show k ≤ s - 1 by omega) (show s - 1 < l.length by omega)
              exact .inl (.inr (.inr ⟨by omega, by omega⟩))
          · exact .inr ⟨_, pc_drop (by omega) hk, h1, h2⟩
    · have a1 : (cutA l low).length ≤ 1 := cutA_len l low
      have b1 : (cutB l high).length ≤ 1 := cutB_len l high
      rw [e1]
      simp only [List.length_append, List.length_take, List.length_drop]
      omega
  · rw [if_neg hc] at e1
    rw [e1]
    refine ⟨h, fun x => ?_, by omega⟩
    constructor
    · intro hm
      refine ⟨hm, ?_⟩
      rintro ⟨h1, h2⟩
      obtain ⟨k, hk, h3, h4⟩ := mem_iff_pc.1 hm
      by_cases c1 : k < r
      · have := s1' k c1; omega
      · have := t2' k (by omega) hk; omega
    · exact fun h => h.1
/-- The first gap. -/
def GapIs (In : Int → Prop) (low high : Int) (g : Int × Int × Bool) : Prop :=
  (g.2.2 = false ∧ g.1 = 0 ∧ g.2.1 = 0 ∧ ∀ x, low ≤ x → x < high → In x) ∨
  (g.2.2 = true ∧ low ≤ g.1 ∧ g.1 < g.2.1 ∧ g.2.1 ≤ high ∧ (∀ x, low ≤ x → x < g.1 → In x) ∧ (∀ x, g.1 ≤ x → x < g.2.1 → ¬ In x) ∧ (g.2.1 = high ∨ In g.2.1))
theorem GapIs.uniq {In : Int → Prop} {low high : Int} {g g' : Int × Int × Bool} (h : GapIs In low high g) (h' : GapIs In low high g') : g = g' := by
  obtain ⟨a, b, c⟩ := g
  obtain ⟨a', b', c'⟩ := g'
  rcases h with ⟨rfl, rfl, rfl, h1⟩ | ⟨rfl, h1, h2, h3, h4, h5, h6⟩
  · rcases h' with ⟨rfl, rfl, rfl, _⟩ | ⟨rfl, g1, g2, g3, g4, g5, g6⟩
    · rfl
    · simp only at g1 g2 g3 g4 g5 g6
      exact (g5 a' (Int.le_refl _) g2 (h1 a' g1 (by omega))).elim
  · simp only at h1 h2 h3 h4 h5 h6
    rcases h' with ⟨rfl, rfl, rfl, g1⟩ | ⟨rfl, g1, g2, g3, g4, g5, g6⟩
    · exact (h5 a (Int.le_refl _) h2 (g1 a h1 (by omega))).elim
    · simp only at g1 g2 g3 g4 g5 g6
      have e1 : a = a' := by
        rcases Int.lt_trichotomy a a' with q | q | q
        · exact (h5 a (Int.le_refl _) h2 (g4 a h1 q)).elim
        · exact q
        · exact (g5 a' (Int.le_refl _) g2 (h4 a' g1 q)).elim
      subst e1
      have e2 : b = b' := by
        rcases Int.lt_trichotomy b b' with q | q | q
        · rcases h6 with h6 | h6
          · omega
          · exact (g5 b (by omega) q h6).elim
        · exact q
        · rcases g6 with g6 | g6
          · omega
          · exact (h5 b' (by omega) q g6).elim
      rw [e2]
theorem gap_spec {l : List (Int × Int)} (h : Good l) {low high : Int} (hlt : low < high) : GapIs (Mem l) low high (gapV l low high) := by
  obtain ⟨s1, s2⟩ := ah_spec h low true
  have l1 := ahF_le l low true
  have e0 : gapV l low high = if hitV l low = true then gapW l (pc l (ahF l low true)).2 high (ahF l low true + 1) else gapW l low high (ahF l low true) := by unfold gapV; rw [if_pos (by unfold ltV; simpa using hlt)]
  have e1 : hitV l low = (decide (ahF l low true < l.length) && leV (pc l (ahF l low true)).1 low) := rfl
  obtain ⟨r, er⟩ : ∃ r, ahF l low true = r := ⟨_, rfl⟩
  rw [er] at e0 e1 s1 s2 l1
  have s1' : ∀ k, k < r → (pc l k).2 ≤ low := fun k hk => by have := s1 k hk; simp at this; omega
  have s2' : ∀ k, r ≤ k → k < l.length → low < (pc l k).2 := fun k hk hk2 => by have := s2 k hk hk2; simp at this; omega
  -- from a place on that no piece ahead of k reaches
  have key : ∀ (lo : Int) (k : Nat), low ≤ lo → k ≤ l.length → (∀ j, j < k → (pc l j).2 ≤ lo) → (∀ j, k ≤ j → j < l.length → lo < (pc l j).1) → (∀ x, low ≤ x → x < lo → Mem l x) → GapIs (Mem l) low high (gapW l lo high k) := by
    intro lo k h0 hkl h1 h2 h3
    unfold gapW ltV
    by_cases hc : lo < high
    · rw [if_pos (by simpa using hc)]
      refine .inr ⟨rfl, h0, ?_⟩
      by_cases hk : k < l.length
      · rw [if_pos hk]
        have h4 := h2 k (Nat.le_refl _) hk
        have m1 : mnV high (pc l k).1 ≤ high ∧ mnV high (pc l k).1 ≤ (pc l k).1 ∧ (mnV high (pc l k).1 = high ∨ mnV high (pc l k).1 = (pc l k).1) := by unfold mnV; split <;> omega
        refine ⟨by simp only; omega, by simp only; omega, h3, fun x h5 h6 hm => ?_, ?_⟩
        · obtain ⟨j, hj, g1, g2⟩ := mem_iff_pc.1 hm
          simp only at h5 h6
          by_cases c : j < k
          · have := h1 j c; omega
          · have := h.ord1 (show k ≤ j by omega) hj; omega
        · rcases m1.2.2 with g | g
          · exact .inl g
          · refine .inr ?_
            show Mem l (mnV high (pc l k).1)
            rw [g]; exact mem_iff_pc.2 ⟨k, hk, Int.le_refl _, h.lt hk⟩
      · rw [if_neg hk]
        refine ⟨hc, Int.le_refl _, h3, fun x h5 h6 hm => ?_, .inl rfl⟩
        obtain ⟨j, hj, g1, g2⟩ := mem_iff_pc.1 hm
        have := h1 j (by omega)
        simp only at h5
        omega
    · rw [if_neg (by simpa using hc)]
      exact .inl ⟨rfl, rfl, rfl, fun x g1 g2 => h3 x g1 (by omega)⟩
  rw [e0]
  by_cases hh : hitV l low = true
  · rw [if_pos hh]
    rw [e1, Bool.and_eq_true, decide_eq_true_eq] at hh
    unfold leV at hh
    rw [decide_eq_true_eq] at hh
    have g1 := s2' r (Nat.le_refl _) hh.1
    refine key _ _ (by omega) (by omega) (fun j hj => h.ord2 (by omega) hh.1) (fun j hj hj2 => h.ord (by omega) hj2) (fun x h5 h6 => mem_iff_pc.2 ⟨r, hh.1, by omega, h6⟩)
  · rw [if_neg hh]
    refine key _ _ (Int.le_refl _) l1 (fun j hj => s1' j hj) (fun j hj hj2 => ?_) (fun x h5 h6 => by omega)
    rw [e1] at hh
    unfold leV at hh
    simp only [Bool.and_eq_true, decide_eq_true_eq, not_and] at hh
    have := hh (by omega)
    have := h.ord1 hj hj2
    omega
/-- What is in it tells the pieces. -/
theorem good_uniq : ∀ {l m : List (Int × Int)}, Good l → Good m → (∀ x, Mem l x ↔ Mem m x) → l = m
  | [], [], _, _, _ => rfl
  | [], q :: m, _, hm, h => by
    have := (h q.1).2 ⟨q, by simp, Int.le_refl _, hm.one q (by simp)⟩
    rw [mem_nil] at this; exact this.elim
  | p :: l, [], hl, _, h => by
    have := (h p.1).1 ⟨p, by simp, Int.le_refl _, hl.one p (by simp)⟩
    rw [mem_nil] at this; exact this.elim
  | p :: l, q :: m, hl, hm, h => by
    have hp := hl.one p (by simp)
    have hq := hm.one q (by simp)
    have pl := List.pairwise_cons.1 hl.pw
    have qm := List.pairwise_cons.1 hm.pw
    have lo : ∀ (p : Int × Int) (l : List (Int × Int)), (∀ a ∈ l, p.2 < a.1) → p.1 < p.2 → ∀ x, Mem (p :: l) x → p.1 ≤ x := fun p l h1 h2 x hx => by
      obtain ⟨a, ha, g1, g2⟩ := hx
      rcases List.mem_cons.1 ha with rfl | ha
      · exact g1
      · have := h1 a ha; omega
    have e1 : p.1 = q.1 := by
      have a := lo p l pl.1 hp q.1 ((h q.1).2 ⟨q, by simp, Int.le_refl _, hq⟩)
      have b := lo q m qm.1 hq p.1 ((h p.1).1 ⟨p, by simp, Int.le_refl _, hp⟩)
      omega
    have no : ∀ (p : Int × Int) (l : List (Int × Int)), (∀ a ∈ l, p.2 < a.1) → ¬ Mem (p :: l) p.2 := fun p l h1 hx => by
      obtain ⟨a, ha, g1, g2⟩ := hx
      rcases List.mem_cons.1 ha with rfl | ha
      · omega
      · have := h1 a ha; omega
    have e2 : p.2 = q.2 := by
      rcases Int.lt_trichotomy p.2 q.2 with c | c | c
      · exact (no p l pl.1 ((h p.2).2 ⟨q, by simp, by omega, c⟩)).elim
      · exact c
      · exact (no q m qm.1 ((h q.2).1 ⟨p, by simp, by omega, c⟩)).elim
    have e : p = q := Prod.ext e1 e2
    subst e
    have tl : ∀ (l : List (Int × Int)), (∀ a ∈ l, p.2 < a.1) → ∀ x, Mem l x ↔ Mem (p :: l) x ∧ p.2 ≤ x := fun l h1 x => by
      constructor
      · rintro ⟨a, ha, g1, g2⟩
        have := h1 a ha
        exact ⟨⟨a, by simp [ha], g1, g2⟩, by omega⟩
      · rintro ⟨⟨a, ha, g1, g2⟩, g3⟩
        rcases List.mem_cons.1 ha with rfl | ha
        · omega
        · exact ⟨a, ha, g1, g2⟩
    congr 1
    refine good_uniq ⟨fun a ha => hl.one a (by simp [ha]), pl.2⟩ ⟨fun a ha => hm.one a (by simp [ha]), qm.2⟩ fun x => ?_
    rw [tl l pl.1, tl m qm.1, h]
/-! The document's pieces: of what is in a row of signs from -200 on. -/
def setLast (l : List (Int × Int)) (z : Int) : List (Int × Int) := l.set (l.length - 1) ((pc l (l.length - 1)).1, z)
def refK (f : Nat → Bool) : Nat → List (Int × Int)
  | 0 => []
  | k + 1 => if f k = true then (if (decide (0 < k) && f (k - 1)) = true then setLast (refK f k) ((k : Int) - 200 + 1) else refK f k ++ [((k : Int) - 200, (k : Int) - 200 + 1)]) else refK f k
theorem refK_spec (f : Nat → Bool) : ∀ k, Good (refK f k) ∧ (∀ x, Mem (refK f k) x ↔ ∃ j, j < k ∧ f j = true ∧ x = (j : Int) - 200) ∧ (∀ p ∈ refK f k, p.2 ≤ (k : Int) - 200) ∧ (0 < k → f (k - 1) = true → ∃ i a, refK f k = i ++ [(a, (k : Int) - 200)]) ∧ (0 < k → f (k - 1) = false → ∀ p ∈ refK f k, p.2 < (k : Int) - 200) ∧ (refK f k).length ≤ k
  | 0 => ⟨good_nil, fun x => by rw [refK, mem_nil]; constructor; exact fun h => h.elim; rintro ⟨j, h, _⟩; omega, fun p hp => by simp [refK] at hp, fun h => by omega, fun h => by omega, by simp [refK]⟩
  | k + 1 => by
    obtain ⟨h1, h2, h3, h4, h5, h6⟩ := refK_spec f k
    have hcast : ((k + 1 : Nat) : Int) = (k : Int) + 1 := by omega
    rw [hcast, Nat.add_sub_cancel]
    have split : ∀ x : Int, (∃ j, j < k + 1 ∧ f j = true ∧ x = (j : Int) - 200) ↔ (∃ j, j < k ∧ f j = true ∧ x = (j : Int) - 200) ∨ (f k = true ∧ x = (k : Int) - 200) := fun x => by
      constructor
      · rintro ⟨j, hj, hf, hx⟩
        by_cases e : j = k
        · subst e; exact .inr ⟨hf, hx⟩
        · exact .inl ⟨j, by omega, hf, hx⟩
      · rintro (⟨j, hj, hf, hx⟩ | ⟨hf, hx⟩)
        · exact ⟨j, by omega, hf, hx⟩
        · exact ⟨k, by omega, hf, hx⟩
    unfold refK
    by_cases c1 : f k = true
    · rw [if_pos c1]
      by_cases c2 : (decide (0 < k) && f (k - 1)) = true
      · rw [if_pos c2]
        rw [Bool.and_eq_true, decide_eq_true_eq] at c2
        obtain ⟨i, a, e⟩ := h4 c2.1 c2.2
        have el : setLast (refK f k) ((k : Int) - 200 + 1) = i ++ [(a, (k : Int) - 200 + 1)] := by
          rw [e]; unfold setLast pc
          simp
        rw [el]
        rw [e] at h1 h2 h3 h6
        obtain ⟨g1, g2, g3⟩ := good_append.1 h1
        have g4 := g2.one (a, (k : Int) - 200) (by simp)
        simp only at g4
        refine ⟨good_append.2 ⟨g1, good_one (by simp only; omega), fun p hp q hq => by simp at hq; subst hq; exact g3 p hp (a, (k : Int) - 200) (by simp)⟩, fun x => ?_, fun p hp => ?_, fun _ _ => ⟨i, a, by rw [show (k : Int) + 1 - 200 = (k : Int) - 200 + 1 by omega]⟩, (fun _ hf => absurd hf (by simp [c1])), by simp at h6 ⊢; omega⟩
        · rw [split, ← h2, mem_append, mem_append, mem_one, mem_one]
          simp only
          constructor
          · rintro (h | ⟨a1, a2⟩)
            · exact .inl (.inl h)
            · by_cases c : x < (k : Int) - 200
              · exact .inl (.inr ⟨a1, c⟩)
              · exact .inr ⟨c1, by omega⟩
          · rintro ((h | ⟨a1, a2⟩) | ⟨_, hx⟩)
            · exact .inl h
            · exact .inr ⟨a1, by omega⟩
            · exact .inr ⟨by omega, by omega⟩
        · rcases List.mem_append.1 hp with hp | hp
          · have := h3 p (by simp [hp]); omega
          · simp at hp; subst hp; simp only; omega
      · rw [if_neg c2]
        have h7 : ∀ p ∈ refK f k, p.2 < (k : Int) - 200 := fun p hp => by
          rcases Nat.eq_zero_or_pos k with h0 | h0
          · subst h0; simp [refK] at hp
          · refine h5 h0 ?_ p hp
            rw [decide_eq_true h0, Bool.true_and] at c2
            simpa using c2
        refine ⟨good_append.2 ⟨h1, good_one (by simp only; omega), fun p hp q hq => by simp at hq; subst hq; exact h7 p hp⟩, fun x => ?_, fun p hp => ?_, fun _ _ => ⟨refK f k, (k : Int) - 200, by rw [show (k : Int) + 1 - 200 = (k : Int) - 200 + 1 by omega]⟩, (fun _ hf => absurd hf (by simp [c1])), by simp; omega⟩
        · rw [split, ← h2, mem_append, mem_one]
          simp only
          constructor
          · rintro (h | ⟨a1, a2⟩)
            · exact .inl h
            · exact .inr ⟨c1, by omega⟩
          · rintro (h | ⟨_, hx⟩)
            · exact .inl h
            · exact .inr ⟨by omega, by omega⟩
        · rcases List.mem_append.1 hp with hp | hp
          · have := h3 p hp; omega
          · simp at hp; subst hp; simp only; omega
    · rw [if_neg c1]
      have c1' : f k = false := by simpa using c1
      refine ⟨h1, fun x => ?_, (fun p hp => by have := h3 p hp; omega), (fun _ hf => absurd hf (by simp [c1'])), (fun _ _ p hp => by have := h3 p hp; omega), by omega⟩
      rw [split, ← h2]
      constructor
      · exact fun h => .inl h
      · rintro (h | ⟨hf, _⟩)
        · exact h
        · exact (c1 hf).elim
end Go.Proofs.Ytjihhpipdhhjkaa
