/-
  Layer 18: the floor never falls; who is active is at it. No program in sight.
-/
import Derived.Test.YtookaodcdglhfaaDoorSetS
namespace Go.Proofs.YtookaodcdglhfaaDoor
structure Deed where
  k : Int
  p : Int
  w : Int
  s : Nat
def stepG (S : Lg) (d : Deed) : Lg := if d.k % 4 = 2 then settleF S d.s else if d.k % 4 = 3 then weighF S d.p d.w else chargeF S d.p
structure InvG (S : Lg) : Prop where
  ok : OkG S
  at' : ∀ k, k < S.l.length → S.act.testBit k = true → S.fl ≤ (pt S.l k).v
theorem clamp_ge {v f r : Int} (hf : U64 f) (hr : U64 r) : f ≤ clampF v f r := by
  have := (add_ge hf hr).1
  unfold clampF
  split
  · omega
  · split
    · exact this
    · rename_i h _; simp at h; exact h
theorem InvG.charge {S : Lg} (h : InvG S) (p : Int) : InvG (chargeF S p) := by
  refine ⟨h.ok.charge p, ?_⟩
  unfold chargeF
  split
  · rename_i e
    obtain ⟨h0, h1⟩ := isP_iff.1 e
    intro k hk ha
    simp only at hk ha ⊢
    rw [List.length_set] at hk
    have := h.at' k hk ha
    by_cases c : p.toNat = k
    · subst c
      rw [pt_set_self hk]
      have h2 := (add_ge (h.ok.at hk).1 (lock_u64 (pt S.l p.toNat).w)).1
      show S.fl ≤ addF (pt S.l p.toNat).v (lockF (pt S.l p.toNat).w)
      omega
    · rw [pt_set_ne c]; exact this
  · exact h.at'
theorem charge_fl (S : Lg) (p : Int) : (chargeF S p).fl = S.fl := by unfold chargeF; split <;> rfl
theorem weigh_fl (S : Lg) (p w : Int) : (weighF S p w).fl = S.fl := by unfold weighF; split <;> rfl
theorem InvG.weigh {S : Lg} (h : InvG S) (p w : Int) : InvG (weighF S p w) := by
  refine ⟨h.ok.weigh p w, ?_⟩
  unfold weighF
  split
  · intro k hk ha
    simp only at hk ha ⊢
    rw [List.length_set] at hk
    have := h.at' k hk ha
    by_cases c : p.toNat = k
    · subst c
      rw [pt_set_self hk]
      unfold weighP
      split
      · exact this
      · exact clamp_ge h.ok.fl (wrap_u64_word _)
    · rw [pt_set_ne c]; exact this
  · exact h.at'
theorem settle_len (S : Lg) (s : Nat) : (settleF S s).l.length = S.l.length := ris_length S _
theorem settle_act (S : Lg) (s : Nat) {k : Nat} (hk : k < S.l.length) : (settleF S s).act.testBit k = s.testBit k := by
  show (nowF S.l.length s).testBit k = _
  rw [now_bit]; simp [hk]
theorem settle_pt (S : Lg) (s : Nat) {k : Nat} (hk : k < S.l.length) : pt (settleF S s).l k = if s.testBit k && !(S.act.testBit k) then setP S.sl S.cr S.fl (pt S.l k) else pt S.l k := ris_pt S _ hk
/-- Whoever is active behind it was at the floor ahead of it. -/
theorem settle_old {S : Lg} (h : InvG S) (s : Nat) {k : Nat} (hk : k < S.l.length) (ha : s.testBit k = true) : S.fl ≤ (pt (settleF S s).l k).v := by
  rw [settle_pt S s hk, ha]
  cases hb : S.act.testBit k with
  | true => exact h.at' k hk hb
  | false => exact clamp_ge h.ok.fl (slack_u64 _ _ _)
theorem settle_fl (S : Lg) (s : Nat) : S.fl ≤ (settleF S s).fl := by
  show S.fl ≤ floorF _ S.fl _
  unfold floorF
  split
  · exact Int.le_refl _
  · split <;> omega
theorem InvG.settle {S : Lg} (h : InvG S) (s : Nat) : InvG (settleF S s) := by
  refine ⟨h.ok.settle s, fun k hk ha => ?_⟩
  rw [settle_len] at hk
  have hl : leastF (settleF S s).l (nowF S.l.length s) = leastK (settleF S s).l (fun i => (nowF S.l.length s).testBit i) (settleF S s).l.length := rfl
  obtain ⟨g1, g2⟩ := leastK_is (settleF S s).l (fun i => (nowF S.l.length s).testBit i) (settleF S s).l.length (Nat.le_refl _)
  have ho := settle_old h s hk (by rw [← settle_act S s hk]; exact ha)
  show floorF (settleF S s).l S.fl (nowF S.l.length s) ≤ _
  unfold floorF
  rw [hl]
  split
  · exact ho
  · rename_i j hj
    have := (g2 j hj).2.2.1 k (by rw [settle_len]; exact hk) ha
    split
    · exact this
    · exact ho
theorem InvG.step {S : Lg} (h : InvG S) (d : Deed) : InvG (stepG S d) := by
  unfold stepG
  split
  · exact h.settle _
  · split
    · exact h.weigh _ _
    · exact h.charge _
theorem settle_now {S : Lg} (h : InvG S) (s : Nat) {k : Nat} (hk : k < S.l.length) (ha : s.testBit k = true) : (settleF S s).fl ≤ (pt (settleF S s).l k).v :=
  (h.settle s).at' k (by rw [settle_len]; exact hk) (by rw [settle_act S s hk]; exact ha)
end Go.Proofs.YtookaodcdglhfaaDoor
