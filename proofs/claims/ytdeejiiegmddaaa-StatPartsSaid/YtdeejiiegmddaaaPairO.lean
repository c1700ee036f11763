/-
  Objects of the call's own, each with its blocks; pairs of such; what an act on the one leaves of the other. Plain laws. No condition.
-/
import Derived.Test.YtdeejiiegmddaaaObj
namespace Go
open Go.RowKit
abbrev Ob := World → (Nat → Prop) → Prop
/-- An object: its blocks lie from B on; it stays as long as these do. -/
structure IsO (B : Nat) (O : Ob) : Prop where
  kept : ∀ {W W' : World} {F X : Nat → Prop}, O W F → Kept X W W' → (∀ k, F k → ¬ X k) → O W' F
  foot : ∀ {W : World} {F : Nat → Prop} {k : Nat}, O W F → F k → B ≤ k ∧ k < W.heap.size
/-- Behind an act on it. -/
def After (O : Ob) (F : Nat → Prop) (W W' : World) : Prop := ∃ F', O W' F' ∧ (∀ k, F' k → F k ∨ W.heap.size ≤ k) ∧ Kept F W W'
/-- One act behind the other. -/
theorem After.next {O : Ob} {F F1 : Nat → Prop} {W W1 W2 : World} (h1 : ∀ k, F1 k → F k ∨ W.heap.size ≤ k) (h2 : Kept F W W1) (h : After O F1 W1 W2) : After O F W W2 := by
  obtain ⟨F', a, b, c⟩ := h
  have hs := h2.size
  refine ⟨F', a, fun k hk => ?_, h2.trans' c (fun i hi hF => ?_)⟩
  · rcases b k hk with e | e
    · exact h1 k e
    · exact .inr (Nat.le_trans hs e)
  · rcases h1 i hF with e | e
    · exact e
    · omega
def Pr (O1 O2 : Ob) : Ob := fun W F => ∃ F1 F2, O1 W F1 ∧ O2 W F2 ∧ (∀ k, F1 k → ¬ F2 k) ∧ ∀ k, F k ↔ F1 k ∨ F2 k
section
variable {P : Program} {B : Nat} {O O' O1 O2 O1' O2' : Ob} {W W' w8 : World} {F X : Nat → Prop} {fn : FuncId} {args : Array Value} {r : Value}
theorem IsO.far (h : IsO B O) (hO : O W F) (hb : Below W.heap.size W W') : O W' F := h.kept hO (Kept.of_below hb (fun _ => False)) (fun _ _ h => h)
theorem Pr.isO (h1 : IsO B O1) (h2 : IsO B O2) : IsO B (Pr O1 O2) :=
  ⟨fun ⟨F1, F2, a1, a2, a3, a4⟩ hk hX => ⟨F1, F2, h1.kept a1 hk (fun k h => hX k ((a4 k).2 (.inl h))), h2.kept a2 hk (fun k h => hX k ((a4 k).2 (.inr h))), a3, a4⟩,
   fun ⟨F1, F2, a1, a2, a3, a4⟩ hF => by
    rcases (a4 _).1 hF with h | h
    · exact h1.foot a1 h
    · exact h2.foot a2 h⟩
theorem Pr.swap (h : Pr O1 O2 W F) : Pr O2 O1 W F := by
  obtain ⟨F1, F2, a1, a2, a3, a4⟩ := h
  exact ⟨F2, F1, a2, a1, fun k x y => a3 k y x, fun k => (a4 k).trans Or.comm⟩
theorem After.swap (h : After (Pr O1 O2) F W W') : After (Pr O2 O1) F W W' := by
  obtain ⟨F', a, b, c⟩ := h
  exact ⟨F', a.swap, b, c⟩
theorem Pr.act1 (h2 : IsO B O2) (h : Pr O1 O2 W F) (hc : ∀ F1, O1 W F1 → Calls P fn args W (fun e w' => e = .returned r ∧ After O1' F1 W w')) :
    Calls P fn args W (fun e w' => e = .returned r ∧ After (Pr O1' O2) F W w') := by
  obtain ⟨F1, F2, a1, a2, a3, a4⟩ := h
  refine (hc F1 a1).mono ?_
  rintro _ w' ⟨rfl, F1', b1, b2, b3⟩
  refine ⟨rfl, fun k => F1' k ∨ F2 k, ⟨F1', F2, b1, h2.kept a2 b3 (fun k x y => a3 k y x), fun k x y => ?_, fun k => Iff.rfl⟩, fun k hk => ?_, b3.mono (fun k _ h => (a4 k).2 (.inl h))⟩
  · rcases b2 k x with h | h
    · exact a3 k h y
    · have := (h2.foot a2 y).2; omega
  · rcases hk with hk | hk
    · exact (b2 k hk).imp (fun h => (a4 k).2 (.inl h)) id
    · exact .inl ((a4 k).2 (.inr hk))
theorem Pr.act2 (h1 : IsO B O1) (h : Pr O1 O2 W F) (hc : ∀ F2, O2 W F2 → Calls P fn args W (fun e w' => e = .returned r ∧ After O2' F2 W w')) :
    Calls P fn args W (fun e w' => e = .returned r ∧ After (Pr O1 O2') F W w') :=
  (Pr.act1 h1 h.swap hc).mono fun _ _ g => ⟨g.1, g.2.swap⟩
/-- The object, and all else that lay there. -/
structure Kp (B : Nat) (O : Ob) (X : Nat → Prop) (w8 W : World) : Prop where
  sz : B ≤ w8.heap.size
  kp : Kept X w8 W
  ex : ∃ F, O W F ∧ ∀ k, F k → X k ∨ w8.heap.size ≤ k
theorem Kp.size (h : Kp B O X w8 W) : B ≤ W.heap.size := Nat.le_trans h.sz h.kp.size
theorem Kp.far (hO : IsO B O) (h : Kp B O X w8 W) (hb : Below W.heap.size W W') : Kp B O X w8 W' := by
  obtain ⟨F, a, b⟩ := h.ex
  exact ⟨h.sz, h.kp.trans (Kept.of_below hb X), F, hO.far a hb, b⟩
theorem Kp.act (h : Kp B O X w8 W) (hc : ∀ F, O W F → Calls P fn args W (fun e w' => e = .returned r ∧ After O' F W w')) :
    Calls P fn args W (fun e w' => e = .returned r ∧ Kp B O' X w8 w') := by
  obtain ⟨F, a, b⟩ := h.ex
  refine (hc F a).mono ?_
  rintro _ w' ⟨rfl, F', b1, b2, b3⟩
  have hs := h.kp.size
  refine ⟨rfl, h.sz, h.kp.trans' b3 (fun i hi hF => ?_), F', b1, fun k hk => ?_⟩
  · rcases b i hF with g | g
    · exact g
    · omega
  · rcases b2 k hk with g | g
    · exact b k g
    · exact .inr (Nat.le_trans hs g)
/-- From here on, and back. -/
theorem Kp.re (hO : IsO B O) (h : Kp B O X w8 W) (hb : Below W.heap.size W W') : ∃ F : Nat → Prop, (∀ k, F k → (X k ∨ w8.heap.size ≤ k) ∧ B ≤ k ∧ k < W.heap.size) ∧ Kp B O F W' W' ∧ ∀ O' W'', Kp B O' F W' W'' → Kp B O' X w8 W'' := by
  obtain ⟨F, a, b⟩ := h.ex
  have hs := h.kp.size
  have hs2 := hb.size
  refine ⟨F, fun k hk => ⟨b k hk, hO.foot a hk⟩, ⟨Nat.le_trans h.size hs2, Kept.refl _ _, F, hO.far a hb, fun k hk => .inl hk⟩, fun O' W'' g => ?_⟩
  obtain ⟨F', c, d⟩ := g.ex
  refine ⟨h.sz, (h.kp.trans (Kept.of_below hb X)).trans' g.kp (fun i hi hF => ?_), F', c, fun k hk => ?_⟩
  · rcases b i hF with e | e
    · exact e
    · omega
  · rcases d k hk with e | e
    · exact b k e
    · exact .inr (by omega)
theorem Kp.map {O' : Ob} (h : Kp B O X w8 W) (hm : ∀ F, O W F → O' W F) : Kp B O' X w8 W := by
  obtain ⟨F, a, b⟩ := h.ex
  exact ⟨h.sz, h.kp, F, hm F a, b⟩
end
end Go
