/-
  Layer 05: an arena of the call's own in memory. No condition.
-/
import Derived.Test.YtifdogmlaengoaaAreS
import Derived.Test.YtifdogmlaengoaaTabSet
import Derived.Test.YtifdogmlaengoaaLift
import Derived.Test.YtifdogmlaengoaaRows
import Derived.WalkKit
import Derived.WalkSpells
import Derived.WalkLawsBesides
import Derived.BigQuiet
import Derived.Deep.CutRange
import Derived.StillTailTactics
import Derived.Deep.RegionLaw
namespace Go.Proofs.Ytifdogmlaengoaa
open Go.RowKit
def slV {α : Type} (f : α → List Value) (s : Slot α) : List Value := f s.1 ++ [.bool s.2.1, .int .i64 s.2.2]
theorem slV_length {α : Type} {f : α → List Value} {c : Nat} (hf : ∀ x, (f x).length = c) (s : Slot α) : (slV f s).length = c + 2 := by simp [slV, hf]
/-- All blocks are kept but an object's, and a row's. -/
def KeptA (b : Nat) (G : Option Nat) (w w' : World) : Prop := Kept (fun k => k = b ∨ some k = G) w w'
theorem keptA_below {w w' : World} (h : Below w.heap.size w w') (b : Nat) (G : Option Nat) : KeptA b G w w' := Kept.of_below h _
theorem keptA_set (w : World) (b o : Nat) (u : Value) (G : Option Nat) : KeptA b G w (w.setCell ⟨b, o, none⟩ u) := (Kept.refl _ w).setCell (p := ⟨b, o, none⟩) (.inr (.inl rfl)) u
theorem KeptA.trans {b : Nat} {G : Option Nat} {w w' w'' : World} (h : KeptA b G w w') (k : KeptA b G w' w'') : KeptA b G w w'' := Kept.trans h k
theorem keptA_grown {b : Nat} {G : Option Nat} {w w' : World} (h : w.grownBy w' G) : KeptA b G w w' := ⟨h.os, h.tape, h.output, h.size, fun k hk hn => h.block k hk (fun e => hn (.inr e))⟩
theorem keptA_new {b : Nat} {G : Option Nat} {w w' : World} (h : KeptA b G w w') {p : Addr} (hp : w.heap.size ≤ p.block) (u : Value) : KeptA b G w (w'.setCell p u) := Kept.setCell h (.inl hp) u
/-- The product's object, of the call's own; G: the block of its row. -/
structure ArAt {α : Type} (tA tS : TypeId) (f : α → List Value) (c : Nat) (B : Nat) (w : World) (b : Nat) (G : Option Nat) (most : Int) (S : Ar α) : Prop where
  big : B ≤ b
  ex : ∃ A cp, Rec w b tA #[.int .i64 most, .slice A S.l.length cp, .int .i64 S.free, .int .i64 S.n] ∧ w.ownsRow B tS (c + 2) (.slice A S.l.length cp) S.l.length (tab (slV f) S.l) ∧ (Value.slice A S.l.length cp).ownBlock = G
/-- The row is as it was, or new. -/
def NewOr (w : World) (G G' : Option Nat) : Prop := G' = G ∨ ∃ g, G' = some g ∧ w.heap.size ≤ g
section
variable {α : Type} {tA tS : TypeId} {f : α → List Value} {c B : Nat} {w w' : World} {b : Nat} {G : Option Nat} {most : Int} {S : Ar α}
theorem ArAt.below (h : ArAt tA tS f c B w b G most S) (hb : Below w.heap.size w w') : ArAt tA tS f c B w' b G most S := by
  obtain ⟨A, cp, h1, h2, h3⟩ := h.ex
  exact ⟨h.big, A, cp, h1.below hb (Nat.le_refl _), own_below h2 hb (Nat.le_refl _), h3⟩
theorem ArAt.lt (h : ArAt tA tS f c B w b G most S) : b < w.heap.size := by
  obtain ⟨A, cp, h1, h2, h3⟩ := h.ex
  exact Rec.lt h1
theorem ArAt.row (h : ArAt tA tS f c B w b G most S) {g : Nat} (hg : G = some g) : B ≤ g ∧ g < w.heap.size := by
  obtain ⟨A, cp, h1, h2, h3⟩ := h.ex
  exact h2.lt g (h3.trans hg)
theorem ArAt.kept {X : Nat → Prop} (h : ArAt tA tS f c B w b G most S) (hk : Kept X w w') (hb : ¬ X b) (hG : ∀ g, G = some g → ¬ X g) : ArAt tA tS f c B w' b G most S := by
  obtain ⟨A, cp, h1, h2, h3⟩ := h.ex
  refine ⟨h.big, A, cp, h1.kept hk hb, ?_, h3⟩
  refine ⟨h2.1, ?_⟩
  rcases h2.2 with h4 | ⟨g, cap, cur, hv, hg, hh, hr⟩
  · exact .inl h4
  · exact .inr ⟨g, cap, cur, hv, hg, (hk.block g (Array.getElem?_eq_some_iff.1 hh).1 (hG g (by rw [← h3, hv]; rfl))).trans hh, hr⟩
end
def PutP (tA tS : TypeId) {α : Type} (f : α → List Value) (z : α) (c B b : Nat) (G : Option Nat) (most : Int) (S : Ar α) (v : α) (w : World) (e : Ending) (w' : World) : Prop :=
  e = .returned (.tuple #[.int .i64 (putA z most S v).2.1, .int .i64 (putA z most S v).2.2]) ∧ (∃ G', ArAt tA tS f c B w' b G' most (putA z most S v).1 ∧ NewOr w G G') ∧ Below B w w' ∧ KeptA b G w w'
section
variable {α : Type} {tA tS : TypeId} {f : α → List Value} {c B : Nat} {w w' : World} {b : Nat} {most : Int} {S : Ar α}
/-- What its cells read as. -/
structure ArRd (tA tS : TypeId) (f : α → List Value) (c : Nat) (w : World) (b : Nat) (most : Int) (S : Ar α) : Prop where
  ex : ∃ A cp, Rec w b tA #[.int .i64 most, .slice A S.l.length cp, .int .i64 S.free, .int .i64 S.n] ∧ Cells w A (tab (slV f) S.l)
theorem ArAt.rd {G : Option Nat} (h : ArAt tA tS f c B w b G most S) : ArRd tA tS f c w b most S := by
  obtain ⟨A, cp, h1, h2, _⟩ := h.ex
  exact ⟨A, cp, h1, Cells.of_own h2⟩
theorem ArRd.below (h : ArRd tA tS f c w b most S) (hb : Below w.heap.size w w') : ArRd tA tS f c w' b most S := by
  obtain ⟨A, cp, h1, h2⟩ := h.ex
  exact ⟨A, cp, h1.below hb (Nat.le_refl _), h2.below hb⟩
end
def ChP {α : Type} (tA tS : TypeId) (f : α → List Value) (c B b : Nat) (G : Option Nat) (most : Int) (S' : Ar α) (r : Value) (w : World) (e : Ending) (w' : World) : Prop :=
  e = .returned r ∧ ArAt tA tS f c B w' b G most S' ∧ Below B w w' ∧ KeptA b G w w'
theorem tab_pre {α : Type} {f : α → List Value} {c : Nat} (hf : ∀ x, (f x).length = c) (hc : 0 < c) (l : List α) (k : Nat) (hk : k < l.length) (x y : α) (old new rest : List Value) (hx : l[k]? = some x) (ex : f x = old ++ rest) (ey : f y = new ++ rest) (hl : old.length = new.length) : setL (tab f l) (k * c) new = tab f (l.set k y) := by
  rw [← tab_set hf hc l k y hk]
  have hkc : (k + 1) * c ≤ l.length * c := Nat.mul_le_mul_right _ hk
  rw [Nat.add_mul] at hkc
  have hy := hf y
  have hx2 := hf x
  rw [ey, List.length_append] at hy
  apply List.ext_getElem?
  intro j
  rw [setL_get _ _ _ (by rw [tab_length hf]; omega), setL_get _ _ _ (by rw [hf, tab_length hf]; omega), ey, List.length_append]
  by_cases h1 : k * c ≤ j ∧ j < k * c + new.length
  · rw [if_pos h1, if_pos (by omega), List.getElem?_append_left (by omega)]
  · rw [if_neg h1]
    by_cases h2 : k * c ≤ j ∧ j < k * c + (new.length + rest.length)
    · rw [if_pos h2]
      have h3 := tab_get hf l k x (j - k * c) hx (by omega)
      rw [show k * c + (j - k * c) = j by omega] at h3
      rw [h3, ex, List.getElem?_append_right (by omega), List.getElem?_append_right (by omega), hl]
    · rw [if_neg h2]
theorem apart_or {v : Value} {g n cap sz : Nat} (h : ∀ v' : Value, Apart v' v → (∀ k, v'.ownBlock = some k → k < sz) → Apart v' (.slice (some ⟨g, 0, none⟩) n cap)) : v.ownBlock = some g ∨ sz ≤ g := by
  by_cases h1 : v.ownBlock = some g
  · exact .inl h1
  · refine .inr (Nat.le_of_not_lt fun h2 => ?_)
    rcases h (.slice (some ⟨g, 0, none⟩) 1 1) (.inr (.inr (fun e => h1 e.symm))) (fun k hk => by simp only [Value.ownBlock, Option.some.injEq] at hk; omega) with h3 | h3 | h3
    · simp [Value.ownBlock] at h3
    · simp [Value.ownBlock] at h3
    · exact h3 rfl
def mostA (most : Int) : Int := min (max most 0) 4096
end Go.Proofs.Ytifdogmlaengoaa
