/-
  Layer 18: parties, and what is done to them. No program in sight.
-/
import Derived.Test.YtookaodcdglhfaaDoorUnit
import Derived.Test.YtookaodcdglhfaaDoorIdset
namespace Go.Proofs.YtookaodcdglhfaaDoor
open Go.RowKit
structure Pt where
  w : Int
  v : Int
  h : Int
structure Lg where
  l : List Pt
  sl : Int
  cr : Int
  fl : Int
  act : Nat
def pt (l : List Pt) (k : Nat) : Pt := l[k]?.getD ⟨0, 0, 0⟩
theorem pt_at {l : List Pt} {k : Nat} (h : k < l.length) : l[k]? = some (pt l k) := by unfold pt; rw [List.getElem?_eq_getElem h]; rfl
theorem pt_set_self {l : List Pt} {k : Nat} (h : k < l.length) (x : Pt) : pt (l.set k x) k = x := by unfold pt; rw [List.getElem?_set_self h]; rfl
theorem pt_set_ne {l : List Pt} {k i : Nat} (h : k ≠ i) (x : Pt) : pt (l.set k x) i = pt l i := by unfold pt; rw [List.getElem?_set_ne h]
def isP (l : List Pt) (p : Int) : Bool := decide (0 ≤ p) && decide (p < l.length)
theorem isP_iff {l : List Pt} {p : Int} : isP l p = true ↔ 0 ≤ p ∧ p < l.length := by simp [isP]
/-- What is true of each ledger. -/
structure OkG (S : Lg) : Prop where
  len : S.l.length ≤ 8
  each : ∀ x ∈ S.l, U64 x.v ∧ 1 ≤ x.w ∧ x.w ≤ 16
  sl : 1 ≤ S.sl ∧ S.sl ≤ 32
  cr : 1 ≤ S.cr ∧ S.cr ≤ 32
  fl : U64 S.fl
  act : S.act < 2 ^ S.l.length
theorem OkG.at {S : Lg} (h : OkG S) {k : Nat} (hk : k < S.l.length) : U64 (pt S.l k).v ∧ 1 ≤ (pt S.l k).w ∧ (pt S.l k).w ≤ 16 := h.each _ (List.mem_of_getElem? (pt_at hk))
theorem OkG.put {S : Lg} (h : OkG S) (k : Nat) (x : Pt) (hx : U64 x.v ∧ 1 ≤ x.w ∧ x.w ≤ 16) : OkG { S with l := S.l.set k x } :=
  ⟨by simpa using h.len, fun y hy => by rcases List.mem_or_eq_of_mem_set hy with hy | rfl; exact h.each _ hy; exact hx, h.sl, h.cr, h.fl, by simpa using h.act⟩
theorem lock_u64 (n : Int) : U64 (lockF n) := by have := lock_in n; exact ⟨by omega, by omega⟩
theorem add_u64 {a b : Int} (ha : U64 a) (hb : U64 b) : U64 (addF a b) := (add_ge ha hb).2
/-! A tick is charged. -/
def chargeP (x : Pt) : Pt := ⟨x.w, addF x.v (lockF x.w), wrap64 (x.h + 1)⟩
def chargeF (S : Lg) (p : Int) : Lg := if isP S.l p then { S with l := S.l.set p.toNat (chargeP (pt S.l p.toNat)) } else S
theorem OkG.charge {S : Lg} (h : OkG S) (p : Int) : OkG (chargeF S p) := by
  unfold chargeF
  split
  · rename_i e
    obtain ⟨h0, h1⟩ := isP_iff.1 e
    have := h.at (k := p.toNat) (by omega)
    exact h.put _ _ ⟨add_u64 this.1 (lock_u64 _), this.2⟩
  · exact h
/-! Another weight. -/
def reach (w sl : Int) : Int := IntKind.u64.wrap (lockF w * sl)
theorem wrap_u64_word (x : Int) : U64 (IntKind.u64.wrap x) := by rw [IntKind.wrap_u64]; exact ⟨by omega, by omega⟩
theorem clamp_u64 {v f r : Int} (hv : U64 v) (hf : U64 f) (hr : U64 r) : U64 (clampF v f r) := by
  have := (add_ge hf hr).2
  unfold clampF
  split
  · exact hf
  · split
    · exact this
    · exact hv
def weighP (sl fl w : Int) (x : Pt) : Pt := if bringF w 1 16 = x.w then x else ⟨bringF w 1 16, clampF x.v fl (reach (bringF w 1 16) sl), x.h⟩
def weighF (S : Lg) (p w : Int) : Lg := if isP S.l p then { S with l := S.l.set p.toNat (weighP S.sl S.fl w (pt S.l p.toNat)) } else S
theorem OkG.weigh {S : Lg} (h : OkG S) (p w : Int) : OkG (weighF S p w) := by
  unfold weighF
  split
  · rename_i e
    obtain ⟨h0, h1⟩ := isP_iff.1 e
    have := h.at (k := p.toNat) (by omega)
    refine h.put _ _ ?_
    unfold weighP
    split
    · exact this
    · exact ⟨clamp_u64 this.1 h.fl (wrap_u64_word _), bring_in w 1 16 (by omega)⟩
  · exact h
/-! The least of a set. -/
def encB : Option Nat → Int | none => -1 | some j => j
def stepL (l : List Pt) (b : Option Nat) (p : Nat) : Option Nat :=
  if p < l.length ∧ (∀ j, b = some j → (pt l p).v < (pt l j).v) then some p else b
def leastK (l : List Pt) (has : Nat → Bool) : Nat → Option Nat
  | 0 => none
  | k + 1 => if has k then stepL l (leastK l has k) k else leastK l has k
theorem foldl_bits {β : Type} (f : β → Nat → β) (s : Nat) (z : β) : (bitsL s).foldl f z = (List.range 64).foldl (fun b i => if s.testBit i then f b i else b) z := by
  unfold bitsL; rw [List.foldl_filter]
theorem least_range (l : List Pt) (has : Nat → Bool) (n : Nat) : (List.range n).foldl (fun b i => if has i then stepL l b i else b) none = leastK l has (min n l.length) := by
  induction n with
  | zero => rw [Nat.zero_min]; rfl
  | succ n ih =>
    rw [List.range_succ, List.foldl_append, ih]
    by_cases h : n < l.length
    · rw [Nat.min_eq_left (by omega), Nat.min_eq_left (by omega)]; rfl
    · rw [Nat.min_eq_right (by omega), Nat.min_eq_right (by omega)]
      simp only [List.foldl_cons, List.foldl_nil]
      split
      · unfold stepL; rw [if_neg (by omega)]
      · rfl
def leastF (l : List Pt) (s : Nat) : Option Nat := leastK l (fun i => s.testBit i) l.length
theorem least_bits {l : List Pt} (hl : l.length ≤ 8) (s : Nat) : (bitsL s).foldl (stepL l) none = leastF l s := by
  rw [foldl_bits, least_range l (fun i => s.testBit i) 64, Nat.min_eq_right (by omega)]; rfl
theorem stepL_lt {l : List Pt} {b : Option Nat} {p j : Nat} (hb : ∀ j, b = some j → j < l.length) (h : stepL l b p = some j) : j < l.length := by
  unfold stepL at h
  split at h
  · rename_i e; injection h with h; subst h; exact e.1
  · exact hb j h
theorem foldl_least_lt {l : List Pt} : ∀ (ps : List Nat) (b : Option Nat), (∀ j, b = some j → j < l.length) → ∀ j, ps.foldl (stepL l) b = some j → j < l.length
  | [], b, hb, j, h => hb j h
  | p :: ps, b, hb, j, h => foldl_least_lt ps (stepL l b p) (fun i hi => stepL_lt hb hi) j h
/-- What the least is. -/
theorem leastK_is (l : List Pt) (has : Nat → Bool) : ∀ k, k ≤ l.length →
    (leastK l has k = none → ∀ i, i < k → has i = false) ∧
    (∀ j, leastK l has k = some j → j < k ∧ has j = true ∧ (∀ i, i < k → has i = true → (pt l j).v ≤ (pt l i).v) ∧ (∀ i, i < j → has i = true → (pt l j).v < (pt l i).v))
  | 0, _ => ⟨fun _ i h => by omega, fun j h => by cases h⟩
  | k + 1, hk => by
    obtain ⟨h1, h2⟩ := leastK_is l has k (by omega)
    have e : leastK l has (k + 1) = if has k then stepL l (leastK l has k) k else leastK l has k := rfl
    rw [e]
    by_cases hh : has k = true
    · rw [if_pos hh]
      unfold stepL
      by_cases hc : k < l.length ∧ (∀ j, leastK l has k = some j → (pt l k).v < (pt l j).v)
      · rw [if_pos hc]
        refine ⟨fun h => (by cases h), fun j hj => ?_⟩
        injection hj with hj; subst hj
        cases eb : leastK l has k with
        | none =>
          have := h1 eb
          refine ⟨by omega, hh, fun i hi hi2 => ?_, fun i hi hi2 => ?_⟩
          · by_cases q : i = k
            · subst q; exact Int.le_refl _
            · rw [this i (by omega)] at hi2; exact absurd hi2 (by simp)
          · rw [this i hi] at hi2; exact absurd hi2 (by simp)
        | some b =>
          obtain ⟨b1, b2, b3, b4⟩ := h2 b eb
          have hlt := hc.2 b eb
          refine ⟨by omega, hh, fun i hi hi2 => ?_, fun i hi hi2 => ?_⟩
          · by_cases q : i = k
            · subst q; exact Int.le_refl _
            · have := b3 i (by omega) hi2; omega
          · have := b3 i hi hi2; omega
      · rw [if_neg hc]
        cases eb : leastK l has k with
        | none => exact absurd ⟨by omega, fun j hj => absurd (eb.symm.trans hj) (by simp)⟩ hc
        | some b =>
          obtain ⟨b1, b2, b3, b4⟩ := h2 b eb
          refine ⟨fun h => (by cases h), fun j hj => ?_⟩
          injection hj with hj; subst hj
          refine ⟨by omega, b2, fun i hi hi2 => ?_, b4⟩
          by_cases q : i = k
          · subst q
            apply Int.not_lt.1
            intro hlt
            exact hc ⟨by omega, fun j hj => by rw [eb] at hj; injection hj with hj; subst hj; exact hlt⟩
          · exact b3 i (by omega) hi2
    · rw [if_neg hh]
      refine ⟨fun h i hi => ?_, fun j hj => ?_⟩
      · by_cases q : i = k
        · subst q; simpa using hh
        · exact h1 h i (by omega)
      · obtain ⟨b1, b2, b3, b4⟩ := h2 j hj
        refine ⟨by omega, b2, fun i hi hi2 => ?_, b4⟩
        by_cases q : i = k
        · subst q; exact absurd hi2 hh
        · exact b3 i (by omega) hi2
end Go.Proofs.YtookaodcdglhfaaDoor
