/-
  Maps from ints to ints, as functions: looked up, stored to, cut. Plain laws over any program. No condition.
-/
import Derived.Test.YtdeejiiegmddaaaObj
import Derived.Maps.Own
import Derived.Maps.OwnSet
import Derived.Maps.OwnOps
import Derived.Maps.Views
namespace Go
open Go.RowKit Go.Maps
def upd (f : Int → Option Int) (x : Int) (y : Option Int) (z : Int) : Option Int := if z = x then y else f z
/-- Block b is a map of c entries that reads as f. -/
def MapI (P : Program) (t : TypeId) (w : World) (b : Nat) (f : Int → Option Int) (c : Nat) : Prop :=
  ∃ D : DataW Unit, w.ownsMap P t (plainElem P t) b c D ∧ Maps.size D = c ∧
    ∀ x, Maps.has D (.int .i64 x) = (f x).isSome ∧ ∀ y, f x = some y → ∀ z, D.atKey (.int .i64 x) z = .lit (.int .i64 y)
theorem wf_of_i64 {n : Int} (h : I64 n) : (Lit.int .i64 n).wf = true := by
  simp [Lit.wf, IntKind.min, IntKind.max, IntKind.signed, IntKind.bits]
  exact h
theorem key_i64 (x : Int) : WideAt.IsKeyLit (.int .i64 x) := trivial
theorem World.ownsMap.exact {H : Type} {P : Program} {k : TypeId} {R : Value → Option (DataW H × List MemPlace)} {w : World} {b n : Nat} {D : DataW H} (h : w.ownsMap P k R b n D) : w.ownsMap P k R b (Maps.size D) D := by
  obtain ⟨es, clock, hb, F, hs, hD⟩ := h
  exact ⟨es, clock, hb, F, by rw [hD]; simp [Maps.size, length_sorted], hD⟩
section
variable {P : Program} {t m : TypeId} {w w' : World} {b c : Nat} {f : Int → Option Int} {x y : Int}
theorem MapI.made (w : World) : MapI P t (w.alloc (.map #[] 0)) w.heap.size (fun _ => none) 0 :=
  ⟨.map [], World.ownsMap_made w P t _, rfl, fun x => ⟨rfl, fun y h => by cases h⟩⟩
theorem MapI.lt (h : MapI P t w b f c) : b < w.heap.size := by obtain ⟨D, h1, _⟩ := h; exact h1.lt
theorem MapI.grown {row : Option Nat} (h : MapI P t w b f c) (hg : w.grownBy w' row) (hne : some b ≠ row) : MapI P t w' b f c := by
  obtain ⟨D, h1, h2, h3⟩ := h
  exact ⟨D, h1.kept hg hne, h2, h3⟩
theorem MapI.block (h : MapI P t w b f c) (hb : w'.heap[b]? = w.heap[b]?) : MapI P t w' b f c := by
  obtain ⟨D, ⟨es, clock, h1, F, hs, hD⟩, h2, h3⟩ := h
  exact ⟨D, ⟨es, clock, hb.trans h1, F, hs, hD⟩, h2, h3⟩
theorem MapI.below {B : Nat} (h : MapI P t w b f c) (hb : Below B w w') (hB : b < B) : MapI P t w' b f c := h.block (hb.block b hB)
theorem MapI.ext {g : Int → Option Int} (h : MapI P t w b f c) (hg : ∀ z, f z = g z) : MapI P t w b g c := by
  obtain ⟨D, h1, h2, h3⟩ := h
  exact ⟨D, h1, h2, fun x => by rw [← hg x]; exact h3 x⟩
/-- 'v, ok := m[k]'. -/
theorem MapI.look (h : MapI P t w b f c) (hm : P.underlying m = some (.map t t)) (ht : P.underlying t = some (.int .i64)) (hz : (zeroValue t).run P w = .ok (.int .i64 0) w) (hx : I64 x) :
    (Instr.lookup m (.map (some b)) (.int .i64 x) true).run P w = .ok (.tuple #[.int .i64 ((f x).getD 0), .bool (f x).isSome]) w := by
  obtain ⟨D, h1, h2, h3⟩ := h
  obtain ⟨v, ps, hrun, hv⟩ := h1.look_ok (int_keyed ht) hm hz (plainElem_int ht (by decide)) (keyOf_int_mk ht (wf_of_i64 hx))
  obtain ⟨d1, d2⟩ := h3 x
  rw [hrun, d1]
  obtain ⟨a, rfl, ha, _⟩ := plainElem_int_inv ht hv
  simp only [Prod.mk.injEq] at ha
  cases e : f x with
  | none =>
    rw [e] at d1
    have := ha.1
    rw [atKey_of_not_has d1] at this
    simp only [DataW.lit.injEq, Lit.int.injEq, true_and] at this
    rw [← this]; rfl
  | some y =>
    have := ha.1
    rw [d2 y e] at this
    simp only [DataW.lit.injEq, Lit.int.injEq, true_and] at this
    rw [← this]; rfl
/-- 'm[k]'. -/
theorem MapI.look1 (h : MapI P t w b f c) (hm : P.underlying m = some (.map t t)) (ht : P.underlying t = some (.int .i64)) (hz : (zeroValue t).run P w = .ok (.int .i64 0) w) (hx : I64 x) :
    (Instr.lookup m (.map (some b)) (.int .i64 x) false).run P w = .ok (.int .i64 ((f x).getD 0)) w := by
  obtain ⟨D, h1, h2, h3⟩ := h
  obtain ⟨a, hrun, ha, _⟩ := h1.lookup_int (int_keyed ht) hm ht hz (keyOf_int_mk ht (wf_of_i64 hx))
  obtain ⟨d1, d2⟩ := h3 x
  rw [hrun]
  cases e : f x with
  | none =>
    rw [e] at d1
    rw [atKey_of_not_has d1] at ha
    simp only [DataW.lit.injEq, Lit.int.injEq, true_and] at ha
    rw [← ha]; rfl
  | some y =>
    rw [d2 y e] at ha
    simp only [DataW.lit.injEq, Lit.int.injEq, true_and] at ha
    rw [← ha]; rfl
/-- 'm[k] = v'. -/
theorem MapI.store (h : MapI P t w b f c) (hm : P.underlying m = some (.map t t)) (ht : P.underlying t = some (.int .i64)) (hx : I64 x) (hy : I64 y) (hc : c < maxLen) :
    ∃ w', (Instr.mapUpdate m (.map (some b)) (.int .i64 x) (.int .i64 y)).run P w = .ok () w' ∧ MapI P t w' b (upd f x (some y)) (if (f x).isSome then c else c + 1) ∧ w.grownBy w' (some b) ∧ w.mapTurned w' b := by
  obtain ⟨D, h1, h2, h3⟩ := h
  obtain ⟨w', hrun, ho, hg⟩ := h1.store (int_keyed ht) hm hc (keyOf_int_mk ht (wf_of_i64 hx)) (plainElem_int ht (wf_of_i64 hy))
  have htidy := h1.tidy (int_keyed ht)
  have hsz := size_put (k := .int .i64 x) htidy (.lit (.int .i64 y))
  rw [(h3 x).1, h2] at hsz
  have hex := ho.exact
  rw [hsz] at hex
  refine ⟨w', hrun, ⟨_, hex, hsz, fun z => ?_⟩, hg.grown, hg⟩
  unfold upd
  by_cases e : z = x
  · subst e
    rw [if_pos rfl]
    refine ⟨has_put_same htidy.isMap (key_i64 z) _, fun y' hy' z' => ?_⟩
    injection hy' with hy'
    subst hy'
    exact atKey_put_same htidy.isMap (key_i64 z) _ z'
  · rw [if_neg e]
    have hne : Lit.int .i64 z ≠ .int .i64 x := fun h => by injection h with _ h; exact e h
    refine ⟨by rw [has_put_other hne]; exact (h3 z).1, fun y' hy' z' => by rw [atKey_put_other hne]; exact (h3 z).2 y' hy' z'⟩
/-- 'delete(m, k)'. -/
theorem MapI.drop (h : MapI P t w b f c) (hm : P.underlying m = some (.map t t)) (ht : P.underlying t = some (.int .i64)) (hx : I64 x) (ty : TypeId) :
    ∃ w', (Builtin.delete_ #[m, t] ty #[.map (some b), .int .i64 x]).run P w = .ok (.tuple #[]) w' ∧ MapI P t w' b (upd f x none) (if (f x).isSome then c - 1 else c) ∧ w.grownBy w' (some b) ∧ w.mapTurned w' b := by
  obtain ⟨D, h1, h2, h3⟩ := h
  obtain ⟨w', hrun, ho, hg⟩ := h1.drop (int_keyed ht) hm (keyOf_int_mk ht (wf_of_i64 hx)) ty
  have htidy := h1.tidy (int_keyed ht)
  have hsz0 := size_del (k := .int .i64 x) htidy
  rw [(h3 x).1, h2] at hsz0
  have hsz : Maps.size (D.del (.int .i64 x)) = if (f x).isSome then c - 1 else c := by
    split
    · rename_i e; rw [e, if_pos rfl] at hsz0; omega
    · rename_i e; rw [if_neg e] at hsz0; omega
  have hex := ho.exact
  rw [hsz] at hex
  refine ⟨w', hrun, ⟨_, hex, hsz, fun z => ?_⟩, hg.grown, hg⟩
  unfold upd
  by_cases e : z = x
  · subst e
    rw [if_pos rfl]
    exact ⟨has_del_same, fun y' hy' => by cases hy'⟩
  · rw [if_neg e]
    have hne : Lit.int .i64 z ≠ .int .i64 x := fun h => by injection h with _ h; exact e h
    refine ⟨by rw [has_del_other hne]; exact (h3 z).1, fun y' hy' z' => by rw [atKey_del_other hne]; exact (h3 z).2 y' hy' z'⟩
end
end Go
