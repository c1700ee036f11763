/-
  Maps from ints to pointers to blocks, as functions: looked up, stored to; the list of their keys. Plain laws over any program. No condition.
-/
import Derived.Test.YtdeejiiegmddaaaMapI
import Derived.Lib.SlKeysI
namespace Go
open Go.RowKit Go.Maps
/-- How a pointer reads. -/
def ptrElem : Value → Option (DataW Unit × List MemPlace)
  | .pointer none => some (.lit (.int .i64 (-1)), [])
  | .pointer (some ⟨b, 0, none⟩) => some (.lit (.int .i64 (b : Int)), [])
  | _ => none
theorem ptrElem_inv {v : Value} {x : Int} {ps : List MemPlace} (h : ptrElem v = some (.lit (.int .i64 x), ps)) : (x = -1 ∧ v = .pointer none) ∨ ∃ b : Nat, x = (b : Int) ∧ v = .pointer (some ⟨b, 0, none⟩) := by
  unfold ptrElem at h
  split at h
  · injection h with h
    injection h with h _
    injection h with h
    injection h with _ h
    exact .inl ⟨h.symm, rfl⟩
  · injection h with h
    injection h with h _
    injection h with h
    injection h with _ h
    exact .inr ⟨_, h.symm, rfl⟩
  · cases h
def ptrV (o : Option Nat) : Value := .pointer (o.map fun b => ⟨b, 0, none⟩)
/-- Block b is a map of c entries that reads as f: the block that a key points to. -/
def MapP (P : Program) (t : TypeId) (w : World) (b : Nat) (f : Int → Option Nat) (c : Nat) : Prop :=
  ∃ D : DataW Unit, w.ownsMap P t ptrElem b c D ∧ Maps.size D = c ∧
    ∀ x, Maps.has D (.int .i64 x) = (f x).isSome ∧ ∀ y : Nat, f x = some y → ∀ z, D.atKey (.int .i64 x) z = .lit (.int .i64 (y : Int))
def updP (f : Int → Option Nat) (x : Int) (y : Nat) (z : Int) : Option Nat := if z = x then some y else f z
section
variable {P : Program} {t e m : TypeId} {w w' : World} {b c : Nat} {f : Int → Option Nat} {x : Int}
theorem MapP.made (w : World) : MapP P t (w.alloc (.map #[] 0)) w.heap.size (fun _ => none) 0 :=
  ⟨.map [], World.ownsMap_made w P t _, rfl, fun x => ⟨rfl, fun y h => by cases h⟩⟩
theorem MapP.lt (h : MapP P t w b f c) : b < w.heap.size := by obtain ⟨D, h1, _⟩ := h; exact h1.lt
theorem MapP.block (h : MapP P t w b f c) (hb : w'.heap[b]? = w.heap[b]?) : MapP P t w' b f c := by
  obtain ⟨D, ⟨es, clock, h1, F, hs, hD⟩, h2, h3⟩ := h
  exact ⟨D, ⟨es, clock, hb.trans h1, F, hs, hD⟩, h2, h3⟩
theorem MapP.kept {F : Nat → Prop} (h : MapP P t w b f c) (hk : Kept F w w') (hn : ¬ F b) : MapP P t w' b f c := h.block (hk.block b h.lt hn)
theorem MapP.below {B : Nat} (h : MapP P t w b f c) (hb : Below B w w') (hB : b < B) : MapP P t w' b f c := h.block (hb.block b hB)
/-- 'm[k]'. -/
theorem MapP.look1 (h : MapP P t w b f c) (hm : P.underlying m = some (.map t e)) (ht : P.underlying t = some (.int .i64)) (hz : (zeroValue e).run P w = .ok (.pointer none) w) (hx : I64 x) :
    (Instr.lookup m (.map (some b)) (.int .i64 x) false).run P w = .ok (ptrV (f x)) w := by
  obtain ⟨D, h1, h2, h3⟩ := h
  obtain ⟨v, ps, hrun, hv⟩ := h1.lookup (int_keyed ht) hm hz (zd := .lit (.int .i64 (-1))) (zp := []) rfl (keyOf_int_mk ht (wf_of_i64 hx))
  obtain ⟨d1, d2⟩ := h3 x
  rw [hrun]
  cases e : f x with
  | none =>
    rw [e] at d1
    rw [atKey_of_not_has d1] at hv
    rcases ptrElem_inv hv with ⟨_, rfl⟩ | ⟨q, hq, _⟩
    · rfl
    · omega
  | some y =>
    rw [d2 y e] at hv
    rcases ptrElem_inv hv with ⟨hq, _⟩ | ⟨q, hq, rfl⟩
    · omega
    · obtain rfl : y = q := by omega
      rfl
/-- 'm[k] = v'. -/
theorem MapP.store (h : MapP P t w b f c) (hm : P.underlying m = some (.map t e)) (ht : P.underlying t = some (.int .i64)) (hx : I64 x) (y : Nat) (hc : c < maxLen) :
    ∃ w', (Instr.mapUpdate m (.map (some b)) (.int .i64 x) (.pointer (some ⟨y, 0, none⟩))).run P w = .ok () w' ∧ MapP P t w' b (updP f x y) (if (f x).isSome then c else c + 1) ∧ w.grownBy w' (some b) ∧ w.mapTurned w' b := by
  obtain ⟨D, h1, h2, h3⟩ := h
  obtain ⟨w', hrun, ho, hg⟩ := h1.store (int_keyed ht) hm hc (keyOf_int_mk ht (wf_of_i64 hx)) (val := .pointer (some ⟨y, 0, none⟩)) (d := .lit (.int .i64 (y : Int))) (ps := []) rfl
  have htidy := h1.tidy (int_keyed ht)
  have hsz := size_put (k := .int .i64 x) htidy (.lit (.int .i64 (y : Int)))
  rw [(h3 x).1, h2] at hsz
  have hex := ho.exact
  rw [hsz] at hex
  refine ⟨w', hrun, ⟨_, hex, hsz, fun z => ?_⟩, hg.grown, hg⟩
  unfold updP
  by_cases e : z = x
  · subst e
    rw [if_pos rfl]
    refine ⟨has_put_same htidy.isMap (key_i64 z) _, fun y' hy' z' => ?_⟩
    injection hy' with hy'
    subst hy'
    exact atKey_put_same htidy.isMap (key_i64 z) _ z'
  · rw [if_neg e]
    have hne : Lit.int .i64 z ≠ .int .i64 x := fun h => by injection h with _ h; exact e h
    refine ⟨by rw [has_put_other hne]; exact (h3 z).1, fun y' hy' z' => by rw [atKey_put_other hne]; exact (h3 z).2 y' hy' z'⟩
/-- The keys, in whatever order. -/
theorem MapP.keys (h : MapP P t w b f c) (ht : P.underlying t = some (.int .i64)) {ids : List Int} (hnd : ids.Nodup) (hm : ∀ x, x ∈ ids ↔ (f x).isSome = true) : ∃ D : DataW Unit, w.ownsMap P t ptrElem b c D ∧ Maps.size D = c ∧ ids.Perm (intKeys D) ∧ c = ids.length := by
  obtain ⟨D, h1, h2, h3⟩ := h
  have hC : CollectedI D (fun _ => false) ids := ⟨hnd, fun x => by rw [hm x, (h3 x).1]; simp⟩
  have hp := hC.perm h1 (int_keyed ht) ht (fun _ => rfl)
  refine ⟨D, h1, h2, hp, ?_⟩
  have hl := hp.length_eq
  have hk : (intKeys D).length = Maps.size D := by
    cases D with
    | map es => simp [intKeys, Maps.size]
    | _ => (obtain ⟨es, he⟩ := h1.isMap; cases he)
  rw [hk, h2] at hl
  exact hl.symm
end
end Go
