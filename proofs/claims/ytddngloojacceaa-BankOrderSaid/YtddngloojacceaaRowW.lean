/-
  A row of ints of the call's own, behind a world that is kept: plain laws for the walk. No condition.
-/
import Derived.Test.YtddngloojacceaaOwn
namespace Go.Proofs.Ytddngloojacceaa
open Go.RowKit
/-- A row of the call's own, behind a world that is kept. -/
structure RowW (w wr : World) (g n c : Nat) (L : List Int) : Prop where
  below : Below w.heap.size w wr
  own : wr.ownsRow w.heap.size 3 1 (.slice (some ⟨g, 0, none⟩) n c) n (i64s L)
theorem RowW.past {w wr : World} {g n c : Nat} {L : List Int} (h : RowW w wr g n c L) (x : Past) : RowW w (wr.past x) g n c L := ⟨RowKit.Below.past h.below x, own_past h.own x⟩
theorem RowW.drew {w wr : World} {g n c : Nat} {L : List Int} (h : RowW w wr g n c L) : RowW w wr.drew g n c L := ⟨h.below.drew, h.own.drew⟩
theorem RowW.len {w wr : World} {g n c : Nat} {L : List Int} (h : RowW w wr g n c L) : L.length = n := by have := h.own.1; simpa [i64s] using this
theorem RowW.lt {w wr : World} {g n c : Nat} {L : List Int} (h : RowW w wr g n c L) : w.heap.size ≤ g ∧ g < wr.heap.size := h.own.lt g rfl
theorem RowW.cell {w wr : World} {g n c : Nat} {L : List Int} (h : RowW w wr g n c L) {k : Nat} (hk : k < n) : wr.cell? ⟨g, k, none⟩ = some (.int .i64 (atL L k)) := by
  rw [h.own.cellAt k (by omega)]
  have := h.len
  simp [i64s, atL, show k < L.length by omega]
theorem RowW.frozen {w wr : World} {g n c : Nat} {L : List Int} (h : RowW w wr g n c L) (k : Nat) : wr.frozen? ⟨g, k, none⟩ = false := h.own.frozenAt k
theorem RowW.set {w wr : World} {g n c : Nat} {L : List Int} (h : RowW w wr g n c L) (k : Nat) (x : Int) : RowW w (wr.setCell ⟨g, k, none⟩ (.int .i64 x)) g n c (L.set k x) := by
  refine ⟨h.below.setCell (p := ⟨g, k, none⟩) h.lt.1 _, ?_⟩
  have := (h.own.stored k (.int .i64 x)).1
  have e : i64s (L.set k x) = (i64s L).set k (.int .i64 x) := by simp [i64s, List.map_set]
  rw [e]
  exact this
theorem RowW.slice {w wr : World} {g n c : Nat} {L : List Int} (h : RowW w wr g n c L) : n ≤ c := by
  rcases h.own.2 with ⟨hv, _⟩ | ⟨g', cap', cur, hv, _, _, hnc, _⟩
  · cases hv
  · injection hv with _ _ e3
    subst e3
    exact hnc
end Go.Proofs.Ytddngloojacceaa
