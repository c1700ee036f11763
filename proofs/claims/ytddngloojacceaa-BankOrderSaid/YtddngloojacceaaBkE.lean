/-
  Layer 44: banks, and whether they may be: what they are. No condition.
-/
import Derived.Test.YtddngloojacceaaBkD
import Derived.Test.YtddngloojacceaaTab
import Derived.Test.YtddngloojacceaaObj
namespace Go.Proofs.Ytddngloojacceaa
open Go Go.RowKit
/-- A row in a row: where it lies, its capacity, its numbers. -/
abbrev Rw := Option Addr × Nat × List Int
def rowV (r : Rw) : List Value := [.slice r.1 r.2.2.length r.2.1]
theorem rowV_length (r : Rw) : (rowV r).length = 1 := rfl
def rAt (l : List Rw) (i : Nat) : Rw := l[i]?.getD (none, 0, [])
structure RowsW (w : World) (A : Option Addr) (l : List Rw) : Prop where
  cells : Cells w A (tab rowV l)
  each : ∀ i, i < l.length → Cells w (rAt l i).1 (i64s (rAt l i).2.2)
theorem RowsW.below {w w' : World} {A : Option Addr} {l : List Rw} (h : RowsW w A l) (hb : Below w.heap.size w w') : RowsW w' A l := ⟨h.cells.below hb, fun i hi => (h.each i hi).below hb⟩
theorem RowsW.at {w : World} {A : Option Addr} {l : List Rw} (h : RowsW w A l) {i : Nat} (hi : i < l.length) :
    ∃ (b o : Nat) (R : Option Addr) (c : Nat), A = some ⟨b, o, none⟩ ∧ w.cell? ⟨b, o + i, none⟩ = some (.slice R (rAt l i).2.2.length c) ∧ Cells w R (i64s (rAt l i).2.2) := by
  obtain ⟨b, o, e, hc⟩ := h.cells.tab_at rowV_length (k := i) (x := rAt l i) (by simp [rAt, hi]) (by omega)
  refine ⟨b, o, (rAt l i).1, (rAt l i).2.1, e, ?_, h.each i hi⟩
  have := hc 0 (.slice (rAt l i).1 (rAt l i).2.2.length (rAt l i).2.1) rfl
  simpa using this
/-- A bank. -/
structure Bk where
  F : Rw
  AH : Option Addr
  cH : Nat
  H : List Rw
  AM : Option Addr
  cM : Nat
  M : List Rw
def Bk.cs (x : Bk) : Array Value := #[.slice x.F.1 x.F.2.2.length x.F.2.1, .slice x.AH x.H.length x.cH, .slice x.AM x.M.length x.cM]
structure Bk.In (x : Bk) (w : World) : Prop where
  f : Cells w x.F.1 (i64s x.F.2.2)
  h : RowsW w x.AH x.H
  m : RowsW w x.AM x.M
theorem Bk.In.below {x : Bk} {w w' : World} (h : x.In w) (hb : Below w.heap.size w w') : x.In w' := ⟨h.f.below hb, h.h.below hb, h.m.below hb⟩
/-- Its rows, as the plain part sees them. -/
def hasR (x : Bk) (i : Nat) : List Int := (rAt x.H i).2.2
def mostR (x : Bk) (i : Nat) : List Int := (rAt x.M i).2.2
def mayI (x : Bk) (i : Nat) : Bool := rowF (hasR x i) x.F.2.2.length && rowF (mostR x i) x.F.2.2.length && withK (hasR x i) (mostR x i) (hasR x i).length
def mayB (x : Bk) : Bool := decide (1 ≤ x.F.2.2.length ∧ x.F.2.2.length ≤ 4 ∧ x.H.length ≤ 8 ∧ x.H.length = x.M.length) && rowF x.F.2.2 x.F.2.2.length && (List.range x.H.length).all (mayI x)
end Go.Proofs.Ytddngloojacceaa
