/-
  Blocks that an object has of its own, and what is kept of all the others: plain laws for the walk. No condition.
-/
import Derived.Test.YtdeejiiegmddaaaOwn
namespace Go
open Go.RowKit
/-- All blocks that were there are as they were, but for those of F. -/
structure Kept (F : Nat → Prop) (w w' : World) : Prop where
  os : w'.os = w.os
  tape : w'.tape = w.tape
  output : w'.output = w.output
  size : w.heap.size ≤ w'.heap.size
  block : ∀ k, k < w.heap.size → ¬ F k → w'.heap[k]? = w.heap[k]?
/-- A block that is just these cells. -/
def Rec (w : World) (g : Nat) (t : TypeId) (cs : Array Value) : Prop := w.heap[g]? = some (.cells cs t (0, 0))
section
variable {F G : Nat → Prop} {w w' w'' : World} {g : Nat} {t : TypeId} {cs : Array Value}
theorem Kept.refl (F : Nat → Prop) (w : World) : Kept F w w := ⟨rfl, rfl, rfl, Nat.le_refl _, fun _ _ _ => rfl⟩
theorem Kept.trans (h : Kept F w w') (k : Kept F w' w'') : Kept F w w'' :=
  ⟨k.os.trans h.os, k.tape.trans h.tape, k.output.trans h.output, Nat.le_trans h.size k.size, fun i hi hn => (k.block i (Nat.lt_of_lt_of_le hi h.size) hn).trans (h.block i hi hn)⟩
/-- What comes later may also touch what is new. -/
theorem Kept.trans' (h : Kept F w w') (k : Kept G w' w'') (hg : ∀ i, i < w.heap.size → G i → F i) : Kept F w w'' :=
  ⟨k.os.trans h.os, k.tape.trans h.tape, k.output.trans h.output, Nat.le_trans h.size k.size, fun i hi hn => (k.block i (Nat.lt_of_lt_of_le hi h.size) (fun c => hn (hg i hi c))).trans (h.block i hi hn)⟩
theorem Kept.mono (h : Kept F w w') (hf : ∀ k, k < w.heap.size → F k → G k) : Kept G w w' := ⟨h.os, h.tape, h.output, h.size, fun k hk hn => h.block k hk (fun c => hn (hf k hk c))⟩
theorem Kept.of_below (h : Below w.heap.size w w') (F : Nat → Prop) : Kept F w w' := ⟨h.os, h.tape, h.output, h.size, fun k hk _ => h.block k hk⟩
theorem Kept.to_below {B : Nat} {a : World} (h : Kept F w w') (hb : Below B a w) (hB : B ≤ w.heap.size) (hf : ∀ k, F k → B ≤ k) : Below B a w' :=
  hb.trans ⟨h.os, h.tape, h.output, h.size, fun k hk => h.block k (by omega) (fun c => by have := hf k c; omega)⟩
theorem Kept.past (h : Kept F w w') (x : Past) : Kept F w (w'.past x) := h.trans (Kept.of_below (w'.below_past x) F)
theorem Kept.alloc (h : Kept F w w') (o : Obj) : Kept F w (w'.alloc o) := h.trans (Kept.of_below ((Below.refl _ _).alloc (Nat.le_refl _) o) F)
theorem Kept.drew (h : Kept F w w') : Kept F w w'.drew := ⟨h.os, h.tape, h.output, h.size, h.block⟩
theorem Kept.setCell (h : Kept F w w') {p : Addr} (hp : w.heap.size ≤ p.block ∨ F p.block) (u : Value) : Kept F w (w'.setCell p u) :=
  ⟨h.os, h.tape, h.output, by simpa [World.setCell] using h.size, fun k hk hn => by
    rw [heap_setCell_other w' p k u (fun e => by subst e; rcases hp with hp | hp; omega; exact hn hp)]
    exact h.block k hk hn⟩
theorem Kept.cell (h : Kept F w w') {a : Addr} {v : Value} (hc : w.cell? a = some v) (hn : ¬ F a.block) : w'.cell? a = some v := by
  rw [World.cell?_of_block (h.block a.block (World.block_lt_of_cell? w a hc) hn)]; exact hc
theorem Rec.lt (h : Rec w g t cs) : g < w.heap.size := by
  rcases Nat.lt_or_ge g w.heap.size with h' | h'
  · exact h'
  · unfold Rec at h; rw [Array.getElem?_eq_none h'] at h; cases h
theorem Rec.kept (h : Rec w g t cs) (hk : Kept F w w') (hn : ¬ F g) : Rec w' g t cs := (hk.block g h.lt hn).trans h
theorem Rec.below {B : Nat} (h : Rec w g t cs) (hb : Below B w w') (hB : w.heap.size ≤ B) : Rec w' g t cs := (hb.block g (Nat.lt_of_lt_of_le h.lt hB)).trans h
theorem Rec.past (h : Rec w g t cs) (x : Past) : Rec (w.past x) g t cs := h.below (w.below_past x) (Nat.le_refl _)
theorem Rec.alloc (h : Rec w g t cs) (o : Obj) : Rec (w.alloc o) g t cs := h.below ((Below.refl _ w).alloc (Nat.le_refl _) o) (Nat.le_refl _)
theorem Rec.drew (h : Rec w g t cs) : Rec w.drew g t cs := h
theorem Rec.cell (h : Rec w g t cs) (i : Nat) : w.cell? ⟨g, i, none⟩ = cs[i]? := cell_of_row w g i cs t (0, 0) h
theorem Rec.frozen (h : Rec w g t cs) (i : Nat) : w.frozen? ⟨g, i, none⟩ = false := frozen_of_row w g i cs t h
theorem Rec.set (h : Rec w g t cs) (i : Nat) (u : Value) : Rec (w.setCell ⟨g, i, none⟩ u) g t (cs.setIfInBounds i u) := heap_setCell_same w g i cs t u h
theorem Rec.set_other (h : Rec w g t cs) {p : Addr} (hp : p.block ≠ g) (u : Value) : Rec (w.setCell p u) g t cs := (heap_setCell_other w p g u (fun e => hp e.symm)).trans h
theorem Rec.new (w : World) (t : TypeId) (cs : Array Value) : Rec (w.alloc (.cells cs t)) w.heap.size t cs := heap_alloc_new w _
end
end Go
