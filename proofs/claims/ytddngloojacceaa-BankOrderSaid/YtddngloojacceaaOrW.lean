/-
  Layer 44's BankOrder: a row of ints and a map, both the call's own. Plain laws. No condition.
-/
import Derived.Test.YtddngloojacceaaBkA
import Derived.Test.YtddngloojacceaaRowW
import Derived.Test.YtddngloojacceaaMapI
import Derived.Maps.RangeWalk
namespace Go.Proofs.Ytddngloojacceaa
open Go Go.RowKit Go.Maps
theorem zero_int (w : World) : (zeroValue 3).run Try.prog w = .ok (.int .i64 0) w := by
  obtain ⟨i0, hi, hz0, hz1, hz2⟩ := info_parts info_i64
  simp [zeroValue, typeInfo, hi, hz0]
structure OrW (w wr : World) (g k c b : Nat) (L : List Int) (f : Int → Option Int) (n : Nat) : Prop where
  row : RowW w wr g k c L
  map : MapI Try.prog 3 wr b f n
theorem OrW.far {w wr w' : World} {g k c b n : Nat} {L : List Int} {f : Int → Option Int} (h : OrW w wr g k c b L f n) (hb : Below wr.heap.size wr w') : OrW w w' g k c b L f n :=
  ⟨⟨h.row.below.trans (hb.mono h.row.below.size), own_below h.row.own hb (Nat.le_refl _)⟩, h.map.below hb h.map.lt⟩
theorem OrW.drew {w wr : World} {g k c b n : Nat} {L : List Int} {f : Int → Option Int} (h : OrW w wr g k c b L f n) : OrW w wr.drew g k c b L f n := ⟨h.row.drew, h.map.block rfl⟩
theorem OrW.drewN {w wr : World} {g k c b n : Nat} {L : List Int} {f : Int → Option Int} (h : OrW w wr g k c b L f n) (m : Nat) : OrW w (wr.drewN m) g k c b L f n :=
  ⟨⟨h.row.below.trans ⟨rfl, rfl, rfl, Nat.le_refl _, fun _ _ => rfl⟩, h.row.own⟩, h.map.block rfl⟩
theorem OrW.set {w wr : World} {g k c b n : Nat} {L : List Int} {f : Int → Option Int} (h : OrW w wr g k c b L f n) (hgb : g < b) (j : Nat) (x : Int) : OrW w (wr.setCell ⟨g, j, none⟩ (.int .i64 x)) g k c b (L.set j x) f n := by
  refine ⟨h.row.set j x, ?_⟩
  obtain ⟨D, h1, h2, h3⟩ := h.map
  exact ⟨D, h1.setCell (a := ⟨g, j, none⟩) (fun e => by simp at e; omega) _, h2, h3⟩
theorem OrW.map_lt {w wr : World} {g k c b n : Nat} {L : List Int} {f : Int → Option Int} (h : OrW w wr g k c b L f n) : b < wr.heap.size := h.map.lt
theorem RowW.grownM {w wr w' : World} {g k c b : Nat} {L : List Int} (h : RowW w wr g k c L) (hg : wr.grownBy w' (some b)) (hgb : g ≠ b) (hb : w.heap.size ≤ b) : RowW w w' g k c L :=
  ⟨h.below.grown hg h.below.size (fun q hq => by injection hq with hq; omega), h.own.kept hg (.inr (fun e => hgb (by simpa [Value.ownBlock] using e)))⟩
theorem OrW.store {w wr : World} {g k c b n : Nat} {L : List Int} {f : Int → Option Int} (h : OrW w wr g k c b L f n) (hgb : g < b) (hb : w.heap.size ≤ b) {x y : Int} (hx : I64 x) (hy : I64 y) (hn : n < 1000) (hf : f x = none) {f' : Int → Option Int} (hf' : ∀ z, upd f x (some y) z = f' z) :
    ∃ w', (Instr.mapUpdate 30 (.map (some b)) (.int .i64 x) (.int .i64 y)).run Try.prog wr = .ok () w' ∧ OrW w w' g k c b L f' (n + 1) ∧ wr.grownBy w' (some b) := by
  obtain ⟨w', hr, hm, hg, _⟩ := h.map.store (m := 30) Try.underlying30 Try.underlying3 hx hy (by unfold maxLen; omega)
  rw [hf] at hm
  exact ⟨w', hr, ⟨h.row.grownM hg (by omega) hb, hm.ext hf'⟩, hg⟩
theorem OrW.look {w wr : World} {g k c b n : Nat} {L : List Int} {f : Int → Option Int} (h : OrW w wr g k c b L f n) {x : Int} (hx : I64 x) :
    (Instr.lookup 30 (.map (some b)) (.int .i64 x) false).run Try.prog wr = .ok (.int .i64 ((f x).getD 0)) wr :=
  h.map.look1 (m := 30) Try.underlying30 Try.underlying3 (zero_int wr) hx
theorem OrW.ext {w wr : World} {g k c b n : Nat} {L : List Int} {f f' : Int → Option Int} (h : OrW w wr g k c b L f n) (hf : ∀ z, f z = f' z) : OrW w wr g k c b L f' n := ⟨h.row, h.map.ext hf⟩
theorem OrW.far_own {wr w' : World} {e : TypeId} {base size n b : Nat} {v : Value} {xs : List Value} (h : wr.ownsRow base e size v n xs) (hg : wr.grownBy w' (some b)) (hb : b < base) : w'.ownsRow base e size v n xs :=
  h.kept hg (.inr (fun e1 => by have := h.lt b e1; omega))
end Go.Proofs.Ytddngloojacceaa
