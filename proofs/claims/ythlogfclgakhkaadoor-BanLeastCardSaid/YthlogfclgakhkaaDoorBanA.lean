/-
  Layer 21: a play in memory; the waiting one of the least V. No condition (the table of the library's that is read is a fact that is asked for).
-/
import Derived.Test.YthlogfclgakhkaaDoorBanS
import Derived.Test.YthlogfclgakhkaaDoorObj
import Derived.Test.YthlogfclgakhkaaDoorPastRd
import Derived.StillTailTactics
namespace Go.Proofs.YthlogfclgakhkaaDoor
open Go.RowKit Go.Shelf
attribute [local go_sem] Oper.semAt_some
/-- A play at block b, made behind the world whose heap ends at B; its weights lie in w0's rows. -/
structure PlAt (B : Nat) (w : World) (b : Nat) (S : Bn) : Prop where
  big : B ≤ b
  ex : ∃ A c Ag cg, Rec w b 47 #[.int .i64 S.p, .int .i64 S.u, .int .i64 S.s, .int .u64 (S.wt : Int), .slice A S.v.length c, .slice Ag S.v.length cg] ∧ w.ownsRow B 22 1 (.slice A S.v.length c) S.v.length (u64s S.v) ∧ Cells w Ag (i64s S.g) ∧ S.g.length = S.v.length ∧ (∀ g, A = some ⟨g, 0, none⟩ → b ≠ g) ∧ (∀ g o, Ag = some ⟨g, o, none⟩ → S.g ≠ [] → g < B)
theorem PlAt.far {B : Nat} {w w' : World} {b : Nat} {S : Bn} (h : PlAt B w b S) (hb : Below w.heap.size w w') : PlAt B w' b S := by
  obtain ⟨A, c, Ag, cg, h1, h2, h3, h4⟩ := h.ex
  exact ⟨h.big, A, c, Ag, cg, h1.below hb (Nat.le_refl _), own_below h2 hb (Nat.le_refl _), h3.below hb, h4⟩
theorem PlAt.lt {B : Nat} {w : World} {b : Nat} {S : Bn} (h : PlAt B w b S) : b < w.heap.size := by
  obtain ⟨A, c, Ag, cg, h1, _⟩ := h.ex
  exact Rec.lt h1
/-- Where the V's lie. -/
theorem PlAt.vs {B : Nat} {w : World} {b : Nat} {S : Bn} (h : PlAt B w b S) (hn : 0 < S.v.length) : ∃ g c, w.cell? ⟨b, 4, none⟩ = some (.slice (some ⟨g, 0, none⟩) S.v.length c) ∧ ∀ k, k < S.v.length → w.cell? ⟨g, k, none⟩ = some (.int .u64 (atD S.v k)) := by
  obtain ⟨A, c, Ag, cg, h1, h2, _⟩ := h.ex
  obtain ⟨g, cap, eA, _⟩ := own_succ h2 hn
  cases eA
  have q := Rec.cell h1 4
  simp at q
  refine ⟨g, _, q, fun k hk => ?_⟩
  obtain ⟨b', o, e, hc⟩ := u64_at (Cells.of_own h2) (k := k) hk
  cases e
  simpa using hc
theorem PlAt.cells {B : Nat} {w : World} {b : Nat} {S : Bn} (h : PlAt B w b S) : w.cell? ⟨b, 0, none⟩ = some (.int .i64 S.p) ∧ w.cell? ⟨b, 1, none⟩ = some (.int .i64 S.u) ∧ w.cell? ⟨b, 2, none⟩ = some (.int .i64 S.s) ∧ w.cell? ⟨b, 3, none⟩ = some (.int .u64 (S.wt : Int)) := by
  obtain ⟨A, c, Ag, cg, h1, _⟩ := h.ex
  have q0 := Rec.cell h1 0
  have q1 := Rec.cell h1 1
  have q2 := Rec.cell h1 2
  have q3 := Rec.cell h1 3
  simp at q0 q1 q2 q3
  exact ⟨q0, q1, q2, q3⟩
end Go.Proofs.YthlogfclgakhkaaDoor
