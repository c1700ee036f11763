/-
  Layer 33: what the law's deeds hold. No condition.
-/
import Derived.Test.YtjihhpipdhhjkaaSpX
namespace Go.Proofs.Ytjihhpipdhhjkaa
open Go.RowKit Go.ChangeShapes Go.WideShapes Go.ChangeAt
attribute [local go_sem] Oper.semAt_some
theorem c_deed3 : Try.prog.cellsOf 28 = 3 := by kernel_rfl
theorem c_u8 : Try.prog.cellsOf 5 = 1 := by kernel_rfl
theorem c_int1 : Try.prog.cellsOf 3 = 1 := by kernel_rfl
theorem rd_deed {H : Type} {enc : TypeId × Value → H} {W : World} {cs : List Value} (h : Rd enc Try.prog W 28 cs) : ∃ x : Dd, cs = ddV x ∧ (0 ≤ x.k ∧ x.k < 256) ∧ I64 x.a ∧ I64 x.b := by
  obtain ⟨z0, z1, z2, ecs⟩ := cs_three ((h.struct Try.underlying28).1.trans c_deed3)
  rw [ecs] at h
  obtain ⟨y0, e0, g0⟩ := Rd.int (h.field Try.underlying28 0 5 0 1 rfl c_u8) Try.underlying5
  obtain ⟨y1, e1, g1⟩ := Rd.int (h.field Try.underlying28 1 3 1 1 rfl c_int1) Try.underlying3
  obtain ⟨y2, e2, g2⟩ := Rd.int (h.field Try.underlying28 2 3 2 1 rfl c_int1) Try.underlying3
  simp at e0 e1 e2
  subst e0; subst e1; subst e2
  exact ⟨⟨y0, y1, y2⟩, ecs, u8_of g0, i64_of g1, i64_of g2⟩
end Go.Proofs.Ytjihhpipdhhjkaa
