/-
  TurnEnds holds for every input: a turn that is spent as often as ticks are left is over, and not ahead of that; one that was ended is over. No condition.
-/
import Derived.Test.YtanidjfhjddgeaaTurnD
import Derived.Test.YtanidjfhjddgeaaLift
namespace Go.Proofs.Ytanidjfhjddgeaa
open Go.RowKit Go.ChangeShapes Go.WideShapes Go.ChangeAt
theorem c_Turn2 : Try.prog.cellsOf 23 = 2 := by kernel_rfl
theorem c_int2 : Try.prog.cellsOf 3 = 1 := by kernel_rfl
section
variable {H : Type} {enc : TypeId × Value → H} {W : World}
theorem rd_Turn2 {cs : Array Value} (h : Rd enc Try.prog W 23 cs.toList) : ∃ p u : Int, cs = #[.int .i64 p, .int .i64 u] ∧ I64 p ∧ I64 u := by
  obtain ⟨a, b, e⟩ := cs_two (h.len_struct Try.underlying23 c_Turn2)
  rw [e] at h
  obtain ⟨x, e0, w0⟩ := Rd.int (h.field Try.underlying23 0 3 0 1 rfl c_int2) Try.underlying3
  obtain ⟨y, e1, w1⟩ := Rd.int (h.field Try.underlying23 1 3 1 1 rfl c_int2) Try.underlying3
  simp at e0 e1
  subst e0 e1
  exact ⟨x, y, arr_of e, i64_of w0, i64_of w1⟩
end
theorem turnEnds_own : ownKnob Try.prog.godebug = none := by kernel_rfl
theorem turnEnds_laidOut : laidOutB Try.prog = true := by kernel_rfl
theorem turnEnds_types : ∀ t ∈ Try.f4.params.toList, Try.prog.readableRec t = true ∧ t < Try.prog.types.size := by
  rw [Try.params4]
  intro t ht
  simp only [List.mem_cons, List.not_mem_nil, or_false] at ht
  rcases ht with rfl | rfl
  · exact ⟨by kernel_rfl, of_decide_eq_true (by kernel_rfl)⟩
  · exact ⟨by kernel_rfl, of_decide_eq_true (by kernel_rfl)⟩
set_option maxRecDepth 100000 in
theorem turnEnds_lifted (os : Os) (started : os.Started) (H : Type) (enc : TypeId × Value → H) :
    ReturnsInHanded {} Try.checked os 4 .any (Rows.turnEndsSpec.pre6 enc Try.prog Try.f4 Rows.turnEndsRow.domain false) (Rows.turnEndsSpec.post enc Try.prog Try.f4 false true false false) := by
  refine returnsInHanded_of_change (C := Try.checked) turnEnds_own started (by kernel_rfl) Try.func4
    (ChangeSpec.witness6 (enc := enc) (C := Try.checked) false ⟨#[], #[.agg #[.int .i64 0, .int .i64 0], .int .i64 0], []⟩ 8 (by kernel_rfl) (by kernel_rfl) (by kernel_rfl) (by kernel_rfl)) ?_
  intro W base args ds gs before hval0 hW hcnd _
  have hval : ∀ (j : Nat) t v, Try.f4.params[j]? = some t → args[j]? = some v → Value.okWide Try.prog W .any base t v := hval0
  have hW' := hW
  obtain ⟨p, q, hA0, hV, hpq, hfz, hnd⟩ := hW
  have hA : DataW.TrodAll enc Try.prog W 0 (fun _ => true) true Try.f4.params.toList args.toList ds p := hA0
  rw [Try.params4] at hA hval
  obtain ⟨v0, vs0, d0, ds0, p0, q0, hargs, rfl, rfl, h0, r0⟩ := trodAll_cons hA
  obtain ⟨v1, vs1, d1, ds1, p1, q1, rfl, rfl, rfl, h1, r1⟩ := trodAll_cons r0
  obtain ⟨rfl, rfl, rfl⟩ := trodAll_nil r1
  obtain rfl : args = #[v0, v1] := by cases args; simp_all
  have k0 := hval 0 23 v0 rfl rfl
  have k1 := hval 1 3 v1 rfl rfl
  clear hA0 hval0 hval hcnd hfz hnd hpq hV hargs r1
  suffices hs : Calls Try.prog 4 #[v0, v1] W (Gives (.bool true) W) from hs.mono fun e W' ⟨he, x, hx⟩ => ⟨_, he, law_post turnEnds_laidOut hW' rfl rfl (by kernel_rfl) (by first | exact Try.underlying4 | rfl) turnEnds_types (hx ▸ W.below_past x)⟩
  clear hW'
  obtain ⟨c0, rfl, g0⟩ := rd_agg (.inl ⟨_, Try.underlying23⟩) k0 h0
  obtain ⟨p, u, rfl, _, hu⟩ := rd_Turn2 g0
  obtain ⟨s, rfl, _, _, ws⟩ := open_int Try.underlying3 k1 h1
  exact TurnEnds_any p u s W hu
theorem turnEnds_holds : Rows.TurnEndsSaid :=
  OpenClaim.holds_of_wide 4 Try.f4 rfl rfl rfl rfl rfl rfl rfl ⟨rfl, rfl, rfl, rfl, rfl⟩ rfl rfl rfl rfl rfl (by kernel_rfl) Try.func4 (by kernel_rfl)
    (of_decide_eq_true (by kernel_rfl)) (by unfold Func.isWrapper; first | (rw [if_pos (by decide +kernel)]; kernel_rfl) | (rw [if_neg (by decide +kernel)]; exact ⟨rfl, rfl⟩))
    (fun os started H enc _ => turnEnds_lifted os started H enc)
end Go.Proofs.Ytanidjfhjddgeaa
