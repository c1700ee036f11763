/-
  TurnCalls holds for every input: whose turn it is, whether it has ticks left, and how many, is the document's. No condition.
-/
import Derived.Test.YtanidjfhjddgeaaTurnC
import Derived.Test.YtanidjfhjddgeaaLift
namespace Go.Proofs.Ytanidjfhjddgeaa
open Go.RowKit Go.ChangeShapes Go.WideShapes Go.ChangeAt
theorem c_Turn : Try.prog.cellsOf 23 = 2 := by kernel_rfl
theorem c_int : Try.prog.cellsOf 3 = 1 := by kernel_rfl
theorem c_three : Try.prog.cellsOf 24 = 3 := by kernel_rfl
section
variable {H : Type} {enc : TypeId × Value → H} {W : World}
theorem rd_Turn {cs : Array Value} (h : Rd enc Try.prog W 23 cs.toList) : ∃ p u : Int, cs = #[.int .i64 p, .int .i64 u] ∧ I64 p ∧ I64 u := by
  obtain ⟨a, b, e⟩ := cs_two (h.len_struct Try.underlying23 c_Turn)
  rw [e] at h
  obtain ⟨x, e0, w0⟩ := Rd.int (h.field Try.underlying23 0 3 0 1 rfl c_int) Try.underlying3
  obtain ⟨y, e1, w1⟩ := Rd.int (h.field Try.underlying23 1 3 1 1 rfl c_int) Try.underlying3
  simp at e0 e1
  subst e0 e1
  exact ⟨x, y, arr_of e, i64_of w0, i64_of w1⟩
theorem rd_three {cs : Array Value} (h : Rd enc Try.prog W 24 cs.toList) : ∃ a b c : Int, cs = #[.int .i64 a, .int .i64 b, .int .i64 c] ∧ I64 a ∧ I64 b ∧ I64 c := by
  obtain ⟨a, b, c, e⟩ := cs_three (h.len_array Try.underlying24 c_three)
  rw [e] at h
  obtain ⟨x, e0, w0⟩ := Rd.int (h.elem Try.underlying24 0 (by decide) 1 c_int) Try.underlying3
  obtain ⟨y, e1, w1⟩ := Rd.int (h.elem Try.underlying24 1 (by decide) 1 c_int) Try.underlying3
  obtain ⟨z, e2, w2⟩ := Rd.int (h.elem Try.underlying24 2 (by decide) 1 c_int) Try.underlying3
  simp at e0 e1 e2
  subst e0 e1 e2
  exact ⟨x, y, z, arr_of e, i64_of w0, i64_of w1, i64_of w2⟩
end
theorem turnCalls_own : ownKnob Try.prog.godebug = none := by kernel_rfl
theorem turnCalls_laidOut : laidOutB Try.prog = true := by kernel_rfl
theorem turnCalls_types : ∀ t ∈ Try.f3.params.toList, Try.prog.readableRec t = true ∧ t < Try.prog.types.size := by
  rw [Try.params3]
  intro t ht
  simp only [List.mem_cons, List.not_mem_nil, or_false] at ht
  rcases ht with rfl | rfl | rfl
  · exact ⟨by kernel_rfl, of_decide_eq_true (by kernel_rfl)⟩
  · exact ⟨by kernel_rfl, of_decide_eq_true (by kernel_rfl)⟩
  · exact ⟨by kernel_rfl, of_decide_eq_true (by kernel_rfl)⟩
set_option maxRecDepth 100000 in
theorem turnCalls_lifted (os : Os) (started : os.Started) (H : Type) (enc : TypeId × Value → H) :
    ReturnsInHanded {} Try.checked os 3 .any (Rows.turnCallsSpec.pre6 enc Try.prog Try.f3 Rows.turnCallsRow.domain false) (Rows.turnCallsSpec.post enc Try.prog Try.f3 false true false false) := by
  refine returnsInHanded_of_change (C := Try.checked) turnCalls_own started (by kernel_rfl) Try.func3
    (ChangeSpec.witness6 (enc := enc) (C := Try.checked) false ⟨#[], #[.agg #[.int .i64 0, .int .i64 0], .agg #[.int .i64 0, .int .i64 0, .int .i64 0], .int .u64 0], []⟩ 8 (by kernel_rfl) (by kernel_rfl) (by kernel_rfl) (by kernel_rfl)) ?_
  intro W base args ds gs before hval0 hW hcnd _
  have hval : ∀ (j : Nat) t v, Try.f3.params[j]? = some t → args[j]? = some v → Value.okWide Try.prog W .any base t v := hval0
  have hW' := hW
  obtain ⟨p, q, hA0, hV, hpq, hfz, hnd⟩ := hW
  have hA : DataW.TrodAll enc Try.prog W 0 (fun _ => true) true Try.f3.params.toList args.toList ds p := hA0
  rw [Try.params3] at hA hval
  obtain ⟨v0, vs0, d0, ds0, p0, q0, hargs, rfl, rfl, h0, r0⟩ := trodAll_cons hA
  obtain ⟨v1, vs1, d1, ds1, p1, q1, rfl, rfl, rfl, h1, r1⟩ := trodAll_cons r0
  obtain ⟨v2, vs2, d2, ds2, p2, q2, rfl, rfl, rfl, h2, r2⟩ := trodAll_cons r1
  obtain ⟨rfl, rfl, rfl⟩ := trodAll_nil r2
  obtain rfl : args = #[v0, v1, v2] := by cases args; simp_all
  have k0 := hval 0 23 v0 rfl rfl
  have k1 := hval 1 24 v1 rfl rfl
  have k2 := hval 2 25 v2 rfl rfl
  clear hA0 hval0 hval hcnd hfz hnd hpq hV hargs r2
  suffices hs : Calls Try.prog 3 #[v0, v1, v2] W (Gives (.bool true) W) from hs.mono fun e W' ⟨he, x, hx⟩ => ⟨_, he, law_post turnCalls_laidOut hW' rfl rfl (by kernel_rfl) (by first | exact Try.underlying4 | rfl) turnCalls_types (hx ▸ W.below_past x)⟩
  clear hW'
  obtain ⟨c0, rfl, g0⟩ := rd_agg (.inl ⟨_, Try.underlying23⟩) k0 h0
  obtain ⟨p, u, rfl, _, hu⟩ := rd_Turn g0
  obtain ⟨c1, rfl, g1⟩ := rd_agg (.inr ⟨_, _, Try.underlying24⟩) k1 h1
  obtain ⟨n0, n1, n2, rfl, _, _, _⟩ := rd_three g1
  obtain ⟨wt, rfl, _, _, ww⟩ := open_int Try.underlying25 k2 h2
  exact TurnCalls_any p u n0 n1 n2 wt W (u64_of ww) hu
theorem turnCalls_holds : Rows.TurnCallsSaid :=
  OpenClaim.holds_of_wide 3 Try.f3 rfl rfl rfl rfl rfl rfl rfl ⟨rfl, rfl, rfl, rfl, rfl⟩ rfl rfl rfl rfl rfl (by kernel_rfl) Try.func3 (by kernel_rfl)
    (of_decide_eq_true (by kernel_rfl)) (by unfold Func.isWrapper; first | (rw [if_pos (by decide +kernel)]; kernel_rfl) | (rw [if_neg (by decide +kernel)]; exact ⟨rfl, rfl⟩))
    (fun os started H enc _ => turnCalls_lifted os started H enc)
end Go.Proofs.Ytanidjfhjddgeaa
