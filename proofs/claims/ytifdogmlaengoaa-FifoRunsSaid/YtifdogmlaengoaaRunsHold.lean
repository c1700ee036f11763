/-
  Layer 05's FifoRuns holds: whatever is pushed, popped, removed and poured over between two queues, answers are the document's. No condition.
-/
import Derived.Test.YtifdogmlaengoaaLawRuns
import Derived.Test.YtifdogmlaengoaaLift
namespace Go.Proofs.Ytifdogmlaengoaa
open Go.RowKit Go.ChangeShapes Go.WideShapes Go.ChangeAt
theorem c_pair_3 : Try.prog.cellsOf 3 = 1 := by kernel_rfl
theorem c_pair : Try.prog.cellsOf 34 = 2 := by kernel_rfl
theorem rd_pair {H : Type} {enc : TypeId × Value → H} {W : World} {cs : Array Value} (h : Rd enc Try.prog W 34 cs.toList) : ∃ x0 x1 : Int, cs = #[.int .i64 x0, .int .i64 x1] ∧ I64 x0 ∧ I64 x1 := by
  obtain ⟨c0, c1, e⟩ := cs_two (h.len_array Try.underlying34 c_pair)
  rw [e] at h
  obtain ⟨x0, e0, w0⟩ := Rd.int (h.elem Try.underlying34 0 (by decide) 1 c_pair_3) Try.underlying3
  obtain ⟨x1, e1, w1⟩ := Rd.int (h.elem Try.underlying34 1 (by decide) 1 c_pair_3) Try.underlying3
  simp at e0 e1
  subst e0 e1
  exact ⟨x0, x1, arr_of e, i64_of w0, i64_of w1⟩
theorem c_deed3 : Try.prog.cellsOf 41 = 3 := by kernel_rfl
theorem c_u8 : Try.prog.cellsOf 5 = 1 := by kernel_rfl
theorem c_bool1 : Try.prog.cellsOf 4 = 1 := by kernel_rfl
theorem c_int1 : Try.prog.cellsOf 3 = 1 := by kernel_rfl
theorem rd_deed {H : Type} {enc : TypeId × Value → H} {W : World} {cs : List Value} (h : Rd enc Try.prog W 41 cs) : ∃ x : Dd, cs = ddV x ∧ (0 ≤ x.k ∧ x.k < 256) ∧ I64 x.v := by
  obtain ⟨z0, z1, z2, ecs⟩ := cs_three ((h.struct Try.underlying41).1.trans c_deed3)
  rw [ecs] at h
  obtain ⟨y0, e0, g0⟩ := Rd.int (h.field Try.underlying41 0 5 0 1 rfl c_u8) Try.underlying5
  obtain ⟨y1, e1⟩ := Rd.bool (h.field Try.underlying41 1 4 1 1 rfl c_bool1) Try.underlying4
  obtain ⟨y2, e2, g2⟩ := Rd.int (h.field Try.underlying41 2 3 2 1 rfl c_int1) Try.underlying3
  simp at e0 e1 e2
  subst e0; subst e1; subst e2
  exact ⟨⟨y0, y1, y2⟩, ecs, u8_of g0, i64_of g2⟩
theorem fifoRuns_own : ownKnob Try.prog.godebug = none := by kernel_rfl
theorem fifoRuns_laidOut : laidOutB Try.prog = true := by kernel_rfl
theorem fifoRuns_types : ∀ t ∈ Try.f4.params.toList, Try.prog.readableRec t = true ∧ t < Try.prog.types.size := by
  rw [Try.params4]
  intro t ht
  simp only [List.mem_cons, List.not_mem_nil, or_false] at ht
  rcases ht with rfl | rfl
  · exact ⟨by kernel_rfl, of_decide_eq_true (by kernel_rfl)⟩
  · exact ⟨by kernel_rfl, of_decide_eq_true (by kernel_rfl)⟩
set_option maxRecDepth 100000 in
theorem fifoRuns_lifted (os : Os) (started : os.Started) (H : Type) (enc : TypeId × Value → H) :
    ReturnsInHanded {} Try.checked os 4 .any (Rows.fifoRunsSpec.pre6 enc Try.prog Try.f4 Rows.fifoRunsRow.domain false) (Rows.fifoRunsSpec.post enc Try.prog Try.f4 false true false false) := by
  refine returnsInHanded_of_change (C := Try.checked) fifoRuns_own started (by kernel_rfl) Try.func4
    (ChangeSpec.witness6 (enc := enc) (C := Try.checked) false ⟨#[], #[.agg #[.int .i64 0, .int .i64 0], .slice none 0 0], []⟩ 8 (by kernel_rfl) (by kernel_rfl) (by kernel_rfl) (by kernel_rfl)) ?_
  intro W base args ds gs before hval0 hW hcnd _
  have hval : ∀ (j : Nat) t v, Try.f4.params[j]? = some t → args[j]? = some v → Value.okWide Try.prog W .any base t v := hval0
  have hW' := hW
  obtain ⟨p, q, hA0, hV, hpq, hfz, hnd⟩ := hW
  have hA : DataW.TrodAll enc Try.prog W 0 (fun _ => true) true Try.f4.params.toList args.toList ds p := hA0
  rw [Try.params4] at hA hval
  obtain ⟨v0, vs0, d0, ds0, p0, q0, hargs, rfl, rfl, h0, r0⟩ := trodAll_cons hA
  obtain ⟨v1, vs1, d1, ds1, p1, q1, rfl, rfl, rfl, h1, r1⟩ := trodAll_cons r0
  obtain ⟨rfl, rfl, rfl⟩ := trodAll_nil r1
  obtain rfl : args = #[v0, v1] := by cases args; simp_all
  have k0 := hval 0 34 v0 rfl rfl
  have k1 := hval 1 35 v1 rfl rfl
  clear hA0 hval0 hval hcnd hfz hnd hpq hV hargs r1
  suffices hs : Calls Try.prog 4 #[v0, v1] W (Gives (.bool true) W) from hs.mono fun e W' ⟨he, x, hx⟩ => ⟨_, he, law_post fifoRuns_laidOut hW' rfl rfl (by kernel_rfl) (by first | exact Try.underlying4 | rfl) fifoRuns_types (hx ▸ W.below_past x)⟩
  clear hW'
  obtain ⟨cs, rfl, hr⟩ := rd_agg (.inr ⟨_, _, Try.underlying34⟩) k0 h0
  obtain ⟨m0, m1, rfl, _⟩ := rd_pair hr
  obtain ⟨A, ca, l, rfl, ha, hkl, hl, _⟩ := rd_tabC (f := ddV) (c := 3) (K := fun x => (0 ≤ x.k ∧ x.k < 256) ∧ I64 x.v) ddV_length (by omega) (rd_slice Try.underlying35 k1 h1) Try.underlying35 c_deed3 (fun _ h => by obtain ⟨x, e, hk⟩ := rd_deed h; exact ⟨x, e, hk⟩)
  exact FifoRuns_any m0 m1 A ca _ l rfl hl hkl W ha
theorem fifoRuns_holds : Rows.FifoRunsSaid :=
  OpenClaim.holds_of_wide 4 Try.f4 rfl rfl rfl rfl rfl rfl rfl ⟨rfl, rfl, rfl, rfl, rfl⟩ rfl rfl rfl rfl rfl (by kernel_rfl) Try.func4 (by kernel_rfl)
    (of_decide_eq_true (by kernel_rfl)) (by unfold Func.isWrapper; first | (rw [if_pos (by decide +kernel)]; kernel_rfl) | (rw [if_neg (by decide +kernel)]; exact ⟨rfl, rfl⟩))
    (fun os started H enc _ => fifoRuns_lifted os started H enc)
end Go.Proofs.Ytifdogmlaengoaa
