/-
  UnitCalls holds for every input: what ticks cost, and where a number is brought, is the document's. No condition.
-/
import Derived.Test.YthdghppbfoapfaaFair
namespace Go.Proofs.Ythdghppbfoapfaa
open Go.RowKit Go.ChangeShapes Go.WideShapes Go.ChangeAt
set_option maxHeartbeats 4000000 in
theorem UnitCalls_any (a b c x y z : Int) (w : World) (hy : U64 y) (hz : U64 z) :
    Calls Try.prog 4 #[.agg #[.int .i64 a, .int .i64 b, .int .i64 c], .agg #[.int .u64 x, .int .u64 y, .int .u64 z]] w (Gives (.bool true) w) := by
  have Hy := hid hy
  have Hz := hid hz
  clear hy hz
  go_enter Try.func4, Try.ntmps4
  go_wp2_with ((go_at_call 5; refine (awake_any _).mono ?_; rintro _ _ ⟨rfl, _, rfl⟩))
  refine wp_region_past (by kernel_rfl) (by kernel_rfl) ?_
  repeat (go_big_quiet_step ((first | (go_at_call 8; first | exact Calls.in_past (Core_any _ _) | exact Calls.in_past2 (Core_any _ _)) | (go_at_call 9; first | exact Calls.in_past (RCore_any _ _) | exact Calls.in_past2 (RCore_any _ _)) | (go_at_call 6; first | exact Calls.in_past (Lock_any _ _) | exact Calls.in_past2 (Lock_any _ _)) | (go_at_call 10; first | exact Calls.in_past (RLock_any _ _) | exact Calls.in_past2 (RLock_any _ _)) | (go_at_call 11; first | exact Calls.in_past (Reach_any _ _ _) | exact Calls.in_past2 (Reach_any _ _ _)) | (go_at_call 12; first | exact Calls.in_past (RReach_any _ _ _) | exact Calls.in_past2 (RReach_any _ _ _)) | (go_at_call 13; first | exact Calls.in_past (Slack_any _ _ _ _) | exact Calls.in_past2 (Slack_any _ _ _ _)) | (go_at_call 14; first | exact Calls.in_past (RSlack_any _ _ _ _) | exact Calls.in_past2 (RSlack_any _ _ _ _)) | (go_at_call 15; first | exact Calls.in_past (Clamp_any _ _ _ Hy.out Hz.out _) | exact Calls.in_past2 (Clamp_any _ _ _ Hy.out Hz.out _)) | (go_at_call 16; first | exact Calls.in_past (RClamp_any _ _ _ Hy.out Hz.out _) | exact Calls.in_past2 (RClamp_any _ _ _ Hy.out Hz.out _)))))
  refine wpQuiet_nil ?_
  rintro _ ⟨_, rfl⟩
  go_wp2
  go_ret
  refine Gives.mk rfl ?_
  (repeat (first | exact Below.refl _ _ | refine RowKit.Below.past ?_ _ | refine RowKit.Below.alloc' ?_ _ | refine RowKit.Below.drew' ?_ | refine RowKit.Below.drewN' ?_ _ | refine RowKit.Below.setCell' ?_ (by simp [go_sem]) _))
theorem c_ints_3 : Try.prog.cellsOf 3 = 1 := by kernel_rfl
theorem c_ints : Try.prog.cellsOf 32 = 3 := by kernel_rfl
theorem rd_ints {H : Type} {enc : TypeId × Value → H} {W : World} {cs : Array Value} (h : Rd enc Try.prog W 32 cs.toList) : ∃ x0 x1 x2 : Int, cs = #[.int .i64 x0, .int .i64 x1, .int .i64 x2] ∧ I64 x0 ∧ I64 x1 ∧ I64 x2 := by
  obtain ⟨c0, c1, c2, e⟩ := cs_three (h.len_array Try.underlying32 c_ints)
  rw [e] at h
  obtain ⟨x0, e0, w0⟩ := Rd.int (h.elem Try.underlying32 0 (by decide) 1 c_ints_3) Try.underlying3
  obtain ⟨x1, e1, w1⟩ := Rd.int (h.elem Try.underlying32 1 (by decide) 1 c_ints_3) Try.underlying3
  obtain ⟨x2, e2, w2⟩ := Rd.int (h.elem Try.underlying32 2 (by decide) 1 c_ints_3) Try.underlying3
  simp at e0 e1 e2
  subst e0 e1 e2
  exact ⟨x0, x1, x2, arr_of e, i64_of w0, i64_of w1, i64_of w2⟩
theorem c_words_25 : Try.prog.cellsOf 25 = 1 := by kernel_rfl
theorem c_words : Try.prog.cellsOf 33 = 3 := by kernel_rfl
theorem rd_words {H : Type} {enc : TypeId × Value → H} {W : World} {cs : Array Value} (h : Rd enc Try.prog W 33 cs.toList) : ∃ x0 x1 x2 : Int, cs = #[.int .u64 x0, .int .u64 x1, .int .u64 x2] ∧ U64 x0 ∧ U64 x1 ∧ U64 x2 := by
  obtain ⟨c0, c1, c2, e⟩ := cs_three (h.len_array Try.underlying33 c_words)
  rw [e] at h
  obtain ⟨x0, e0, w0⟩ := Rd.int (h.elem Try.underlying33 0 (by decide) 1 c_words_25) Try.underlying25
  obtain ⟨x1, e1, w1⟩ := Rd.int (h.elem Try.underlying33 1 (by decide) 1 c_words_25) Try.underlying25
  obtain ⟨x2, e2, w2⟩ := Rd.int (h.elem Try.underlying33 2 (by decide) 1 c_words_25) Try.underlying25
  simp at e0 e1 e2
  subst e0 e1 e2
  exact ⟨x0, x1, x2, arr_of e, u64_of w0, u64_of w1, u64_of w2⟩
theorem unitCalls_own : ownKnob Try.prog.godebug = none := by kernel_rfl
theorem unitCalls_laidOut : laidOutB Try.prog = true := by kernel_rfl
theorem unitCalls_types : ∀ t ∈ Try.f4.params.toList, Try.prog.readableRec t = true ∧ t < Try.prog.types.size := by
  rw [Try.params4]
  intro t ht
  simp only [List.mem_cons, List.not_mem_nil, or_false] at ht
  rcases ht with rfl | rfl
  · exact ⟨by kernel_rfl, of_decide_eq_true (by kernel_rfl)⟩
  · exact ⟨by kernel_rfl, of_decide_eq_true (by kernel_rfl)⟩
set_option maxRecDepth 100000 in
theorem unitCalls_lifted (os : Os) (started : os.Started) (H : Type) (enc : TypeId × Value → H) :
    ReturnsInHanded {} Try.checked os 4 .any (Rows.unitCallsSpec.pre6 enc Try.prog Try.f4 Rows.unitCallsRow.domain false) (Rows.unitCallsSpec.post enc Try.prog Try.f4 false true false false) := by
  refine returnsInHanded_of_change (C := Try.checked) unitCalls_own started (by kernel_rfl) Try.func4
    (ChangeSpec.witness6 (enc := enc) (C := Try.checked) false ⟨#[], #[.agg #[.int .i64 0, .int .i64 0, .int .i64 0], .agg #[.int .u64 0, .int .u64 0, .int .u64 0]], []⟩ 8 (by kernel_rfl) (by kernel_rfl) (by kernel_rfl) (by kernel_rfl)) ?_
  intro W base args ds gs before hval0 hW hcnd _
  have hval : ∀ (j : Nat) t v, Try.f4.params[j]? = some t → args[j]? = some v → Value.okWide Try.prog W .any base t v := hval0
  have hW' := hW
  obtain ⟨p, q, hA0, hV, hpq, hfz, hnd⟩ := hW
  have hA : DataW.TrodAll enc Try.prog W 0 (fun _ => true) true Try.f4.params.toList args.toList ds p := hA0
  rw [Try.params4] at hA hval
  obtain ⟨v0, vs0, d0, ds0, p0, q0, hargs, rfl, rfl, h0, r0⟩ := trodAll_cons hA
  obtain ⟨v1, vs1, d1, ds1, p1, q1, rfl, rfl, rfl, h1, r1⟩ := trodAll_cons r0
  obtain ⟨rfl, rfl, rfl⟩ := trodAll_nil r1
  obtain rfl : args = #[v0, v1] := by cases args; simp_all
  have k0 := hval 0 32 v0 rfl rfl
  have k1 := hval 1 33 v1 rfl rfl
  clear hA0 hval0 hval hcnd hfz hnd hpq hV hargs r1
  suffices hs : Calls Try.prog 4 #[v0, v1] W (Gives (.bool true) W) from hs.mono fun e W' ⟨he, x, hx⟩ => ⟨_, he, law_post unitCalls_laidOut hW' rfl rfl (by kernel_rfl) (by first | exact Try.underlying4 | rfl) unitCalls_types (hx ▸ W.below_past x)⟩
  clear hW'
  obtain ⟨c0, rfl, g0⟩ := rd_agg (.inr ⟨_, _, Try.underlying32⟩) k0 h0
  obtain ⟨a, b, c, rfl, _, _, _⟩ := rd_ints g0
  obtain ⟨c1, rfl, g1⟩ := rd_agg (.inr ⟨_, _, Try.underlying33⟩) k1 h1
  obtain ⟨x, y, z, rfl, _, hy, hz⟩ := rd_words g1
  exact UnitCalls_any a b c x y z W hy hz
theorem unitCalls_holds : Rows.UnitCallsSaid :=
  OpenClaim.holds_of_wide 4 Try.f4 rfl rfl rfl rfl rfl rfl rfl ⟨rfl, rfl, rfl, rfl, rfl⟩ rfl rfl rfl rfl rfl (by kernel_rfl) Try.func4 (by kernel_rfl)
    (of_decide_eq_true (by kernel_rfl)) (by unfold Func.isWrapper; first | (rw [if_pos (by decide +kernel)]; kernel_rfl) | (rw [if_neg (by decide +kernel)]; exact ⟨rfl, rfl⟩))
    (fun os started H enc _ => unitCalls_lifted os started H enc)
end Go.Proofs.Ythdghppbfoapfaa
