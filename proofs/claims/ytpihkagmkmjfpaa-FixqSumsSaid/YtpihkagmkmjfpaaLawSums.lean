/-
  FixqSums holds for every input: sums, differences and products are the document's. No condition.
-/
import Derived.Test.YtpihkagmkmjfpaaNear
import Derived.Test.YtpihkagmkmjfpaaDigE
namespace Go.Proofs.Ytpihkagmkmjfpaa
open Go.RowKit Go.ChangeShapes Go.WideShapes Go.ChangeAt
set_option maxHeartbeats 4000000 in
theorem FixqSums_any (a b : Int) (w : World) (ha : U64 a) (hb : U64 b) :
    Calls Try.prog 5 #[.int .u64 a, .int .u64 b] w (Gives (.bool true) w) := by
  have Ha := hid ha
  have Hb := hid hb
  clear ha hb
  go_enter Try.func5, Try.ntmps5
  go_wp2_with (first | (go_at_call 8; refine (awake_any _).mono ?_; rintro _ _ ⟨rfl, _, rfl⟩) | (go_at_call 9; refine (Add_any _ _ Ha.out Hb.out _).mono ?_; rintro _ _ ⟨rfl, _, rfl⟩) | (go_at_call 14; refine (RAdd_any _ _ Ha.out Hb.out _).mono ?_; rintro _ _ ⟨rfl, _, rfl⟩) | (go_at_call 15; refine (Sub_any _ _ Ha.out Hb.out _).mono ?_; rintro _ _ ⟨rfl, _, rfl⟩) | (go_at_call 16; refine (RSub_any _ _ Ha.out Hb.out _).mono ?_; rintro _ _ ⟨rfl, _, rfl⟩) | (go_at_call 17; refine (Mul_any _ _ Ha.out Hb.out _).mono ?_; rintro _ _ ⟨rfl, _, rfl⟩) | (go_at_call 18; refine (RMul_any _ _ Ha.out Hb.out _).mono ?_; rintro _ _ ⟨rfl, _, rfl⟩))
  go_ret
  refine Gives.mk rfl ?_
  (repeat (first | exact Below.refl _ _ | refine RowKit.Below.past ?_ _ | refine RowKit.Below.alloc' ?_ _ | refine RowKit.Below.drew' ?_ | refine RowKit.Below.drewN' ?_ _ | refine RowKit.Below.setCell' ?_ (by simp [go_sem]) _))
theorem fixqSums_own : ownKnob Try.prog.godebug = none := by kernel_rfl
theorem fixqSums_laidOut : laidOutB Try.prog = true := by kernel_rfl
theorem fixqSums_types : ∀ t ∈ Try.f5.params.toList, Try.prog.readableRec t = true ∧ t < Try.prog.types.size := by
  rw [Try.params5]
  intro t ht
  simp only [List.mem_cons, List.not_mem_nil, or_false] at ht
  rcases ht with rfl | rfl
  · exact ⟨by kernel_rfl, of_decide_eq_true (by kernel_rfl)⟩
  · exact ⟨by kernel_rfl, of_decide_eq_true (by kernel_rfl)⟩
set_option maxRecDepth 100000 in
theorem fixqSums_lifted (os : Os) (started : os.Started) (H : Type) (enc : TypeId × Value → H) :
    ReturnsInHanded {} Try.checked os 5 .any (Rows.fixqSumsSpec.pre6 enc Try.prog Try.f5 Rows.fixqSumsRow.domain false) (Rows.fixqSumsSpec.post enc Try.prog Try.f5 false true false false) := by
  refine returnsInHanded_of_change (C := Try.checked) fixqSums_own started (by kernel_rfl) Try.func5
    (ChangeSpec.witness6 (enc := enc) (C := Try.checked) false ⟨#[], #[.int .u64 0, .int .u64 0], []⟩ 8 (by kernel_rfl) (by kernel_rfl) (by kernel_rfl) (by kernel_rfl)) ?_
  intro W base args ds gs before hval0 hW hcnd _
  have hval : ∀ (j : Nat) t v, Try.f5.params[j]? = some t → args[j]? = some v → Value.okWide Try.prog W .any base t v := hval0
  have hW' := hW
  obtain ⟨p, q, hA0, hV, hpq, hfz, hnd⟩ := hW
  have hA : DataW.TrodAll enc Try.prog W 0 (fun _ => true) true Try.f5.params.toList args.toList ds p := hA0
  rw [Try.params5] at hA hval
  obtain ⟨v0, vs0, d0, ds0, p0, q0, hargs, rfl, rfl, h0, r0⟩ := trodAll_cons hA
  obtain ⟨v1, vs1, d1, ds1, p1, q1, rfl, rfl, rfl, h1, r1⟩ := trodAll_cons r0
  obtain ⟨rfl, rfl, rfl⟩ := trodAll_nil r1
  obtain rfl : args = #[v0, v1] := by cases args; simp_all
  have k0 := hval 0 22 v0 rfl rfl
  have k1 := hval 1 22 v1 rfl rfl
  clear hA0 hval0 hval hcnd hfz hnd hpq hV hargs r1
  suffices hs : Calls Try.prog 5 #[v0, v1] W (Gives (.bool true) W) from hs.mono fun e W' ⟨he, x, hx⟩ => ⟨_, he, law_post fixqSums_laidOut hW' rfl rfl (by kernel_rfl) (by first | exact Try.underlying4 | rfl) fixqSums_types (hx ▸ W.below_past x)⟩
  clear hW'
  obtain ⟨a, rfl, _, _, wa⟩ := open_int Try.underlying22 k0 h0
  obtain ⟨b, rfl, _, _, wb⟩ := open_int Try.underlying22 k1 h1
  exact FixqSums_any a b W (u64_of wa) (u64_of wb)
theorem fixqSums_holds : Rows.FixqSumsSaid :=
  OpenClaim.holds_of_wide 5 Try.f5 rfl rfl rfl rfl rfl rfl rfl ⟨rfl, rfl, rfl, rfl, rfl⟩ rfl rfl rfl rfl rfl (by kernel_rfl) Try.func5 (by kernel_rfl)
    (of_decide_eq_true (by kernel_rfl)) (by unfold Func.isWrapper; first | (rw [if_pos (by decide +kernel)]; kernel_rfl) | (rw [if_neg (by decide +kernel)]; exact ⟨rfl, rfl⟩))
    (fun os started H enc _ => fixqSums_lifted os started H enc)
end Go.Proofs.Ytpihkagmkmjfpaa
