/-
  FixqParts holds for every input: what a product is, divided, and what is left over, is the document's. No condition.
-/
import Derived.Test.YtpihkagmkmjfpaaDivG
namespace Go.Proofs.Ytpihkagmkmjfpaa
open Go.RowKit Go.ChangeShapes Go.WideShapes Go.ChangeAt
set_option maxHeartbeats 4000000 in
theorem FixqParts_any (a b c : Int) (w : World) (ha : U64 a) (hb : U64 b) (hc : U64 c) :
    Calls Try.prog 6 #[.int .u64 a, .int .u64 b, .int .u64 c] w (Gives (.bool true) w) := by
  have Ha := hid ha
  have Hb := hid hb
  have Hc := hid hc
  rcases beq_cases c 0 with h | h
  · clear ha hb hc
    go_enter Try.func6, Try.ntmps6
    go_wp2_with (first | (go_at_call 8; refine (awake_any _).mono ?_; rintro _ _ ⟨rfl, _, rfl⟩) | (go_at_call 19; refine (MulDiv_any _ _ _ Ha.out Hb.out Hc.out _).mono ?_; rintro _ _ ⟨rfl, _, rfl⟩) | (go_at_call 21; refine (MulMod_any _ _ _ Ha.out Hb.out Hc.out _).mono ?_; rintro _ _ ⟨rfl, _, rfl⟩) | (go_at_call 20; refine (RMulDiv_any _ _ _ Ha.out Hb.out Hc.out _).mono ?_; rintro _ _ ⟨rfl, _, rfl⟩) | (go_at_call 22; refine (RMulMod_any _ _ _ Ha.out Hb.out Hc.out _).mono ?_; rintro _ _ ⟨rfl, _, rfl⟩))
    go_ret
    refine Gives.mk rfl ?_
    (repeat (first | exact Below.refl _ _ | refine RowKit.Below.past ?_ _ | refine RowKit.Below.alloc' ?_ _ | refine RowKit.Below.drew' ?_ | refine RowKit.Below.drewN' ?_ _ | refine RowKit.Below.setCell' ?_ (by simp [go_sem]) _))
  · have hlt : mmF a b c < c := by rw [(md_val ha hb hc (by simpa using h)).2.2.1]; exact (mm_word ha hb hc (by simpa using h)).2
    clear ha hb hc
    go_enter Try.func6, Try.ntmps6
    go_wp2_with (first | (go_at_call 8; refine (awake_any _).mono ?_; rintro _ _ ⟨rfl, _, rfl⟩) | (go_at_call 19; refine (MulDiv_any _ _ _ Ha.out Hb.out Hc.out _).mono ?_; rintro _ _ ⟨rfl, _, rfl⟩) | (go_at_call 21; refine (MulMod_any _ _ _ Ha.out Hb.out Hc.out _).mono ?_; rintro _ _ ⟨rfl, _, rfl⟩) | (go_at_call 20; refine (RMulDiv_any _ _ _ Ha.out Hb.out Hc.out _).mono ?_; rintro _ _ ⟨rfl, _, rfl⟩) | (go_at_call 22; refine (RMulMod_any _ _ _ Ha.out Hb.out Hc.out _).mono ?_; rintro _ _ ⟨rfl, _, rfl⟩))
    go_ret
    refine Gives.mk rfl ?_
    (repeat (first | exact Below.refl _ _ | refine RowKit.Below.past ?_ _ | refine RowKit.Below.alloc' ?_ _ | refine RowKit.Below.drew' ?_ | refine RowKit.Below.drewN' ?_ _ | refine RowKit.Below.setCell' ?_ (by simp [go_sem]) _))
theorem fixqParts_own : ownKnob Try.prog.godebug = none := by kernel_rfl
theorem fixqParts_laidOut : laidOutB Try.prog = true := by kernel_rfl
theorem fixqParts_types : ∀ t ∈ Try.f6.params.toList, Try.prog.readableRec t = true ∧ t < Try.prog.types.size := by
  rw [Try.params6]
  intro t ht
  simp only [List.mem_cons, List.not_mem_nil, or_false] at ht
  rcases ht with rfl | rfl | rfl
  · exact ⟨by kernel_rfl, of_decide_eq_true (by kernel_rfl)⟩
  · exact ⟨by kernel_rfl, of_decide_eq_true (by kernel_rfl)⟩
  · exact ⟨by kernel_rfl, of_decide_eq_true (by kernel_rfl)⟩
set_option maxRecDepth 100000 in
theorem fixqParts_lifted (os : Os) (started : os.Started) (H : Type) (enc : TypeId × Value → H) :
    ReturnsInHanded {} Try.checked os 6 .any (Rows.fixqPartsSpec.pre6 enc Try.prog Try.f6 Rows.fixqPartsRow.domain false) (Rows.fixqPartsSpec.post enc Try.prog Try.f6 false true false false) := by
  refine returnsInHanded_of_change (C := Try.checked) fixqParts_own started (by kernel_rfl) Try.func6
    (ChangeSpec.witness6 (enc := enc) (C := Try.checked) false ⟨#[], #[.int .u64 0, .int .u64 0, .int .u64 0], []⟩ 8 (by kernel_rfl) (by kernel_rfl) (by kernel_rfl) (by kernel_rfl)) ?_
  intro W base args ds gs before hval0 hW hcnd _
  have hval : ∀ (j : Nat) t v, Try.f6.params[j]? = some t → args[j]? = some v → Value.okWide Try.prog W .any base t v := hval0
  have hW' := hW
  obtain ⟨p, q, hA0, hV, hpq, hfz, hnd⟩ := hW
  have hA : DataW.TrodAll enc Try.prog W 0 (fun _ => true) true Try.f6.params.toList args.toList ds p := hA0
  rw [Try.params6] at hA hval
  obtain ⟨v0, vs0, d0, ds0, p0, q0, hargs, rfl, rfl, h0, r0⟩ := trodAll_cons hA
  obtain ⟨v1, vs1, d1, ds1, p1, q1, rfl, rfl, rfl, h1, r1⟩ := trodAll_cons r0
  obtain ⟨v2, vs2, d2, ds2, p2, q2, rfl, rfl, rfl, h2, r2⟩ := trodAll_cons r1
  obtain ⟨rfl, rfl, rfl⟩ := trodAll_nil r2
  obtain rfl : args = #[v0, v1, v2] := by cases args; simp_all
  have k0 := hval 0 22 v0 rfl rfl
  have k1 := hval 1 22 v1 rfl rfl
  have k2 := hval 2 22 v2 rfl rfl
  clear hA0 hval0 hval hcnd hfz hnd hpq hV hargs r2
  suffices hs : Calls Try.prog 6 #[v0, v1, v2] W (Gives (.bool true) W) from hs.mono fun e W' ⟨he, x, hx⟩ => ⟨_, he, law_post fixqParts_laidOut hW' rfl rfl (by kernel_rfl) (by first | exact Try.underlying4 | rfl) fixqParts_types (hx ▸ W.below_past x)⟩
  clear hW'
  obtain ⟨a, rfl, _, _, wa⟩ := open_int Try.underlying22 k0 h0
  obtain ⟨b, rfl, _, _, wb⟩ := open_int Try.underlying22 k1 h1
  obtain ⟨c, rfl, _, _, wc⟩ := open_int Try.underlying22 k2 h2
  exact FixqParts_any a b c W (u64_of wa) (u64_of wb) (u64_of wc)
theorem fixqParts_holds : Rows.FixqPartsSaid :=
  OpenClaim.holds_of_wide 6 Try.f6 rfl rfl rfl rfl rfl rfl rfl ⟨rfl, rfl, rfl, rfl, rfl⟩ rfl rfl rfl rfl rfl (by kernel_rfl) Try.func6 (by kernel_rfl)
    (of_decide_eq_true (by kernel_rfl)) (by unfold Func.isWrapper; first | (rw [if_pos (by decide +kernel)]; kernel_rfl) | (rw [if_neg (by decide +kernel)]; exact ⟨rfl, rfl⟩))
    (fun os started H enc _ => fixqParts_lifted os started H enc)
end Go.Proofs.Ytpihkagmkmjfpaa
