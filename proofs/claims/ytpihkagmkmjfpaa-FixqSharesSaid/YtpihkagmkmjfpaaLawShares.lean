/-
  FixqShares holds for every input: fractions are held against each other, and shares told to be near, as the document says. No condition.
-/
import Derived.Test.YtpihkagmkmjfpaaNear
import Derived.Test.YtpihkagmkmjfpaaDigE
namespace Go.Proofs.Ytpihkagmkmjfpaa
open Go.RowKit Go.ChangeShapes Go.WideShapes Go.ChangeAt
theorem comp_back (a b c d : Int) : compF c d a b = -compF a b c d ∧ compE d b = compE b d := by
  unfold compF compE
  cases h : (b == 0) <;> cases h2 : (d == 0)
  all_goals simp
  rw [ag_mul, ag_mul, Int.mul_comm c b, Int.mul_comm d a]
  unfold cmpF
  rcases Int.lt_trichotomy (a * d) (b * c) with h | h | h
  · have : ¬ b * c < a * d := by omega
    simp [h, this]
  · rw [h]; simp
  · have : ¬ a * d < b * c := by omega
    simp [h, this]
theorem comp_small (a b c d : Int) : -1 ≤ compF a b c d ∧ compF a b c d ≤ 1 := by
  unfold compF
  split
  · omega
  · rw [ag_mul]; unfold cmpF; split <;> (try split) <;> omega
set_option maxHeartbeats 4000000 in
theorem FixqShares_any (a b c d k : Int) (w : World) (h0 : U64 a) (h1 : U64 b) (h2 : U64 c) (h3 : U64 d) (hk : U64 k) :
    Calls Try.prog 4 #[.agg #[.int .u64 a, .int .u64 b, .int .u64 c, .int .u64 d, .int .u64 k]] w (Gives (.bool true) w) := by
  have H0 := hid h0
  have H1 := hid h1
  have H2 := hid h2
  have H3 := hid h3
  have Hk := hid hk
  obtain ⟨e1, e2⟩ := comp_back a b c d
  obtain ⟨s0, s1⟩ := comp_small a b c d
  have c2 := fun w => Compare_any c d a b H2.out H3.out H0.out H1.out w
  rw [e1, e2] at c2
  have C2 := hid c2
  clear h0 h1 h2 h3 hk e1 e2 c2
  go_enter Try.func4, Try.ntmps4
  go_wp2_with (first | (go_at_call 8; refine (awake_any _).mono ?_; rintro _ _ ⟨rfl, _, rfl⟩) | (go_at_call 11; first | ((with_reducible refine (Compare_any a b c d H0.out H1.out H2.out H3.out _).mono ?_); rintro _ _ ⟨rfl, _, rfl⟩) | ((with_reducible refine (C2.out _).mono ?_); rintro _ _ ⟨rfl, _, rfl⟩)) | (go_at_call 12; refine (RCompare_any a b c d H0.out H1.out H2.out H3.out _).mono ?_; rintro _ _ ⟨rfl, _, rfl⟩))
  refine wp_region_past (by kernel_rfl) (by kernel_rfl) ?_
  repeat (go_big_quiet_step ((first | (go_at_call 10; first | exact Calls.in_past (Near_any _ _ _ _ _ H0.out H1.out H2.out H3.out Hk.out _) | exact Calls.in_past2 (Near_any _ _ _ _ _ H0.out H1.out H2.out H3.out Hk.out _)) | (go_at_call 13; first | exact Calls.in_past (RNear_any _ _ _ _ _ H0.out H1.out H2.out H3.out Hk.out _) | exact Calls.in_past2 (RNear_any _ _ _ _ _ H0.out H1.out H2.out H3.out Hk.out _)))))
  refine wpQuiet_nil ?_
  rintro _ ⟨_, rfl⟩
  go_wp2
  go_ret
  refine Gives.mk rfl ?_
  (repeat (first | exact Below.refl _ _ | refine RowKit.Below.past ?_ _ | refine RowKit.Below.alloc' ?_ _ | refine RowKit.Below.drew' ?_ | refine RowKit.Below.drewN' ?_ _ | refine RowKit.Below.setCell' ?_ (by simp [go_sem]) _))
theorem c_five_22 : Try.prog.cellsOf 22 = 1 := by kernel_rfl
theorem c_five : Try.prog.cellsOf 30 = 5 := by kernel_rfl
theorem rd_five {H : Type} {enc : TypeId × Value → H} {W : World} {cs : Array Value} (h : Rd enc Try.prog W 30 cs.toList) : ∃ x0 x1 x2 x3 x4 : Int, cs = #[.int .u64 x0, .int .u64 x1, .int .u64 x2, .int .u64 x3, .int .u64 x4] ∧ U64 x0 ∧ U64 x1 ∧ U64 x2 ∧ U64 x3 ∧ U64 x4 := by
  obtain ⟨c0, c1, c2, c3, c4, e⟩ := cs_five (h.len_array Try.underlying30 c_five)
  rw [e] at h
  obtain ⟨x0, e0, w0⟩ := Rd.int (h.elem Try.underlying30 0 (by decide) 1 c_five_22) Try.underlying22
  obtain ⟨x1, e1, w1⟩ := Rd.int (h.elem Try.underlying30 1 (by decide) 1 c_five_22) Try.underlying22
  obtain ⟨x2, e2, w2⟩ := Rd.int (h.elem Try.underlying30 2 (by decide) 1 c_five_22) Try.underlying22
  obtain ⟨x3, e3, w3⟩ := Rd.int (h.elem Try.underlying30 3 (by decide) 1 c_five_22) Try.underlying22
  obtain ⟨x4, e4, w4⟩ := Rd.int (h.elem Try.underlying30 4 (by decide) 1 c_five_22) Try.underlying22
  simp at e0 e1 e2 e3 e4
  subst e0 e1 e2 e3 e4
  exact ⟨x0, x1, x2, x3, x4, arr_of e, u64_of w0, u64_of w1, u64_of w2, u64_of w3, u64_of w4⟩
theorem fixqShares_own : ownKnob Try.prog.godebug = none := by kernel_rfl
theorem fixqShares_laidOut : laidOutB Try.prog = true := by kernel_rfl
theorem fixqShares_types : ∀ t ∈ Try.f4.params.toList, Try.prog.readableRec t = true ∧ t < Try.prog.types.size := by
  rw [Try.params4]
  intro t ht
  simp only [List.mem_cons, List.not_mem_nil, or_false] at ht
  rcases ht with rfl
  · exact ⟨by kernel_rfl, of_decide_eq_true (by kernel_rfl)⟩
set_option maxRecDepth 100000 in
theorem fixqShares_lifted (os : Os) (started : os.Started) (H : Type) (enc : TypeId × Value → H) :
    ReturnsInHanded {} Try.checked os 4 .any (Rows.fixqSharesSpec.pre6 enc Try.prog Try.f4 Rows.fixqSharesRow.domain false) (Rows.fixqSharesSpec.post enc Try.prog Try.f4 false true false false) := by
  refine returnsInHanded_of_change (C := Try.checked) fixqShares_own started (by kernel_rfl) Try.func4
    (ChangeSpec.witness6 (enc := enc) (C := Try.checked) false ⟨#[], #[.agg #[.int .u64 0, .int .u64 0, .int .u64 0, .int .u64 0, .int .u64 0]], []⟩ 8 (by kernel_rfl) (by kernel_rfl) (by kernel_rfl) (by kernel_rfl)) ?_
  intro W base args ds gs before hval0 hW hcnd _
  have hval : ∀ (j : Nat) t v, Try.f4.params[j]? = some t → args[j]? = some v → Value.okWide Try.prog W .any base t v := hval0
  have hW' := hW
  obtain ⟨p, q, hA0, hV, hpq, hfz, hnd⟩ := hW
  have hA : DataW.TrodAll enc Try.prog W 0 (fun _ => true) true Try.f4.params.toList args.toList ds p := hA0
  rw [Try.params4] at hA hval
  obtain ⟨v0, vs0, d0, ds0, p0, q0, hargs, rfl, rfl, h0, r0⟩ := trodAll_cons hA
  obtain ⟨rfl, rfl, rfl⟩ := trodAll_nil r0
  obtain rfl : args = #[v0] := by cases args; simp_all
  have k0 := hval 0 30 v0 rfl rfl
  clear hA0 hval0 hval hcnd hfz hnd hpq hV hargs r0
  suffices hs : Calls Try.prog 4 #[v0] W (Gives (.bool true) W) from hs.mono fun e W' ⟨he, x, hx⟩ => ⟨_, he, law_post fixqShares_laidOut hW' rfl rfl (by kernel_rfl) (by first | exact Try.underlying4 | rfl) fixqShares_types (hx ▸ W.below_past x)⟩
  clear hW'
  obtain ⟨c0, rfl, g0⟩ := rd_agg (.inr ⟨_, _, Try.underlying30⟩) k0 h0
  obtain ⟨a, b, c, d, k, rfl, ha, hb, hc, hd, hk⟩ := rd_five g0
  exact FixqShares_any a b c d k W ha hb hc hd hk
theorem fixqShares_holds : Rows.FixqSharesSaid :=
  OpenClaim.holds_of_wide 4 Try.f4 rfl rfl rfl rfl rfl rfl rfl ⟨rfl, rfl, rfl, rfl, rfl⟩ rfl rfl rfl rfl rfl (by kernel_rfl) Try.func4 (by kernel_rfl)
    (of_decide_eq_true (by kernel_rfl)) (by unfold Func.isWrapper; first | (rw [if_pos (by decide +kernel)]; kernel_rfl) | (rw [if_neg (by decide +kernel)]; exact ⟨rfl, rfl⟩))
    (fun os started H enc _ => fixqShares_lifted os started H enc)
end Go.Proofs.Ytpihkagmkmjfpaa
