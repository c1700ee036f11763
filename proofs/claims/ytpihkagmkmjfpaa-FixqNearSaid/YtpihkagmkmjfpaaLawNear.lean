/-
  FixqNear holds for every input: what is near by some is near by more; shares that are the same are near by none. No condition.
-/
import Derived.Test.YtpihkagmkmjfpaaNear
namespace Go.Proofs.Ytpihkagmkmjfpaa
open Go.RowKit Go.ChangeShapes Go.WideShapes Go.ChangeAt
theorem Near_is {a b t l k : Int} {c : Bool} (h : nearF a b t l k = c) (ha : U64 a) (hb : U64 b) (ht : U64 t) (hl : U64 l) (hk : U64 k) (w : World) :
    Calls Try.prog 10 #[.int .u64 a, .int .u64 b, .int .u64 t, .int .u64 l, .int .u64 k] w (Gives (.bool c) w) := h ▸ Near_any a b t l k ha hb ht hl hk w
set_option maxHeartbeats 4000000 in
theorem FixqNear_any (a b c d k m : Int) (w : World) (h0 : U64 a) (h1 : U64 b) (h2 : U64 c) (h3 : U64 d) (hk : U64 k) (hm : U64 m) :
    Calls Try.prog 3 #[.agg #[.int .u64 a, .int .u64 b, .int .u64 c, .int .u64 d], .int .u64 k, .int .u64 m] w (Gives (.bool true) w) := by
  have H0 := hid h0
  have H1 := hid h1
  have H2 := hid h2
  have H3 := hid h3
  have Hk := hid hk
  have Hm := hid hm
  have n1 := hid (show nearF a b a b 0 = true by rw [near_iff _ _ _ _ _ h0 h1 h0 h1, Int.mul_comm b a]; omega)
  have n2 := hid (show nearF a a b b 0 = true by rw [near_iff _ _ _ _ _ h0 h0 h1 h1]; omega)
  by_cases he : addE k m = 0
  · have hf := add_spec k m hk hm he
    have Hf := hid hf.2
    have he' : (addE k m != 0) = false := by simp [he]
    have hmore : nearF a b c d k = true → nearF a b c d (addF k m) = true := fun h => near_more h0 h1 h2 h3 h (by rw [hf.1]; have := hm.1; omega)
    clear he hf
    rcases Bool.eq_false_or_eq_true (nearF a b c d k) with hn | hn
    · have n4 := hid (hmore hn)
      have n3 := hid hn
      clear h0 h1 h2 h3 hk hm hmore hn
      go_enter Try.func3, Try.ntmps3
      go_wp2_with (first | (go_at_call 8; refine (awake_any _).mono ?_; rintro _ _ ⟨rfl, _, rfl⟩) | (go_at_call 9; refine (Add_any _ _ Hk.out Hm.out _).mono ?_; rintro _ _ ⟨rfl, _, rfl⟩) | (go_at_call 10; refine (Near_is (by first | exact n3.out | exact n4.out | exact n1.out | exact n2.out) (by first | exact H0.out | exact H1.out | exact H2.out | exact H3.out | exact Hk.out | exact Hf.out | exact ⟨by decide, by decide⟩) (by first | exact H0.out | exact H1.out | exact H2.out | exact H3.out | exact Hk.out | exact Hf.out | exact ⟨by decide, by decide⟩) (by first | exact H0.out | exact H1.out | exact H2.out | exact H3.out | exact Hk.out | exact Hf.out | exact ⟨by decide, by decide⟩) (by first | exact H0.out | exact H1.out | exact H2.out | exact H3.out | exact Hk.out | exact Hf.out | exact ⟨by decide, by decide⟩) (by first | exact H0.out | exact H1.out | exact H2.out | exact H3.out | exact Hk.out | exact Hf.out | exact ⟨by decide, by decide⟩) _).mono ?_; rintro _ _ ⟨rfl, _, rfl⟩))
      go_ret
      refine Gives.mk rfl ?_
      (repeat (first | exact Below.refl _ _ | refine RowKit.Below.past ?_ _ | refine RowKit.Below.alloc' ?_ _ | refine RowKit.Below.drew' ?_ | refine RowKit.Below.drewN' ?_ _ | refine RowKit.Below.setCell' ?_ (by simp [go_sem]) _))
    · have n3 := hid hn
      clear h0 h1 h2 h3 hk hm hmore hn
      go_enter Try.func3, Try.ntmps3
      go_wp2_with (first | (go_at_call 8; refine (awake_any _).mono ?_; rintro _ _ ⟨rfl, _, rfl⟩) | (go_at_call 9; refine (Add_any _ _ Hk.out Hm.out _).mono ?_; rintro _ _ ⟨rfl, _, rfl⟩) | (go_at_call 10; refine (Near_is (by first | exact n3.out |  exact n1.out | exact n2.out) (by first | exact H0.out | exact H1.out | exact H2.out | exact H3.out | exact Hk.out | exact Hf.out | exact ⟨by decide, by decide⟩) (by first | exact H0.out | exact H1.out | exact H2.out | exact H3.out | exact Hk.out | exact Hf.out | exact ⟨by decide, by decide⟩) (by first | exact H0.out | exact H1.out | exact H2.out | exact H3.out | exact Hk.out | exact Hf.out | exact ⟨by decide, by decide⟩) (by first | exact H0.out | exact H1.out | exact H2.out | exact H3.out | exact Hk.out | exact Hf.out | exact ⟨by decide, by decide⟩) (by first | exact H0.out | exact H1.out | exact H2.out | exact H3.out | exact Hk.out | exact Hf.out | exact ⟨by decide, by decide⟩) _).mono ?_; rintro _ _ ⟨rfl, _, rfl⟩))
      go_ret
      refine Gives.mk rfl ?_
      (repeat (first | exact Below.refl _ _ | refine RowKit.Below.past ?_ _ | refine RowKit.Below.alloc' ?_ _ | refine RowKit.Below.drew' ?_ | refine RowKit.Below.drewN' ?_ _ | refine RowKit.Below.setCell' ?_ (by simp [go_sem]) _))
  · have he' : (addE k m != 0) = true := by simp [he]
    clear he h0 h1 h2 h3 hk hm
    go_enter Try.func3, Try.ntmps3
    go_wp2_with (first | (go_at_call 8; refine (awake_any _).mono ?_; rintro _ _ ⟨rfl, _, rfl⟩) | (go_at_call 9; refine (Add_any _ _ Hk.out Hm.out _).mono ?_; rintro _ _ ⟨rfl, _, rfl⟩))
    go_ret
    refine Gives.mk rfl ?_
    (repeat (first | exact Below.refl _ _ | refine RowKit.Below.past ?_ _ | refine RowKit.Below.alloc' ?_ _ | refine RowKit.Below.drew' ?_ | refine RowKit.Below.drewN' ?_ _ | refine RowKit.Below.setCell' ?_ (by simp [go_sem]) _))
theorem c_four_22 : Try.prog.cellsOf 22 = 1 := by kernel_rfl
theorem c_four : Try.prog.cellsOf 23 = 4 := by kernel_rfl
theorem rd_four {H : Type} {enc : TypeId × Value → H} {W : World} {cs : Array Value} (h : Rd enc Try.prog W 23 cs.toList) : ∃ x0 x1 x2 x3 : Int, cs = #[.int .u64 x0, .int .u64 x1, .int .u64 x2, .int .u64 x3] ∧ U64 x0 ∧ U64 x1 ∧ U64 x2 ∧ U64 x3 := by
  obtain ⟨c0, c1, c2, c3, e⟩ := cs_four (h.len_array Try.underlying23 c_four)
  rw [e] at h
  obtain ⟨x0, e0, w0⟩ := Rd.int (h.elem Try.underlying23 0 (by decide) 1 c_four_22) Try.underlying22
  obtain ⟨x1, e1, w1⟩ := Rd.int (h.elem Try.underlying23 1 (by decide) 1 c_four_22) Try.underlying22
  obtain ⟨x2, e2, w2⟩ := Rd.int (h.elem Try.underlying23 2 (by decide) 1 c_four_22) Try.underlying22
  obtain ⟨x3, e3, w3⟩ := Rd.int (h.elem Try.underlying23 3 (by decide) 1 c_four_22) Try.underlying22
  simp at e0 e1 e2 e3
  subst e0 e1 e2 e3
  exact ⟨x0, x1, x2, x3, arr_of e, u64_of w0, u64_of w1, u64_of w2, u64_of w3⟩
theorem fixqNear_own : ownKnob Try.prog.godebug = none := by kernel_rfl
theorem fixqNear_laidOut : laidOutB Try.prog = true := by kernel_rfl
theorem fixqNear_types : ∀ t ∈ Try.f3.params.toList, Try.prog.readableRec t = true ∧ t < Try.prog.types.size := by
  rw [Try.params3]
  intro t ht
  simp only [List.mem_cons, List.not_mem_nil, or_false] at ht
  rcases ht with rfl | rfl | rfl
  · exact ⟨by kernel_rfl, of_decide_eq_true (by kernel_rfl)⟩
  · exact ⟨by kernel_rfl, of_decide_eq_true (by kernel_rfl)⟩
  · exact ⟨by kernel_rfl, of_decide_eq_true (by kernel_rfl)⟩
set_option maxRecDepth 100000 in
theorem fixqNear_lifted (os : Os) (started : os.Started) (H : Type) (enc : TypeId × Value → H) :
    ReturnsInHanded {} Try.checked os 3 .any (Rows.fixqNearSpec.pre6 enc Try.prog Try.f3 Rows.fixqNearRow.domain false) (Rows.fixqNearSpec.post enc Try.prog Try.f3 false true false false) := by
  refine returnsInHanded_of_change (C := Try.checked) fixqNear_own started (by kernel_rfl) Try.func3
    (ChangeSpec.witness6 (enc := enc) (C := Try.checked) false ⟨#[], #[.agg #[.int .u64 0, .int .u64 0, .int .u64 0, .int .u64 0], .int .u64 0, .int .u64 0], []⟩ 8 (by kernel_rfl) (by kernel_rfl) (by kernel_rfl) (by kernel_rfl)) ?_
  intro W base args ds gs before hval0 hW hcnd _
  have hval : ∀ (j : Nat) t v, Try.f3.params[j]? = some t → args[j]? = some v → Value.okWide Try.prog W .any base t v := hval0
  have hW' := hW
  obtain ⟨p, q, hA0, hV, hpq, hfz, hnd⟩ := hW
  have hA : DataW.TrodAll enc Try.prog W 0 (fun _ => true) true Try.f3.params.toList args.toList ds p := hA0
  rw [Try.params3] at hA hval
  obtain ⟨v0, vs0, d0, ds0, p0, q0, hargs, rfl, rfl, h0, r0⟩ := trodAll_cons hA
  obtain ⟨v1, vs1, d1, ds1, p1, q1, rfl, rfl, rfl, h1, r1⟩ := trodAll_cons r0
  obtain ⟨v2, vs2, d2, ds2, p2, q2, rfl, rfl, rfl, h2, r2⟩ := trodAll_cons r1
  obtain ⟨rfl, rfl, rfl⟩ := trodAll_nil r2
  obtain rfl : args = #[v0, v1, v2] := by cases args; simp_all
  have k0 := hval 0 23 v0 rfl rfl
  have k1 := hval 1 22 v1 rfl rfl
  have k2 := hval 2 22 v2 rfl rfl
  clear hA0 hval0 hval hcnd hfz hnd hpq hV hargs r2
  suffices hs : Calls Try.prog 3 #[v0, v1, v2] W (Gives (.bool true) W) from hs.mono fun e W' ⟨he, x, hx⟩ => ⟨_, he, law_post fixqNear_laidOut hW' rfl rfl (by kernel_rfl) (by first | exact Try.underlying4 | rfl) fixqNear_types (hx ▸ W.below_past x)⟩
  clear hW'
  obtain ⟨c0, rfl, g0⟩ := rd_agg (.inr ⟨_, _, Try.underlying23⟩) k0 h0
  obtain ⟨a, b, c, d, rfl, ha, hb, hc, hd⟩ := rd_four g0
  obtain ⟨k, rfl, _, _, wk⟩ := open_int Try.underlying22 k1 h1
  obtain ⟨m, rfl, _, _, wm⟩ := open_int Try.underlying22 k2 h2
  exact FixqNear_any a b c d k m W ha hb hc hd (u64_of wk) (u64_of wm)
theorem fixqNear_holds : Rows.FixqNearSaid :=
  OpenClaim.holds_of_wide 3 Try.f3 rfl rfl rfl rfl rfl rfl rfl ⟨rfl, rfl, rfl, rfl, rfl⟩ rfl rfl rfl rfl rfl (by kernel_rfl) Try.func3 (by kernel_rfl)
    (of_decide_eq_true (by kernel_rfl)) (by unfold Func.isWrapper; first | (rw [if_pos (by decide +kernel)]; kernel_rfl) | (rw [if_neg (by decide +kernel)]; exact ⟨rfl, rfl⟩))
    (fun os started H enc _ => fixqNear_lifted os started H enc)
end Go.Proofs.Ytpihkagmkmjfpaa
