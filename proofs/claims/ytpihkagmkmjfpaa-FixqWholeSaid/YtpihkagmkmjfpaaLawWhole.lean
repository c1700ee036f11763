/-
  FixqWhole holds for every input: what is left over, and the whole part times what it is divided by, are the product again, if that fits. No condition.
-/
import Derived.Test.YtpihkagmkmjfpaaNear
namespace Go.Proofs.Ytpihkagmkmjfpaa
open Go.RowKit Go.ChangeShapes Go.WideShapes Go.ChangeAt
theorem mul_spec (a b : Int) (ha : U64 a) (hb : U64 b) (h : mulE a b = 0) : mulF a b = a * b ∧ hiF a b = 0 ∧ loF a b = a * b := by
  unfold mulE at h
  have e : hiF a b = 0 := by
    by_cases e : hiF a b = 0
    · exact e
    · simp [e] at h
  have x := hilo a b
  rw [e] at x
  refine ⟨?_, e, by omega⟩
  unfold mulF
  rw [e]
  simp only [beq_self_eq_true, if_true]
  omega
theorem fits_mul {a b : Int} (h0 : 0 ≤ a * b) (h1 : a * b < 18446744073709551616) : mulE a b = 0 ∧ mulF a b = a * b := by
  have e : hiF a b = 0 := by unfold hiF top64; omega
  have x := hilo a b
  rw [e] at x
  unfold mulE mulF
  rw [e]
  simp only [beq_self_eq_true, if_true]
  exact ⟨trivial, by omega⟩
theorem fits_add {a b : Int} (h0 : 0 ≤ a + b) (h1 : a + b < 18446744073709551616) : addE a b = 0 ∧ addF a b = a + b := by
  have e : carF a b 0 = 0 := by unfold carF top64; omega
  have x : sumF a b 0 = a + b := by unfold sumF top64; omega
  unfold addE addF
  rw [e, x]
  simp
/-- The law on numbers. -/
theorem whole (a b c : Int) (ha : U64 a) (hb : U64 b) (hc : U64 c) (h : mulE a b = 0) (h0 : c ≠ 0) :
    mdE a b c = 0 ∧ mmE c = 0 ∧ U64 (mdF a b c) ∧ U64 (mmF a b c) ∧ mulE (mdF a b c) c = 0 ∧ U64 (mulF (mdF a b c) c) ∧ addE (mulF (mdF a b c) c) (mmF a b c) = 0 ∧ addF (mulF (mdF a b c) c) (mmF a b c) = mulF a b := by
  obtain ⟨e1, e2, e3⟩ := mul_spec a b ha hb h
  have hc0 : 0 < c := by have := hc.1; omega
  have hw := lo_word a b
  rw [e3] at hw
  have q : mdF a b c = a * b / c := by
    unfold mdF quoF
    rw [e2, e3]
    have : ¬ c ≤ 0 := by omega
    simp [h0, this]
  have r : mmF a b c = a * b % c := by
    unfold mmF remF
    rw [e2, e3]
    simp [h0]
  have x := Int.mul_ediv_add_emod (a * b) c
  rw [Int.mul_comm] at x
  have r0 := Int.emod_nonneg (a * b) (show c ≠ 0 by omega)
  have r1 := Int.emod_lt_of_pos (a * b) hc0
  have q0 := Int.ediv_nonneg hw.1 (show 0 ≤ c by omega)
  have q1 := Int.ediv_le_self c hw.1
  have m0 := Int.mul_nonneg q0 (show 0 ≤ c by omega)
  obtain ⟨w0, w1⟩ := hw
  obtain ⟨c0, c1⟩ := hc
  rw [q, r, e1]
  have f := fits_mul (a := a * b / c) (b := c) m0 (by omega)
  have g := fits_add (a := mulF (a * b / c) c) (b := a * b % c) (by rw [f.2]; omega) (by rw [f.2]; omega)
  refine ⟨?_, ?_, ⟨q0, by omega⟩, ⟨r0, by omega⟩, f.1, ?_, g.1, ?_⟩
  · unfold mdE; rw [e2]; have : ¬ c ≤ 0 := by omega
    simp [h0, this]
  · unfold mmE; simp [h0]
  · rw [f.2]; exact ⟨m0, by omega⟩
  · rw [g.2, f.2]; omega
set_option maxHeartbeats 4000000 in
theorem FixqWhole_any (a b c : Int) (w : World) (ha : U64 a) (hb : U64 b) (hc : U64 c) :
    Calls Try.prog 7 #[.int .u64 a, .int .u64 b, .int .u64 c] w (Gives (.bool true) w) := by
  have Ha := hid ha
  have Hb := hid hb
  have Hc := hid hc
  by_cases he : mulE a b = 0
  · by_cases h0 : c = 0
    · have d1 : (mulE a b != 0) = false := by simp [he]
      have d2 : (c == 0) = true := by simp [h0]
      clear ha hb hc he h0
      go_enter Try.func7, Try.ntmps7
      go_wp2_with (first | (go_at_call 8; refine (awake_any _).mono ?_; rintro _ _ ⟨rfl, _, rfl⟩) | (go_at_call 17; refine (Mul_any _ _ Ha.out Hb.out _).mono ?_; rintro _ _ ⟨rfl, _, rfl⟩))
      go_ret
      refine Gives.mk rfl ?_
      (repeat (first | exact Below.refl _ _ | refine RowKit.Below.past ?_ _ | refine RowKit.Below.alloc' ?_ _ | refine RowKit.Below.drew' ?_ | refine RowKit.Below.drewN' ?_ _ | refine RowKit.Below.setCell' ?_ (by simp [go_sem]) _))
    · obtain ⟨i1, i2, i3, i4, i5, i6, i7, i8⟩ := whole a b c ha hb hc he h0
      have d1 : (mulE a b != 0) = false := by simp [he]
      have d2 : (c == 0) = false := by simp [h0]
      have I3 := hid i3
      have I4 := hid i4
      have I6 := hid i6
      clear ha hb hc he h0 i3 i4 i6
      go_enter Try.func7, Try.ntmps7
      go_wp2_with (first | (go_at_call 8; refine (awake_any _).mono ?_; rintro _ _ ⟨rfl, _, rfl⟩) | (go_at_call 17; first | ((with_reducible refine (Mul_any a b Ha.out Hb.out _).mono ?_); rintro _ _ ⟨rfl, _, rfl⟩) | ((with_reducible refine (Mul_any (mdF a b c) c I3.out Hc.out _).mono ?_); rintro _ _ ⟨rfl, _, rfl⟩)) | (go_at_call 19; refine (MulDiv_any _ _ _ Ha.out Hb.out Hc.out _).mono ?_; rintro _ _ ⟨rfl, _, rfl⟩) | (go_at_call 21; refine (MulMod_any _ _ _ Ha.out Hb.out Hc.out _).mono ?_; rintro _ _ ⟨rfl, _, rfl⟩) | (go_at_call 9; refine (Add_any _ _ I6.out I4.out _).mono ?_; rintro _ _ ⟨rfl, _, rfl⟩))
      go_ret
      refine Gives.mk rfl ?_
      (repeat (first | exact Below.refl _ _ | refine RowKit.Below.past ?_ _ | refine RowKit.Below.alloc' ?_ _ | refine RowKit.Below.drew' ?_ | refine RowKit.Below.drewN' ?_ _ | refine RowKit.Below.setCell' ?_ (by simp [go_sem]) _))
  · have d1 : (mulE a b != 0) = true := by simp [he]
    clear ha hb hc he
    go_enter Try.func7, Try.ntmps7
    go_wp2_with (first | (go_at_call 8; refine (awake_any _).mono ?_; rintro _ _ ⟨rfl, _, rfl⟩) | (go_at_call 17; refine (Mul_any _ _ Ha.out Hb.out _).mono ?_; rintro _ _ ⟨rfl, _, rfl⟩))
    go_ret
    refine Gives.mk rfl ?_
    (repeat (first | exact Below.refl _ _ | refine RowKit.Below.past ?_ _ | refine RowKit.Below.alloc' ?_ _ | refine RowKit.Below.drew' ?_ | refine RowKit.Below.drewN' ?_ _ | refine RowKit.Below.setCell' ?_ (by simp [go_sem]) _))
theorem fixqWhole_own : ownKnob Try.prog.godebug = none := by kernel_rfl
theorem fixqWhole_laidOut : laidOutB Try.prog = true := by kernel_rfl
theorem fixqWhole_types : ∀ t ∈ Try.f7.params.toList, Try.prog.readableRec t = true ∧ t < Try.prog.types.size := by
  rw [Try.params7]
  intro t ht
  simp only [List.mem_cons, List.not_mem_nil, or_false] at ht
  rcases ht with rfl | rfl | rfl
  · exact ⟨by kernel_rfl, of_decide_eq_true (by kernel_rfl)⟩
  · exact ⟨by kernel_rfl, of_decide_eq_true (by kernel_rfl)⟩
  · exact ⟨by kernel_rfl, of_decide_eq_true (by kernel_rfl)⟩
set_option maxRecDepth 100000 in
theorem fixqWhole_lifted (os : Os) (started : os.Started) (H : Type) (enc : TypeId × Value → H) :
    ReturnsInHanded {} Try.checked os 7 .any (Rows.fixqWholeSpec.pre6 enc Try.prog Try.f7 Rows.fixqWholeRow.domain false) (Rows.fixqWholeSpec.post enc Try.prog Try.f7 false true false false) := by
  refine returnsInHanded_of_change (C := Try.checked) fixqWhole_own started (by kernel_rfl) Try.func7
    (ChangeSpec.witness6 (enc := enc) (C := Try.checked) false ⟨#[], #[.int .u64 0, .int .u64 0, .int .u64 0], []⟩ 8 (by kernel_rfl) (by kernel_rfl) (by kernel_rfl) (by kernel_rfl)) ?_
  intro W base args ds gs before hval0 hW hcnd _
  have hval : ∀ (j : Nat) t v, Try.f7.params[j]? = some t → args[j]? = some v → Value.okWide Try.prog W .any base t v := hval0
  have hW' := hW
  obtain ⟨p, q, hA0, hV, hpq, hfz, hnd⟩ := hW
  have hA : DataW.TrodAll enc Try.prog W 0 (fun _ => true) true Try.f7.params.toList args.toList ds p := hA0
  rw [Try.params7] at hA hval
  obtain ⟨v0, vs0, d0, ds0, p0, q0, hargs, rfl, rfl, h0, r0⟩ := trodAll_cons hA
  obtain ⟨v1, vs1, d1, ds1, p1, q1, rfl, rfl, rfl, h1, r1⟩ := trodAll_cons r0
  obtain ⟨v2, vs2, d2, ds2, p2, q2, rfl, rfl, rfl, h2, r2⟩ := trodAll_cons r1
  obtain ⟨rfl, rfl, rfl⟩ := trodAll_nil r2
  obtain rfl : args = #[v0, v1, v2] := by cases args; simp_all
  have k0 := hval 0 22 v0 rfl rfl
  have k1 := hval 1 22 v1 rfl rfl
  have k2 := hval 2 22 v2 rfl rfl
  clear hA0 hval0 hval hcnd hfz hnd hpq hV hargs r2
  suffices hs : Calls Try.prog 7 #[v0, v1, v2] W (Gives (.bool true) W) from hs.mono fun e W' ⟨he, x, hx⟩ => ⟨_, he, law_post fixqWhole_laidOut hW' rfl rfl (by kernel_rfl) (by first | exact Try.underlying4 | rfl) fixqWhole_types (hx ▸ W.below_past x)⟩
  clear hW'
  obtain ⟨a, rfl, _, _, wa⟩ := open_int Try.underlying22 k0 h0
  obtain ⟨b, rfl, _, _, wb⟩ := open_int Try.underlying22 k1 h1
  obtain ⟨c, rfl, _, _, wc⟩ := open_int Try.underlying22 k2 h2
  exact FixqWhole_any a b c W (u64_of wa) (u64_of wb) (u64_of wc)
theorem fixqWhole_holds : Rows.FixqWholeSaid :=
  OpenClaim.holds_of_wide 7 Try.f7 rfl rfl rfl rfl rfl rfl rfl ⟨rfl, rfl, rfl, rfl, rfl⟩ rfl rfl rfl rfl rfl (by kernel_rfl) Try.func7 (by kernel_rfl)
    (of_decide_eq_true (by kernel_rfl)) (by unfold Func.isWrapper; first | (rw [if_pos (by decide +kernel)]; kernel_rfl) | (rw [if_neg (by decide +kernel)]; exact ⟨rfl, rfl⟩))
    (fun os started H enc _ => fixqWhole_lifted os started H enc)
end Go.Proofs.Ytpihkagmkmjfpaa
