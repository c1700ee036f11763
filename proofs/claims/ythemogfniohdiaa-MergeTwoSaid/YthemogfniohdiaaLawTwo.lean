/-
  Layer 32's MergeTwo: two lists, brought into one, are the document's; so are the first ones of it. No condition.
-/
import Derived.Test.YthemogfniohdiaaCaseA
import Derived.Test.YthemogfniohdiaaCaseB
import Derived.Test.YthemogfniohdiaaCaseC
namespace Go.Proofs.Ythemogfniohdiaa
open Go.RowKit Go.ChangeShapes Go.WideShapes Go.ChangeAt
set_option maxHeartbeats 2000000 in
theorem MergeTwo_any (A B : Option Addr) (ca cb na nb : Nat) (a b : List Int) (ea : a.length = na) (eb : b.length = nb) (n : Int) (hna : na ≤ maxLen) (hnb : nb ≤ maxLen) (w : World) (ha : Cells w A (i64s a)) (hb : Cells w B (i64s b)) :
    Calls Try.prog 3 #[.slice A na ca, .slice B nb cb, .int .i64 n] w (Gives (.bool true) w) := by
  by_cases h1 : 60 < na
  · clear ea eb ha hb
    go_enter Try.func3, Try.ntmps3
    go_wp2_with ((go_at_call 7; refine (awake_any _).mono ?_; rintro _ _ ⟨rfl, _, rfl⟩))
    go_ret
    refine Gives.mk rfl ?_
    (repeat (first | exact Below.refl _ _ | refine RowKit.Below.past ?_ _ | refine RowKit.Below.alloc' ?_ _ | refine RowKit.Below.drew' ?_ | refine RowKit.Below.drewN' ?_ _ | refine RowKit.Below.setCell' ?_ (by simp [go_sem]) _))
  · by_cases h2 : 60 < nb
    · clear ea eb ha hb
      go_enter Try.func3, Try.ntmps3
      go_wp2_with ((go_at_call 7; refine (awake_any _).mono ?_; rintro _ _ ⟨rfl, _, rfl⟩))
      go_ret
      refine Gives.mk rfl ?_
      (repeat (first | exact Below.refl _ _ | refine RowKit.Below.past ?_ _ | refine RowKit.Below.alloc' ?_ _ | refine RowKit.Below.drew' ?_ | refine RowKit.Below.drewN' ?_ _ | refine RowKit.Below.setCell' ?_ (by simp [go_sem]) _))
    · by_cases q1 : n < 0
      · exact MergeTwo_A A B ca cb na nb a b ea eb n hna hnb (by omega) (by omega) q1 w ha hb
      · by_cases q2 : n ≤ (na : Int) + nb
        · exact MergeTwo_B A B ca cb na nb a b ea eb n hna hnb (by omega) (by omega) (by omega) q2 w ha hb
        · exact MergeTwo_C A B ca cb na nb a b ea eb n hna hnb (by omega) (by omega) (by omega) w ha hb
theorem cs_i64s : Try.prog.cellsOf 3 = 1 := by kernel_rfl
theorem rd_i64s {H : Type} {enc : TypeId × Value → H} {W : World} {v : Value} (h : Rd enc Try.prog W 22 [v]) : ∃ (A : Option Addr) (c : Nat) (l : List Int), v = .slice A l.length c ∧ Cells W A (i64s l) ∧ (∀ x ∈ l, I64 x) ∧ l.length ≤ maxLen :=
  rd_ints_row h Try.underlying22 Try.underlying3 cs_i64s (fun _ hx => i64_of hx)
theorem mergeTwo_own : ownKnob Try.prog.godebug = none := by kernel_rfl
theorem mergeTwo_laidOut : laidOutB Try.prog = true := by kernel_rfl
theorem mergeTwo_types : ∀ t ∈ Try.f3.params.toList, Try.prog.readableRec t = true ∧ t < Try.prog.types.size := by
  rw [Try.params3]
  intro t ht
  simp only [List.mem_cons, List.not_mem_nil, or_false] at ht
  rcases ht with rfl | rfl | rfl
  · exact ⟨by kernel_rfl, of_decide_eq_true (by kernel_rfl)⟩
  · exact ⟨by kernel_rfl, of_decide_eq_true (by kernel_rfl)⟩
  · exact ⟨by kernel_rfl, of_decide_eq_true (by kernel_rfl)⟩
set_option maxRecDepth 100000 in
theorem mergeTwo_lifted (os : Os) (started : os.Started) (H : Type) (enc : TypeId × Value → H) :
    ReturnsInHanded {} Try.checked os 3 .any (Rows.mergeTwoSpec.pre6 enc Try.prog Try.f3 Rows.mergeTwoRow.domain false) (Rows.mergeTwoSpec.post enc Try.prog Try.f3 false true false false) := by
  refine returnsInHanded_of_change (C := Try.checked) mergeTwo_own started (by kernel_rfl) Try.func3
    (ChangeSpec.witness6 (enc := enc) (C := Try.checked) false ⟨#[], #[.slice none 0 0, .slice none 0 0, .int .i64 0], []⟩ 8 (by kernel_rfl) (by kernel_rfl) (by kernel_rfl) (by kernel_rfl)) ?_
  intro W base args ds gs before hval0 hW hcnd _
  have hval : ∀ (j : Nat) t v, Try.f3.params[j]? = some t → args[j]? = some v → Value.okWide Try.prog W .any base t v := hval0
  have hW' := hW
  obtain ⟨p, q, hA0, hV, hpq, hfz, hnd⟩ := hW
  have hA : DataW.TrodAll enc Try.prog W 0 (fun _ => true) true Try.f3.params.toList args.toList ds p := hA0
  rw [Try.params3] at hA hval
  obtain ⟨v0, vs0, d0, ds0, p0, q0, hargs, rfl, rfl, h0, r0⟩ := trodAll_cons hA
  obtain ⟨v1, vs1, d1, ds1, p1, q1, rfl, rfl, rfl, h1, r1⟩ := trodAll_cons r0
  obtain ⟨v2, vs2, d2, ds2, p2, q2, rfl, rfl, rfl, h2, r2⟩ := trodAll_cons r1
  obtain ⟨rfl, rfl, rfl⟩ := trodAll_nil r2
  obtain rfl : args = #[v0, v1, v2] := by cases args; simp_all
  have k0 := hval 0 22 v0 rfl rfl
  have k1 := hval 1 22 v1 rfl rfl
  have k2 := hval 2 3 v2 rfl rfl
  clear hA0 hval0 hval hcnd hfz hnd hpq hV hargs r2
  suffices hs : Calls Try.prog 3 #[v0, v1, v2] W (Gives (.bool true) W) from hs.mono fun e W' ⟨he, x, hx⟩ => ⟨_, he, law_post mergeTwo_laidOut hW' rfl rfl (by kernel_rfl) (by first | exact Try.underlying4 | rfl) mergeTwo_types (hx ▸ W.below_past x)⟩
  clear hW'
  obtain ⟨A, ca, a, rfl, ha, _, hl⟩ := rd_i64s (rd_slice Try.underlying22 k0 h0)
  obtain ⟨B, cb, b, rfl, hb, _, hl2⟩ := rd_i64s (rd_slice Try.underlying22 k1 h1)
  obtain ⟨n, rfl, _, _, _⟩ := open_int Try.underlying3 k2 h2
  exact MergeTwo_any A B ca cb _ _ a b rfl rfl n hl hl2 W ha hb
theorem mergeTwo_holds : Rows.MergeTwoSaid :=
  OpenClaim.holds_of_wide 3 Try.f3 rfl rfl rfl rfl rfl rfl rfl ⟨rfl, rfl, rfl, rfl, rfl⟩ rfl rfl rfl rfl rfl (by kernel_rfl) Try.func3 (by kernel_rfl)
    (of_decide_eq_true (by kernel_rfl)) (by unfold Func.isWrapper; first | (rw [if_pos (by decide +kernel)]; kernel_rfl) | (rw [if_neg (by decide +kernel)]; exact ⟨rfl, rfl⟩))
    (fun os started H enc _ => mergeTwo_lifted os started H enc)
end Go.Proofs.Ythemogfniohdiaa
