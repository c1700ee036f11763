/-
  Layer 02's ArenaLeaves holds. No condition.
-/
import Derived.Test.YtgaenonggnkknaaLawLeaves
namespace Go.Proofs.Ytgaenonggnkknaa
open Go.RowKit Go.ChangeShapes Go.WideShapes Go.ChangeAt
theorem cs_i64s : Try.prog.cellsOf 3 = 1 := by kernel_rfl
theorem arenaLeaves_own : ownKnob Try.prog.godebug = none := by kernel_rfl
theorem arenaLeaves_laidOut : laidOutB Try.prog = true := by kernel_rfl
theorem arenaLeaves_types : ∀ t ∈ Try.f4.params.toList, Try.prog.readableRec t = true ∧ t < Try.prog.types.size := by
  rw [Try.params4]
  intro t ht
  simp only [List.mem_cons, List.not_mem_nil, or_false] at ht
  rcases ht with rfl | rfl
  · exact ⟨by kernel_rfl, of_decide_eq_true (by kernel_rfl)⟩
  · exact ⟨by kernel_rfl, of_decide_eq_true (by kernel_rfl)⟩
set_option maxRecDepth 100000 in
theorem arenaLeaves_lifted (os : Os) (started : os.Started) (H : Type) (enc : TypeId × Value → H) :
    ReturnsInHanded {} Try.checked os 4 .any (Rows.arenaLeavesSpec.pre6 enc Try.prog Try.f4 Rows.arenaLeavesRow.domain false) (Rows.arenaLeavesSpec.post enc Try.prog Try.f4 false true false false) := by
  refine returnsInHanded_of_change (C := Try.checked) arenaLeaves_own started (by kernel_rfl) Try.func4
    (ChangeSpec.witness6 (enc := enc) (C := Try.checked) false ⟨#[], #[.slice none 0 0, .int .u8 0], []⟩ 8 (by kernel_rfl) (by kernel_rfl) (by kernel_rfl) (by kernel_rfl)) ?_
  intro W base args ds gs before hval0 hW hcnd _
  have hval : ∀ (j : Nat) t v, Try.f4.params[j]? = some t → args[j]? = some v → Value.okWide Try.prog W .any base t v := hval0
  have hW' := hW
  obtain ⟨p, q, hA0, hV, hpq, hfz, hnd⟩ := hW
  have hA : DataW.TrodAll enc Try.prog W 0 (fun _ => true) true Try.f4.params.toList args.toList ds p := hA0
  rw [Try.params4] at hA hval
  obtain ⟨v0, vs0, d0, ds0, p0, q0, hargs, rfl, rfl, h0, r0⟩ := trodAll_cons hA
  obtain ⟨v1, vs1, d1, ds1, p1, q1, rfl, rfl, rfl, h1, r1⟩ := trodAll_cons r0
  obtain ⟨rfl, rfl, rfl⟩ := trodAll_nil r1
  obtain rfl : args = #[v0, v1] := by cases args; simp_all
  have k0 := hval 0 39 v0 rfl rfl
  have k1 := hval 1 5 v1 rfl rfl
  clear hA0 hval0 hval hcnd hfz hnd hpq hV hargs r1
  suffices hs : Calls Try.prog 4 #[v0, v1] W (Gives (.bool true) W) from hs.mono fun e W' ⟨he, x, hx⟩ => ⟨_, he, law_post arenaLeaves_laidOut hW' rfl rfl (by kernel_rfl) (by first | exact Try.underlying4 | rfl) arenaLeaves_types (hx ▸ W.below_past x)⟩
  clear hW'
  obtain ⟨A, ca, l, rfl, ha, hK, hl⟩ := rd_ints_row (rd_slice Try.underlying39 k0 h0) Try.underlying39 Try.underlying3 cs_i64s (K := fun _ => True) (fun _ _ => trivial)
  obtain ⟨x1, rfl, _, _, w1⟩ := open_int Try.underlying5 k1 h1
  exact ArenaLeaves_any A ca _ l rfl hl x1 (u8_of w1) W ha
theorem arenaLeaves_holds : Rows.ArenaLeavesSaid :=
  OpenClaim.holds_of_wide 4 Try.f4 rfl rfl rfl rfl rfl rfl rfl ⟨rfl, rfl, rfl, rfl, rfl⟩ rfl rfl rfl rfl rfl (by kernel_rfl) Try.func4 (by kernel_rfl)
    (of_decide_eq_true (by kernel_rfl)) (by unfold Func.isWrapper; first | (rw [if_pos (by decide +kernel)]; kernel_rfl) | (rw [if_neg (by decide +kernel)]; exact ⟨rfl, rfl⟩))
    (fun os started H enc _ => arenaLeaves_lifted os started H enc)
end Go.Proofs.Ytgaenonggnkknaa
