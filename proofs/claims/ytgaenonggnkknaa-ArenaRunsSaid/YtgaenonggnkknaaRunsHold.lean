/-
  Layer 02's ArenaRuns holds. No condition.
-/
import Derived.Test.YtgaenonggnkknaaLawRuns
namespace Go.Proofs.Ytgaenonggnkknaa
open Go.RowKit Go.ChangeShapes Go.WideShapes Go.ChangeAt
theorem c_deed_3 : Try.prog.cellsOf 3 = 1 := by kernel_rfl
theorem c_deed_5 : Try.prog.cellsOf 5 = 1 := by kernel_rfl
theorem c_deed : Try.prog.cellsOf 29 = 3 := by kernel_rfl
theorem rd_deed {H : Type} {enc : TypeId × Value → H} {W : World} {cs : Array Value} (h : Rd enc Try.prog W 29 cs.toList) : ∃ x0 x1 x2 : Int, cs = #[.int .u8 x0, .int .i64 x1, .int .i64 x2] ∧ U8 x0 ∧ I64 x1 ∧ I64 x2 := by
  obtain ⟨c0, c1, c2, e⟩ := cs_three (h.len_struct Try.underlying29 c_deed)
  rw [e] at h
  obtain ⟨x0, e0, w0⟩ := Rd.int (h.field Try.underlying29 0 5 0 1 rfl c_deed_5) Try.underlying5
  obtain ⟨x1, e1, w1⟩ := Rd.int (h.field Try.underlying29 1 3 1 1 rfl c_deed_3) Try.underlying3
  obtain ⟨x2, e2, w2⟩ := Rd.int (h.field Try.underlying29 2 3 2 1 rfl c_deed_3) Try.underlying3
  simp at e0 e1 e2
  subst e0 e1 e2
  exact ⟨x0, x1, x2, arr_of e, u8_of w0, i64_of w1, i64_of w2⟩
theorem rd_de {H : Type} {enc : TypeId × Value → H} {W : World} : ∀ cs : List Value, Rd enc Try.prog W 29 cs → ∃ x, cs = deV x ∧ U8 x.1 := fun cs hcs => by
  have hcs' : Rd enc Try.prog W 29 (cs.toArray).toList := by simpa using hcs
  obtain ⟨x0, x1, x2, e, h0, h1, h2⟩ := rd_deed hcs'
  refine ⟨(x0, x1, x2), ?_, h0⟩
  have : cs.toArray.toList = _ := congrArg Array.toList e
  simpa [deV] using this
theorem arenaRuns_own : ownKnob Try.prog.godebug = none := by kernel_rfl
theorem arenaRuns_laidOut : laidOutB Try.prog = true := by kernel_rfl
theorem arenaRuns_types : ∀ t ∈ Try.f3.params.toList, Try.prog.readableRec t = true ∧ t < Try.prog.types.size := by
  rw [Try.params3]
  intro t ht
  simp only [List.mem_cons, List.not_mem_nil, or_false] at ht
  rcases ht with rfl | rfl
  · exact ⟨by kernel_rfl, of_decide_eq_true (by kernel_rfl)⟩
  · exact ⟨by kernel_rfl, of_decide_eq_true (by kernel_rfl)⟩
set_option maxRecDepth 100000 in
theorem arenaRuns_lifted (os : Os) (started : os.Started) (H : Type) (enc : TypeId × Value → H) :
    ReturnsInHanded {} Try.checked os 3 .any (Rows.arenaRunsSpec.pre6 enc Try.prog Try.f3 Rows.arenaRunsRow.domain false) (Rows.arenaRunsSpec.post enc Try.prog Try.f3 false true false false) := by
  refine returnsInHanded_of_change (C := Try.checked) arenaRuns_own started (by kernel_rfl) Try.func3
    (ChangeSpec.witness6 (enc := enc) (C := Try.checked) false ⟨#[], #[.int .i64 0, .slice none 0 0], []⟩ 8 (by kernel_rfl) (by kernel_rfl) (by kernel_rfl) (by kernel_rfl)) ?_
  intro W base args ds gs before hval0 hW hcnd _
  have hval : ∀ (j : Nat) t v, Try.f3.params[j]? = some t → args[j]? = some v → Value.okWide Try.prog W .any base t v := hval0
  have hW' := hW
  obtain ⟨p, q, hA0, hV, hpq, hfz, hnd⟩ := hW
  have hA : DataW.TrodAll enc Try.prog W 0 (fun _ => true) true Try.f3.params.toList args.toList ds p := hA0
  rw [Try.params3] at hA hval
  obtain ⟨v0, vs0, d0, ds0, p0, q0, hargs, rfl, rfl, h0, r0⟩ := trodAll_cons hA
  obtain ⟨v1, vs1, d1, ds1, p1, q1, rfl, rfl, rfl, h1, r1⟩ := trodAll_cons r0
  obtain ⟨rfl, rfl, rfl⟩ := trodAll_nil r1
  obtain rfl : args = #[v0, v1] := by cases args; simp_all
  have k0 := hval 0 3 v0 rfl rfl
  have k1 := hval 1 22 v1 rfl rfl
  clear hA0 hval0 hval hcnd hfz hnd hpq hV hargs r1
  suffices hs : Calls Try.prog 3 #[v0, v1] W (Gives (.bool true) W) from hs.mono fun e W' ⟨he, x, hx⟩ => ⟨_, he, law_post arenaRuns_laidOut hW' rfl rfl (by kernel_rfl) (by first | exact Try.underlying4 | rfl) arenaRuns_types (hx ▸ W.below_past x)⟩
  clear hW'
  obtain ⟨x1, rfl, _, _, w1⟩ := open_int Try.underlying3 k0 h0
  obtain ⟨A, ca, l, rfl, ha, hK, hl⟩ := rd_tab deV_length (by omega) (rd_slice Try.underlying22 k1 h1) Try.underlying22 c_deed rd_de
  exact ArenaRuns_any x1 A ca _ l rfl hl hK W ha
theorem arenaRuns_holds : Rows.ArenaRunsSaid :=
  OpenClaim.holds_of_wide 3 Try.f3 rfl rfl rfl rfl rfl rfl rfl ⟨rfl, rfl, rfl, rfl, rfl⟩ rfl rfl rfl rfl rfl (by kernel_rfl) Try.func3 (by kernel_rfl)
    (of_decide_eq_true (by kernel_rfl)) (by unfold Func.isWrapper; first | (rw [if_pos (by decide +kernel)]; kernel_rfl) | (rw [if_neg (by decide +kernel)]; exact ⟨rfl, rfl⟩))
    (fun os started H enc _ => arenaRuns_lifted os started H enc)
end Go.Proofs.Ytgaenonggnkknaa
