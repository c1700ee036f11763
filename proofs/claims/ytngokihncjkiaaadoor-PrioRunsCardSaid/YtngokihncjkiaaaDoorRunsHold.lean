/-
  Layer 39's PrioRuns holds: whatever is pushed, popped and lifted, answers are the document's. Condition: the library's table deBruijn64tab stands as it is laid out.
-/
import Derived.Test.YtngokihncjkiaaaDoorLawRuns
import Derived.Test.YtngokihncjkiaaaDoorLift
import Derived.Test.YtngokihncjkiaaaDoorLaid
namespace Go.Proofs.YtngokihncjkiaaaDoor
open Go.RowKit Go.ChangeShapes Go.WideShapes Go.ChangeAt
theorem c_deed3 : Tryd.prog.cellsOf 29 = 3 := by kernel_rfl
theorem c_u8 : Tryd.prog.cellsOf 5 = 1 := by kernel_rfl
theorem c_int1 : Tryd.prog.cellsOf 3 = 1 := by kernel_rfl
theorem rd_deed {H : Type} {enc : TypeId × Value → H} {W : World} {cs : List Value} (h : Rd enc Tryd.prog W 29 cs) : ∃ x : Dd, cs = ddV x ∧ (0 ≤ x.k ∧ x.k < 256) := by
  obtain ⟨z0, z1, z2, ecs⟩ := cs_three ((h.struct Tryd.underlying29).1.trans c_deed3)
  rw [ecs] at h
  obtain ⟨y0, e0, g0⟩ := Rd.int (h.field Tryd.underlying29 0 5 0 1 rfl c_u8) Tryd.underlying5
  obtain ⟨y1, e1, g1⟩ := Rd.int (h.field Tryd.underlying29 1 3 1 1 rfl c_int1) Tryd.underlying3
  obtain ⟨y2, e2, g2⟩ := Rd.int (h.field Tryd.underlying29 2 3 2 1 rfl c_int1) Tryd.underlying3
  simp at e0 e1 e2
  subst e0; subst e1; subst e2
  exact ⟨⟨y0, y1, y2⟩, ecs, u8_of g0⟩
theorem prioRuns_own : ownKnob Tryd.prog.godebug = none := by kernel_rfl
theorem prioRuns_laidOut : laidOutB Tryd.prog = true := by kernel_rfl
theorem prioRuns_types : ∀ t ∈ Tryd.f3.params.toList, Tryd.prog.readableRec t = true ∧ t < Tryd.prog.types.size := by
  rw [Tryd.params3]
  intro t ht
  simp only [List.mem_cons, List.not_mem_nil, or_false] at ht
  rcases ht with rfl | rfl | rfl
  · exact ⟨by kernel_rfl, of_decide_eq_true (by kernel_rfl)⟩
  · exact ⟨by kernel_rfl, of_decide_eq_true (by kernel_rfl)⟩
  · exact ⟨by kernel_rfl, of_decide_eq_true (by kernel_rfl)⟩
set_option maxRecDepth 100000 in
theorem prioRuns_lifted (os : Os) (started : os.Started) (H : Type) (enc : TypeId × Value → H) :
    ReturnsInHanded {} Tryd.checked os 3 .any (fun w args => (Rows.prioRunsSpec.pre enc Tryd.prog Tryd.f3 [] false w args ∧ laidMetH Tryd.prog laidT w) ∧ sizedMet enc Tryd.prog Tryd.f3 (OpenSpec.ofChange Rows.prioRunsSpec) false w args) (Rows.prioRunsSpec.post enc Tryd.prog Tryd.f3 false true false false) := by
  refine returnsInHanded_of_change_and (C := Tryd.checked) (X := fun w _ => laidMetH Tryd.prog laidT w) (fun _ _ _ hh h => h.of_heap hh) prioRuns_own started (by kernel_rfl) Tryd.func3
    (ChangeSpec.witness_shaped (enc := enc) (C := Tryd.checked) (os := os) (X := fun w _ => laidMetH Tryd.prog laidT w) false (World.doorLaid Tryd.prog 14 os) #[.int .i64 0, .slice none 0 0, .int .u8 0] 8 rfl (World.shaped_of_RefB (by kernel_rfl) (by kernel_rfl)) (by kernel_rfl) (by kernel_rfl) (by kernel_rfl) (door_met os _)) ?_
  intro W base args ds gs before hval0 hW hcnd _ hLaid _
  have hZ : Tz W := tz_of_laid hLaid
  clear hLaid
  have hval : ∀ (j : Nat) t v, Tryd.f3.params[j]? = some t → args[j]? = some v → Value.okWide Tryd.prog W .any base t v := hval0
  have hW' := hW
  obtain ⟨p, q, hA0, hV, hpq, hfz, hnd⟩ := hW
  have hA : DataW.TrodAll enc Tryd.prog W 0 (fun _ => true) true Tryd.f3.params.toList args.toList ds p := hA0
  rw [Tryd.params3] at hA hval
  obtain ⟨v0, vs0, d0, ds0, p0, q0, hargs, rfl, rfl, h0, r0⟩ := trodAll_cons hA
  obtain ⟨v1, vs1, d1, ds1, p1, q1, rfl, rfl, rfl, h1, r1⟩ := trodAll_cons r0
  obtain ⟨v2, vs2, d2, ds2, p2, q2, rfl, rfl, rfl, h2, r2⟩ := trodAll_cons r1
  obtain ⟨rfl, rfl, rfl⟩ := trodAll_nil r2
  obtain rfl : args = #[v0, v1, v2] := by cases args; simp_all
  have k0 := hval 0 3 v0 rfl rfl
  have k1 := hval 1 22 v1 rfl rfl
  have k2 := hval 2 5 v2 rfl rfl
  clear hA0 hval0 hval hcnd hfz hnd hpq hV hargs r2
  suffices hs : Calls Tryd.prog 3 #[v0, v1, v2] W (Gives (.bool true) W) from hs.mono fun e W' ⟨he, x, hx⟩ => ⟨_, he, law_post prioRuns_laidOut hW' rfl rfl (by kernel_rfl) (by first | exact Tryd.underlying4 | rfl) prioRuns_types (hx ▸ W.below_past x)⟩
  clear hW'
  obtain ⟨m0, rfl, _, _, _⟩ := open_int Tryd.underlying3 k0 h0
  obtain ⟨A, ca, l, rfl, ha, hkl, hl, _⟩ := rd_tabC (f := ddV) (c := 3) (K := fun x => (0 ≤ x.k ∧ x.k < 256)) ddV_length (by omega) (rd_slice Tryd.underlying22 k1 h1) Tryd.underlying22 c_deed3 (fun _ h => by obtain ⟨x, e, hk⟩ := rd_deed h; exact ⟨x, e, hk⟩)
  obtain ⟨u, rfl, _, _, w2⟩ := open_int Tryd.underlying5 k2 h2
  exact PrioRuns_any m0 A ca _ l rfl hl hkl u (u8_of w2) W hZ ha
theorem prioRuns_row : Rows.PrioRunsSaid :=
  OpenClaim.holds_of_wide 3 Tryd.f3 rfl rfl rfl rfl rfl rfl rfl ⟨rfl, rfl, rfl, rfl, rfl⟩ rfl rfl rfl rfl rfl (by kernel_rfl) Tryd.func3 (by kernel_rfl)
    (of_decide_eq_true (by kernel_rfl)) (by unfold Func.isWrapper; first | (rw [if_pos (by decide +kernel)]; kernel_rfl) | (rw [if_neg (by decide +kernel)]; exact ⟨rfl, rfl⟩))
    (fun os started H enc _ => prioRuns_lifted os started H enc)
theorem prioRuns_holds : Rows.PrioRunsCardSaid :=
  Claim7.holds_tied_plain_at .later [] [.data] true _ false
    prioRuns_row (fun _ h => by cases h) (by kernel_rfl) (fun _ h => by cases h) prioRuns_row_tie rfl ⟨rfl, rfl⟩ (by kernel_rfl) rfl
    (fun f fn hf hfn => by
      obtain rfl : f = 3 := Option.some.inj ((show Tryd.prog.funcNamed "forelock/forelocklaw39.PrioRuns" = some 3 by kernel_rfl).symm.trans hf) |>.symm
      obtain rfl : fn = Tryd.f3 := (Option.some.inj (Tryd.func3.symm.trans hfn)).symm
      exact ⟨by kernel_rfl, fun j t ht => by
        rw [Tryd.params3] at ht
        have hm : t ∈ [3, 22, 5] := by simpa using Array.mem_of_getElem? ht
        have hall : ([3, 22, 5].all fun u => !Tryd.prog.wantsStandIn u) = true := by kernel_rfl
        exact (show Tryd.prog.wantsStandIn t = false by simpa using List.all_eq_true.1 hall t hm)⟩)
    (by kernel_rfl)
end Go.Proofs.YtngokihncjkiaaaDoor
