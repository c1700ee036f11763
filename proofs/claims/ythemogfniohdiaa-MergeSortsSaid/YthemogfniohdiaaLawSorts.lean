/-
  Layer 32's MergeSorts: what is brought into one out of rows in order is in order, and as long as these together. No condition.
-/
import Derived.Test.YthemogfniohdiaaOrder
namespace Go.Proofs.Ythemogfniohdiaa
open Go.RowKit Go.ChangeShapes Go.WideShapes Go.ChangeAt
set_option maxHeartbeats 4000000 in
theorem MergeSorts_any (A B : Option Addr) (ca cb na nb : Nat) (a b : List Int) (ea : a.length = na) (eb : b.length = nb) (hna : na ≤ maxLen) (hnb : nb ≤ maxLen) (w : World) (ha : Cells w A (i64s a)) (hb : Cells w B (i64s b)) :
    Calls Try.prog 4 #[.slice A na ca, .slice B nb cb] w (Gives (.bool true) w) := by
  have EA := hid ea
  have EB := hid eb
  have HA := hid ha
  have HB := hid hb
  clear ea eb ha hb
  by_cases h1 : 60 < na
  · go_enter Try.func4, Try.ntmps4
    go_wp2_with ((go_at_call 7; refine (awake_any _).mono ?_; rintro _ _ ⟨rfl, _, rfl⟩))
    go_ret
    refine Gives.mk rfl ?_
    (repeat (first | exact Below.refl _ _ | refine RowKit.Below.past ?_ _ | refine RowKit.Below.alloc' ?_ _ | refine RowKit.Below.drew' ?_ | refine RowKit.Below.drewN' ?_ _ | refine RowKit.Below.setCell' ?_ (by simp [go_sem]) _))
  · by_cases h2 : 60 < nb
    · go_enter Try.func4, Try.ntmps4
      go_wp2_with ((go_at_call 7; refine (awake_any _).mono ?_; rintro _ _ ⟨rfl, _, rfl⟩))
      go_ret
      refine Gives.mk rfl ?_
      (repeat (first | exact Below.refl _ _ | refine RowKit.Below.past ?_ _ | refine RowKit.Below.alloc' ?_ _ | refine RowKit.Below.drew' ?_ | refine RowKit.Below.drewN' ?_ _ | refine RowKit.Below.setCell' ?_ (by simp [go_sem]) _))
    · have HOa := hid (fun x => order_any A ca na a EA.out (w.past x) (HA.out.past x) (by omega))
      obtain ⟨X, eX⟩ : ∃ X, orderK a na = X := ⟨_, rfl⟩
      obtain ⟨Y, eY⟩ : ∃ Y, orderK b nb = Y := ⟨_, rfl⟩
      have hlX : X.length = na := by rw [← eX]; exact orderK_length _ _
      have hlY : Y.length = nb := by rw [← eY]; exact orderK_length _ _
      have hsX : Srt X := by rw [← eX]; exact orderK_srt _ _
      have hsY : Srt Y := by rw [← eY]; exact orderK_srt _ _
      obtain ⟨m, em⟩ : ∃ m, mergeF ltI X Y = m := ⟨_, rfl⟩
      have hm : m.length = na + nb := by rw [← em, merge_length, hlX, hlY]
      have hsm : Srt m := by rw [← em]; exact merge_srt _ _ hsX hsY
      have EY := hid eY
      have EM := hid em
      have HLX := hid hlX
      have HLY := hid hlY
      have HM := hid hm
      have HSM := hid hsm
      rw [eX] at HOa
      clear eX eY em hlX hlY hm hsX hsY hsm
      go_enter Try.func4, Try.ntmps4
      go_wp2_with ((go_at_call 7; refine (awake_any _).mono ?_; rintro _ _ ⟨rfl, _, rfl⟩))
      refine (HOa.out _).mono ?_
      rintro _ w1 ⟨A1, c1, rfl, hb1, ho1⟩
      have HB1 := hid (show Below w.heap.size w w1 from below_trans' (by (repeat (first | exact Below.refl _ _ | refine RowKit.Below.past ?_ _ | refine RowKit.Below.alloc' ?_ _ | refine RowKit.Below.drew' ?_ | refine RowKit.Below.drewN' ?_ _ | refine RowKit.Below.setCell' ?_ (by simp [go_sem]) _))) hb1)
      have HX1 := hid (Cells.of_own ho1)
      have HOb := hid (order_any B cb nb b EB.out w1 (HB.out.below HB1.out) (by omega))
      rw [EY.out] at HOb
      clear hb1 ho1 HOa
      go_wp2_with fail
      refine HOb.out.mono ?_
      rintro _ w2 ⟨B1, d1, rfl, hb2, ho2⟩
      have HB2 := hid (below_trans' HB1.out hb2)
      have HX2 := hid (HX1.out.below hb2)
      have HY2 := hid (Cells.of_own ho2)
      clear hb2 ho2 HOb HB1 HX1
      go_wp2_with fail
      refine (twoI_any A1 B1 na c1 nb d1 w2).mono ?_
      rintro _ w3 ⟨rfl, hb3, q0, q1⟩
      have HB3 := hid (below_trans' HB2.out hb3)
      have hF := First_two w3 w3 w2.heap.size (w2.heap.size + 1) A1 B1 c1 d1 na nb X Y HLX.out HLY.out q0 q1 (HX2.out.below hb3) (HY2.out.below hb3) (by omega) (by omega) (Below.refl _ _) 200
      rw [EM.out, show takeF m 200 = m from (by unfold takeF; rw [if_neg (by omega), List.take_of_length_le (by rw [HM.out]; simp; omega)]), HM.out] at hF
      have HF := hid hF
      clear hF hb3 q0 q1 HX2 HY2 HB2
      go_wp2_with fail
      refine HF.out.mono ?_
      rintro _ w4 ⟨A4, c4, rfl, hb4, ho4⟩
      have HB4 := hid (below_trans' HB3.out hb4)
      have HC4 := hid (Cells.of_own ho4)
      clear hb4 ho4 HF HB3
      go_wp2_with fail
      go_loopw [29] (fun iv wr => ∃ (i : Nat) (x : Past), iv = .int .i64 i ∧ i ≤ na + nb ∧ wr = w4.past x) (fun iv _ => na + nb - (intOf iv).toNat)
      case atStart => exact ⟨0, _, rfl, by omega, World.past_refl w4⟩
      case round =>
        obtain ⟨i, x, rfl, hi, rfl⟩ := hrel
        by_cases hlt : i < na + nb
        · by_cases h0 : 0 < i
          · obtain ⟨b1, o1, rfl, hc1⟩ := i64_at HC4.out (show i < m.length by rw [HM.out]; exact hlt)
            obtain ⟨b2, o2, e, hc2⟩ := i64_at HC4.out (show i - 1 < m.length by rw [HM.out]; omega)
            injection e with e
            injection e with e1 e2
            subst e1; subst e2
            have hs := srt_at HSM.out h0 (show i < m.length by rw [HM.out]; exact hlt)
            obtain ⟨p, ep⟩ : ∃ p, atL m i = p := ⟨_, rfl⟩
            obtain ⟨q, eq⟩ : ∃ q, atL m (i - 1) = q := ⟨_, rfl⟩
            rw [ep] at hc1 hs
            rw [eq] at hc2 hs
            obtain ⟨j, rfl⟩ : ∃ j, i = j + 1 := ⟨i - 1, by omega⟩
            simp only [Nat.add_sub_cancel] at hc2
            have hd : decide (p < q) = false := by simp; omega
            clear ep eq hs
            go_wp2_with fail
            refine wp_region_past (by kernel_rfl) (by kernel_rfl) ?_
            repeat (go_big_quiet_step ((fail)))
            refine wpQuiet_nil ?_
            rintro _ ⟨_, rfl⟩
            go_wp2_with fail
            go_roundw
            case rel => exact ⟨j + 1 + 1, _, by go_num, by omega, rfl⟩
            case measure => simp [intOf]; omega
          · obtain rfl : i = 0 := by omega
            go_wp2_with fail
            refine wp_region_past (by kernel_rfl) (by kernel_rfl) ?_
            repeat (go_big_quiet_step ((fail)))
            refine wpQuiet_nil ?_
            rintro _ ⟨_, rfl⟩
            go_wp2_with fail
            go_roundw
            case rel => exact ⟨1, _, by go_num, by omega, rfl⟩
            case measure => simp [intOf]; omega
        · obtain rfl : i = na + nb := by omega
          go_wp2
          go_ret
          refine Gives.mk (by simp) (RowKit.Below.past HB4.out _)
theorem cs_i64s : Try.prog.cellsOf 3 = 1 := by kernel_rfl
theorem rd_i64s {H : Type} {enc : TypeId × Value → H} {W : World} {v : Value} (h : Rd enc Try.prog W 22 [v]) : ∃ (A : Option Addr) (c : Nat) (l : List Int), v = .slice A l.length c ∧ Cells W A (i64s l) ∧ (∀ x ∈ l, I64 x) ∧ l.length ≤ maxLen :=
  rd_ints_row h Try.underlying22 Try.underlying3 cs_i64s (fun _ hx => i64_of hx)
theorem mergeSorts_own : ownKnob Try.prog.godebug = none := by kernel_rfl
theorem mergeSorts_laidOut : laidOutB Try.prog = true := by kernel_rfl
theorem mergeSorts_types : ∀ t ∈ Try.f4.params.toList, Try.prog.readableRec t = true ∧ t < Try.prog.types.size := by
  rw [Try.params4]
  intro t ht
  simp only [List.mem_cons, List.not_mem_nil, or_false] at ht
  rcases ht with rfl | rfl
  · exact ⟨by kernel_rfl, of_decide_eq_true (by kernel_rfl)⟩
  · exact ⟨by kernel_rfl, of_decide_eq_true (by kernel_rfl)⟩
set_option maxRecDepth 100000 in
theorem mergeSorts_lifted (os : Os) (started : os.Started) (H : Type) (enc : TypeId × Value → H) :
    ReturnsInHanded {} Try.checked os 4 .any (Rows.mergeSortsSpec.pre6 enc Try.prog Try.f4 Rows.mergeSortsRow.domain false) (Rows.mergeSortsSpec.post enc Try.prog Try.f4 false true false false) := by
  refine returnsInHanded_of_change (C := Try.checked) mergeSorts_own started (by kernel_rfl) Try.func4
    (ChangeSpec.witness6 (enc := enc) (C := Try.checked) false ⟨#[], #[.slice none 0 0, .slice none 0 0], []⟩ 8 (by kernel_rfl) (by kernel_rfl) (by kernel_rfl) (by kernel_rfl)) ?_
  intro W base args ds gs before hval0 hW hcnd _
  have hval : ∀ (j : Nat) t v, Try.f4.params[j]? = some t → args[j]? = some v → Value.okWide Try.prog W .any base t v := hval0
  have hW' := hW
  obtain ⟨p, q, hA0, hV, hpq, hfz, hnd⟩ := hW
  have hA : DataW.TrodAll enc Try.prog W 0 (fun _ => true) true Try.f4.params.toList args.toList ds p := hA0
  rw [Try.params4] at hA hval
  obtain ⟨v0, vs0, d0, ds0, p0, q0, hargs, rfl, rfl, h0, r0⟩ := trodAll_cons hA
  obtain ⟨v1, vs1, d1, ds1, p1, q1, rfl, rfl, rfl, h1, r1⟩ := trodAll_cons r0
  obtain ⟨rfl, rfl, rfl⟩ := trodAll_nil r1
  obtain rfl : args = #[v0, v1] := by cases args; simp_all
  have k0 := hval 0 22 v0 rfl rfl
  have k1 := hval 1 22 v1 rfl rfl
  clear hA0 hval0 hval hcnd hfz hnd hpq hV hargs r1
  suffices hs : Calls Try.prog 4 #[v0, v1] W (Gives (.bool true) W) from hs.mono fun e W' ⟨he, x, hx⟩ => ⟨_, he, law_post mergeSorts_laidOut hW' rfl rfl (by kernel_rfl) (by first | exact Try.underlying4 | rfl) mergeSorts_types (hx ▸ W.below_past x)⟩
  clear hW'
  obtain ⟨A, ca, a, rfl, ha, _, hl⟩ := rd_i64s (rd_slice Try.underlying22 k0 h0)
  obtain ⟨B, cb, b, rfl, hb, _, hl2⟩ := rd_i64s (rd_slice Try.underlying22 k1 h1)
  exact MergeSorts_any A B ca cb _ _ a b rfl rfl hl hl2 W ha hb
theorem mergeSorts_holds : Rows.MergeSortsSaid :=
  OpenClaim.holds_of_wide 4 Try.f4 rfl rfl rfl rfl rfl rfl rfl ⟨rfl, rfl, rfl, rfl, rfl⟩ rfl rfl rfl rfl rfl (by kernel_rfl) Try.func4 (by kernel_rfl)
    (of_decide_eq_true (by kernel_rfl)) (by unfold Func.isWrapper; first | (rw [if_pos (by decide +kernel)]; kernel_rfl) | (rw [if_neg (by decide +kernel)]; exact ⟨rfl, rfl⟩))
    (fun os started H enc _ => mergeSorts_lifted os started H enc)
end Go.Proofs.Ythemogfniohdiaa
