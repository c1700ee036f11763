/-
  Layer 43's RtaTells: answer times, when one is done, and the order by deadlines, is the document's. No condition.
-/
import Derived.Test.YtjkmakaahghddaaLawBlock
namespace Go.Proofs.Ytjkmakaahghddaa
open Go.RowKit Go.ChangeShapes Go.WideShapes Go.ChangeAt
def metF (l : List Wk) (B : Int) (k : Nat) : Bool := (List.range k).all fun j => !lateF l B j
theorem metF_succ (l : List Wk) (B : Int) (k : Nat) : metF l B (k + 1) = (metF l B k && !lateF l B k) := by
  simp [metF, List.range_succ]
set_option maxHeartbeats 4000000 in
theorem RtaTells_any (A : Option Addr) (ca n : Nat) (l : List Wk) (en : l.length = n) (hn : n ≤ maxLen) (hca : n ≤ ca) (block p q : Int) (w : World) (ha : Cells w A (tab wkV l)) :
    Calls Try.prog 3 #[.slice A n ca, .int .i64 block, .agg #[.int .i64 p, .int .i64 q]] w (Gives (.bool true) w) := by
  obtain ⟨W, eW⟩ : ∃ W, W = w.alloc (.cells #[.int .i64 p, .int .i64 q] 23) := ⟨_, rfl⟩
  have hbW : Below w.heap.size w W := by rw [eW]; exact (Below.refl _ _).alloc (Nat.le_refl _) _
  have c0 : W.cell? ⟨w.heap.size, 0, none⟩ = some (.int .i64 p) := by rw [eW]; simp [go_sem]
  have c1 : W.cell? ⟨w.heap.size, 1, none⟩ = some (.int .i64 q) := by rw [eW]; simp [go_sem]
  have lW : w.heap.size < W.heap.size := by rw [eW]; simp
  have haW := ha.below hbW
  have HBW := hid hbW
  have EW := hid eW
  have HAW := hid haW
  have EN := hid en
  clear hbW eW haW ha en
  by_cases hbig : 10 < n
  · go_enter Try.func3, Try.ntmps3
    go_upto_region 1 with fail
    rw [← EW.out]
    go_wp2_with ((go_at_call 6; refine (awake_any _).mono ?_; rintro _ _ ⟨rfl, _, rfl⟩))
    go_ret
    exact Gives.mk rfl (RowKit.Below.past HBW.out _)
  · rcases dec_cases (1000 < q) with hq | hq
    · go_enter Try.func3, Try.ntmps3
      go_upto_region 1 with fail
      rw [← EW.out]
      go_wp2_with ((go_at_call 6; refine (awake_any _).mono ?_; rintro _ _ ⟨rfl, _, rfl⟩))
      go_ret
      exact Gives.mk rfl (RowKit.Below.past HBW.out _)
    · have HLS := hid (fun x => (LsW.mk (l := l) EN.out hca (by omega) (HAW.out.past x)))
      obtain ⟨B, eB⟩ : ∃ B, clampF block 0 1000 = B := ⟨_, rfl⟩
      have hT := fun x => Times_any A ca n l block (W.past x) (HLS.out x)
      rw [eB] at hT
      have HT := hid hT
      have EB := hid eB
      obtain ⟨D, eD⟩ : ∃ D, DoneAll l p q = D := ⟨_, rfl⟩
      have ED := hid eD
      clear hT eB eD
      go_enter Try.func3, Try.ntmps3
      go_upto_region 1 with fail
      rw [← EW.out]
      go_wp2_with ((go_at_call 6; refine (awake_any _).mono ?_; rintro _ _ ⟨rfl, _, rfl⟩))
      refine (HT.out _).mono ?_
      rintro _ w2 ⟨T, ct, rfl, hb2, ho2⟩
      have HB2 := hid (show Below W.heap.size W w2 from below_trans' (by (repeat (first | exact Below.refl _ _ | refine RowKit.Below.past ?_ _ | refine RowKit.Below.alloc' ?_ _ | refine RowKit.Below.drew' ?_ | refine RowKit.Below.drewN' ?_ _ | refine RowKit.Below.setCell' ?_ (by simp [go_sem]) _))) hb2)
      have HC2 := hid (Cells.of_own ho2)
      have HL2 := hid (LsW.mk (l := l) EN.out hca (by omega) (HAW.out.below HB2.out))
      clear hb2 ho2 HT HLS
      go_wp2_with fail
      refine (Rise_any A ca n l w2 HL2.out).mono ?_
      rintro _ w3 ⟨R, cr, rfl, hb3, ho3⟩
      have HB3 := hid (below_trans' HB2.out hb3)
      have HC3 := hid (HC2.out.below hb3)
      have HR3 := hid (Cells.of_own ho3)
      have HL3 := hid (HL2.out.below hb3)
      have d0 := below_cell HB3.out (Nat.le_refl _) _ _ c0
      have d1 := below_cell HB3.out (Nat.le_refl _) _ _ c1
      have l3 : w.heap.size < w3.heap.size := World.block_lt_of_cell? w3 _ d0
      have qd := fun x => Done_any A ca n l p q (w3.past x) (HL3.out.past x)
      have rd := fun x => RDone_any A ca n l p q (w3.past x) (HL3.out.past x)
      rw [ED.out] at qd rd
      have QD := hid qd
      have RD := hid rd
      have HMay := hid (fun x => RMay_any A ca n l EN.out hn (w3.past x) (HL3.out.past x).cells)
      have HMeet := hid (fun x => Meet_any A ca n l block (w3.past x) (HL3.out.past x))
      clear hb3 ho3 HC2 HL2 HB2 c0 c1 qd rd
      go_wp2_with fail
      refine wp_region_past (by kernel_rfl) (by kernel_rfl) ?_
      repeat (go_big_quiet_step ((first | (go_at_call 9; first | with_reducible exact Calls.in_past (QD.out _) | with_reducible exact Calls.in_past2 (QD.out _)) | (go_at_call 10; first | with_reducible exact Calls.in_past (RD.out _) | with_reducible exact Calls.in_past2 (RD.out _)) | (go_at_call 9; first | exact Calls.in_past (QD.out _) | exact Calls.in_past2 (QD.out _)) | (go_at_call 10; first | exact Calls.in_past (RD.out _) | exact Calls.in_past2 (RD.out _)))))
      refine wpQuiet_nil ?_
      rintro _ ⟨_, rfl⟩
      clear QD RD d0 d1
      cases hm : mayF l with
      | false =>
        have e1 : timesF l B = [] := by simp [timesF, hm]
        have e2 : riseF l = [] := by simp [riseF, hm]
        have e3 : meetF l B = false := by simp [meetF, hm]
        have hM := HMay.out
        have hE := HMeet.out
        rw [hm] at hM
        rw [EB.out, e3] at hE
        have HM := hid hM
        have HE := hid hE
        rw [e1, e2]
        clear HMay HMeet hM hE hm e1 e2 e3
        go_wp2_with (first | (go_at_call 11; refine (HM.out _).mono ?_; rintro _ _ ⟨rfl, _, rfl⟩) | (go_at_call 12; refine (HE.out _).mono ?_; rintro _ _ ⟨rfl, _, rfl⟩))
        go_ret
        exact Gives.mk rfl (RowKit.Below.past (below_trans' HBW.out HB3.out) _)
      | true =>
        have hn6 : n ≤ 6 := by have := ((mayF_iff l).1 hm).1; rw [EN.out] at this; exact this
        have e1 : timesF l B = timesK l B n := by simp [timesF, hm, EN.out]
        have e2 : riseF l = riseK (dlF l) n := by simp [riseF, hm, EN.out]
        have e3 : meetF l B = metF l B n := by simp [meetF, metF, hm, EN.out]
        have e4 : (timesF l B).length = n := by rw [e1, timesK_length]
        have e5 : (riseF l).length = n := by rw [e2, riseK_length]
        have hM := HMay.out
        have hE := HMeet.out
        rw [hm] at hM
        rw [EB.out, e3] at hE
        have HM := hid hM
        have HE := hid hE
        rw [e4, e5]
        rw [e1] at HC3
        rw [e2] at HR3
        have WK3 := hid (HL3.out.wks hm)
        clear HMay HMeet hM hE hm e1 e2 e3 e4 e5
        go_wp2_with (go_at_call 11; refine (HM.out _).mono ?_; rintro _ _ ⟨rfl, x4, rfl⟩)
        refine (RRise_any A ca n l (w3.past _) (HL3.out.past _) (by omega)).mono ?_
        rintro _ w4 ⟨Q, cq, rfl, hb4, ho4⟩
        have hb34 := below_trans' (w3.below_past _) hb4
        have HB4 := hid (below_trans' (below_trans' HBW.out HB3.out) hb34)
        have HC4 := hid (HC3.out.below hb34)
        have HR4 := hid (HR3.out.below hb34)
        have HL4 := hid (HL3.out.below hb34)
        have WK4 := hid (WK3.out.below hb34)
        have HQ4 := hid (Cells.of_own ho4)
        have HE4 := hid (fun x => Meet_any A ca n l block (w4.past x) (HL4.out.past x))
        have HBE := hid (show meetF l (clampF block 0 1000) = metF l B n by
          rw [EB.out]
          have hm : mayF l = true := by rw [mayF_iff]; exact ⟨by rw [EN.out]; omega, WK4.out.ok⟩
          simp [meetF, metF, hm, EN.out])
        clear hb4 ho4 hb34 HC3 HR3 HL3 WK3 HM HE
        go_wp2_with fail
        go_loopw [10, 74] (fun v i wr => ∃ (k : Nat) (x : Past), i = .int .i64 k ∧ k ≤ n ∧ wr = w4.past x ∧ v = .bool (metF l B k)) (fun _ i _ => n - (intOf i).toNat)
        case atStart => exact ⟨0, _, rfl, by omega, World.past_refl w4, rfl⟩
        case round =>
          obtain ⟨k, x, rfl, hk, rfl, rfl⟩ := hrel
          by_cases hlt : k < n
          · obtain ⟨b2, o2, rfl, ha2⟩ := i64_at HC4.out (show k < (timesK l B n).length by rw [timesK_length]; exact hlt)
            obtain ⟨b3, o3, rfl, ha3⟩ := i64_at HR4.out (show k < (riseK (dlF l) n).length by rw [riseK_length]; exact hlt)
            obtain ⟨b4, o4, rfl, ha4⟩ := i64_at HQ4.out (show k < (riseK (dlF l) n).length by rw [riseK_length]; exact hlt)
            obtain ⟨b1, o1, rfl, _, _, ha1⟩ := wk_at WK4.out.cells (show k < l.length by rw [WK4.out.len]; exact hlt)
            rw [times_at hlt] at ha2
            have hR := RTime_any _ ca n l k block (w4.past x) (WK4.out.past x) hlt
            rw [EB.out] at hR
            obtain ⟨t, et⟩ : ∃ t, timeF l k B = t := ⟨_, rfl⟩
            obtain ⟨d, ed⟩ : ∃ d, (wk l k).d = d := ⟨_, rfl⟩
            obtain ⟨y, ey⟩ : ∃ y, atL (riseK (dlF l) n) k = y := ⟨_, rfl⟩
            have hs := metF_succ l B k
            have hla : lateF l B k = (decide (t < 0) || decide (d < t)) := by unfold lateF; rw [et, ed]
            rw [hla] at hs
            rw [et] at ha2 hR
            rw [ed] at ha1
            rw [ey] at ha3 ha4
            obtain ⟨b, eb⟩ : ∃ b, metF l B k = b := ⟨_, rfl⟩
            rw [eb] at hs ⊢
            have HS := hid hs
            have HRT := hid hR
            clear hs hR hla et ed ey eb
            have hcases : (b = false ∧ metF l B (k + 1) = false) ∨ (b = true ∧ decide (0 ≤ t) = false ∧ metF l B (k + 1) = false) ∨ (b = true ∧ decide (0 ≤ t) = true ∧ decide (t ≤ d) = false ∧ metF l B (k + 1) = false) ∨ (b = true ∧ decide (0 ≤ t) = true ∧ decide (t ≤ d) = true ∧ metF l B (k + 1) = true) := by
              rw [HS.out]
              cases b
              · exact .inl ⟨rfl, rfl⟩
              · by_cases h1 : 0 ≤ t
                · by_cases h2 : t ≤ d
                  · exact .inr (.inr (.inr ⟨rfl, by simpa using h1, by simpa using h2, by simp; omega⟩))
                  · exact .inr (.inr (.inl ⟨rfl, by simpa using h1, by simpa using h2, by simp; omega⟩))
                · exact .inr (.inl ⟨rfl, by simpa using h1, by simp; omega⟩)
            rcases hcases with ⟨rfl, h3⟩ | ⟨rfl, h1, h3⟩ | ⟨rfl, h1, h2, h3⟩ | ⟨rfl, h1, h2, h3⟩
            all_goals
              have H3 := hid h3
              clear h3
              go_wp2_with fail
              refine HRT.out.mono ?_
              rintro _ _ ⟨rfl, x5, rfl⟩
              go_wp2_with fail
              refine wp_region_past (by kernel_rfl) (by kernel_rfl) ?_
              repeat (go_big_quiet_step ((fail)))
              refine wpQuiet_nil ?_
              rintro _ ⟨_, rfl⟩
              go_wp2_with fail
              go_roundw
              case rel => exact ⟨k + 1, _, by go_num, by omega, rfl, by rw [H3.out]⟩
              case measure => simp [intOf]; omega
          · obtain rfl : k = n := by omega
            obtain ⟨b, eb⟩ : ∃ b, metF l B k = b := ⟨_, rfl⟩
            have hE := HE4.out
            rw [HBE.out, eb] at hE
            rw [eb]
            have HE5 := hid hE
            clear hE eb HE4 HBE
            cases b
            all_goals
              go_wp2_with (go_at_call 12; refine (HE5.out _).mono ?_; rintro _ _ ⟨rfl, _, rfl⟩)
              go_ret
              exact Gives.mk rfl (RowKit.Below.past HB4.out _)
theorem c_two_3 : Try.prog.cellsOf 3 = 1 := by kernel_rfl
theorem c_two : Try.prog.cellsOf 23 = 2 := by kernel_rfl
theorem rd_two {H : Type} {enc : TypeId × Value → H} {W : World} {cs : Array Value} (h : Rd enc Try.prog W 23 cs.toList) : ∃ x0 x1 : Int, cs = #[.int .i64 x0, .int .i64 x1] ∧ I64 x0 ∧ I64 x1 := by
  obtain ⟨c0, c1, e⟩ := cs_two (h.len_array Try.underlying23 c_two)
  rw [e] at h
  obtain ⟨x0, e0, w0⟩ := Rd.int (h.elem Try.underlying23 0 (by decide) 1 c_two_3) Try.underlying3
  obtain ⟨x1, e1, w1⟩ := Rd.int (h.elem Try.underlying23 1 (by decide) 1 c_two_3) Try.underlying3
  simp at e0 e1
  subst e0 e1
  exact ⟨x0, x1, arr_of e, i64_of w0, i64_of w1⟩
theorem rtaTells_own : ownKnob Try.prog.godebug = none := by kernel_rfl
theorem rtaTells_laidOut : laidOutB Try.prog = true := by kernel_rfl
theorem rtaTells_types : ∀ t ∈ Try.f3.params.toList, Try.prog.readableRec t = true ∧ t < Try.prog.types.size := by
  rw [Try.params3]
  intro t ht
  simp only [List.mem_cons, List.not_mem_nil, or_false] at ht
  rcases ht with rfl | rfl | rfl
  · exact ⟨by kernel_rfl, of_decide_eq_true (by kernel_rfl)⟩
  · exact ⟨by kernel_rfl, of_decide_eq_true (by kernel_rfl)⟩
  · exact ⟨by kernel_rfl, of_decide_eq_true (by kernel_rfl)⟩
set_option maxRecDepth 100000 in
theorem rtaTells_lifted (os : Os) (started : os.Started) (H : Type) (enc : TypeId × Value → H) :
    ReturnsInHanded {} Try.checked os 3 .any (Rows.rtaTellsSpec.pre6 enc Try.prog Try.f3 Rows.rtaTellsRow.domain false) (Rows.rtaTellsSpec.post enc Try.prog Try.f3 false true false false) := by
  refine returnsInHanded_of_change (C := Try.checked) rtaTells_own started (by kernel_rfl) Try.func3
    (ChangeSpec.witness6 (enc := enc) (C := Try.checked) false ⟨#[], #[.slice none 0 0, .int .i64 0, .agg #[.int .i64 0, .int .i64 0]], []⟩ 8 (by kernel_rfl) (by kernel_rfl) (by kernel_rfl) (by kernel_rfl)) ?_
  intro W base args ds gs before hval0 hW hcnd _
  have hval : ∀ (j : Nat) t v, Try.f3.params[j]? = some t → args[j]? = some v → Value.okWide Try.prog W .any base t v := hval0
  have hW' := hW
  obtain ⟨p, q, hA0, hV, hpq, hfz, hnd⟩ := hW
  have hA : DataW.TrodAll enc Try.prog W 0 (fun _ => true) true Try.f3.params.toList args.toList ds p := hA0
  rw [Try.params3] at hA hval
  obtain ⟨v0, vs0, d0, ds0, p0, q0, hargs, rfl, rfl, h0, r0⟩ := trodAll_cons hA
  obtain ⟨v1, vs1, d1, ds1, p1, q1, rfl, rfl, rfl, h1, r1⟩ := trodAll_cons r0
  obtain ⟨v2, vs2, d2, ds2, p2, q2, rfl, rfl, rfl, h2, r2⟩ := trodAll_cons r1
  obtain ⟨rfl, rfl, rfl⟩ := trodAll_nil r2
  obtain rfl : args = #[v0, v1, v2] := by cases args; simp_all
  have k0 := hval 0 22 v0 rfl rfl
  have k1 := hval 1 3 v1 rfl rfl
  have k2 := hval 2 23 v2 rfl rfl
  clear hA0 hval0 hval hcnd hfz hnd hpq hV hargs r2
  suffices hs : Calls Try.prog 3 #[v0, v1, v2] W (Gives (.bool true) W) from hs.mono fun e W' ⟨he, x, hx⟩ => ⟨_, he, law_post rtaTells_laidOut hW' rfl rfl (by kernel_rfl) (by first | exact Try.underlying4 | rfl) rtaTells_types (hx ▸ W.below_past x)⟩
  clear hW'
  obtain ⟨A, ca, l, rfl, ha, hI, hl, hc⟩ := rd_works c_work rd_wk (rd_slice Try.underlying22 k0 h0)
  obtain ⟨x1, rfl, _, _, w1⟩ := open_int Try.underlying3 k1 h1
  obtain ⟨cs, rfl, hr⟩ := rd_agg (.inr ⟨_, _, Try.underlying23⟩) k2 h2
  obtain ⟨y0, y1, rfl, _, _⟩ := rd_two hr
  exact RtaTells_any A ca _ l rfl hl hc x1 y0 y1 W ha
theorem rtaTells_holds : Rows.RtaTellsSaid :=
  OpenClaim.holds_of_wide 3 Try.f3 rfl rfl rfl rfl rfl rfl rfl ⟨rfl, rfl, rfl, rfl, rfl⟩ rfl rfl rfl rfl rfl (by kernel_rfl) Try.func3 (by kernel_rfl)
    (of_decide_eq_true (by kernel_rfl)) (by unfold Func.isWrapper; first | (rw [if_pos (by decide +kernel)]; kernel_rfl) | (rw [if_neg (by decide +kernel)]; exact ⟨rfl, rfl⟩))
    (fun os started H enc _ => rtaTells_lifted os started H enc)
end Go.Proofs.Ytjkmakaahghddaa
