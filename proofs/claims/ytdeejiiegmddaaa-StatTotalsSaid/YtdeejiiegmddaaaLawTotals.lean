/-
  Layer 25's StatTotals: the total is the sum of all tallies. No condition.
-/
import Derived.Test.YtdeejiiegmddaaaStW
import Derived.Test.YtdeejiiegmddaaaDigA
import Derived.Test.YtdeejiiegmddaaaLift
namespace Go.Proofs.Ytdeejiiegmddaaa
open Go Go.RowKit Go.ChangeShapes Go.WideShapes Go.ChangeAt
def fiveL (x : Ty) : List Int := [x.d, x.p, x.a, x.b, x.e]
set_option maxRecDepth 100000 in
set_option maxHeartbeats 8000000 in
theorem StatTotals_any (A : Option Addr) (ca n : Nat) (l : List Ty) (en : l.length = n) (hmx : n ≤ maxLen) (hl : ∀ x ∈ l, U64 x.wt) (w : World) (ha : Cells w A (tab tyV l)) :
    Calls Try.prog 5 #[.slice A n ca] w (Gives (.bool true) w) := by
  have HA := hid ha
  have EN := hid en
  have HL := hid hl
  clear ha en hl
  by_cases h40 : 40 < n
  · go_enter Try.func5, Try.ntmps5
    go_wp2_with (go_at_call 6; refine (awake_any _).mono ?_; rintro _ _ ⟨rfl, x1, rfl⟩)
    go_ret
    exact ⟨rfl, x1, rfl⟩
  have h40' : n ≤ 40 := by omega
  go_enter Try.func5, Try.ntmps5
  go_upto_region 6 with (go_at_call 6; refine (awake_any _).mono ?_; rintro _ _ ⟨rfl, x1, rfl⟩)
  obtain ⟨w0, ew0⟩ : ∃ w0, w0 = w.past x1 := ⟨_, rfl⟩
  have hb0 : Below w.heap.size w w0 := by rw [ew0]; exact w.below_past x1
  obtain ⟨b, eb⟩ : ∃ b, w0.heap.size = b := ⟨_, rfl⟩
  have hsz : w.heap.size + x1.more = b := by rw [← eb, ew0]; simp [go_sem]
  obtain ⟨W0, eW0⟩ : ∃ W0, W0 = w0.alloc (.cells (tyV (totK l 0)).toArray tTy) := ⟨_, rfl⟩
  have hr0 : Rec W0 b tTy (tyV (totK l 0)).toArray := by rw [eW0, ← eb]; exact Rec.new w0 _ _
  have hB0 : Below b w0 W0 := by rw [eW0, ← eb]; exact (Below.refl _ w0).alloc (Nat.le_refl _) _
  have H0 := hid (And.intro hr0 hB0)
  have HB0 := hid hb0
  have HEB := hid eb
  have hwb : w.heap.size ≤ b := by have := hb0.size; omega
  rw [hsz, ← ew0]
  change Code.wp _ _ _ _ (w0.alloc (.cells (tyV (totK l 0)).toArray tTy))
  rw [← eW0]
  have HA0 := hid (HA.out.below hb0)
  clear hr0 hB0 hb0 eW0 ew0 hsz eb
  go_wp2_with fail
  go_loopw [5, 16] (fun _ v wr => ∃ k : Nat, v = .int .i64 (k : Int) ∧ k ≤ n ∧ Hid (Rec wr b tTy (tyV (totK l k)).toArray ∧ Below b w0 wr)) (fun _ v _ => n - (intOf v).toNat)
  case atStart => exact ⟨0, rfl, Nat.zero_le _, H0⟩
  case round =>
    clear H0
    obtain ⟨k, rfl, hk, H⟩ := hrel
    by_cases hlt : k < n
    · obtain ⟨gA, oA, rfl, q0, q1, q2, q3, q4, q5, q6⟩ := ty_at (HA0.out.below (by rw [HEB.out]; exact H.out.2)) (k := k) (by rw [EN.out]; exact hlt)
      have HT := hid (show totK l (k + 1) = addT (totK l k) (tyA l k) from rfl)
      have hu1 := totK_in HL.out k
      have hu2 : U64 (tyA l k).wt := HL.out _ (List.mem_of_getElem? (ty_get (by rw [EN.out]; exact hlt)))
      obtain ⟨⟨xi, xd, xp, xa, xb, xe, xw⟩, ex⟩ : ∃ z, tyA l k = z := ⟨_, rfl⟩
      obtain ⟨⟨ti, td, tp, ta, tb, te, tw⟩, et⟩ : ∃ z, totK l k = z := ⟨_, rfl⟩
      rw [ex, et] at HT
      rw [et] at H hu1
      rw [ex] at hu2 q0 q1 q2 q3 q4 q5 q6
      simp only at hu1 hu2 q0 q1 q2 q3 q4 q5 q6
      have HAC := hid (fun W => RAdd_any tw xw hu1 hu2 W)
      have e1 : IntKind.i64.wrap ((k : Int) + 1) = (k : Int) + 1 := by rw [IntKind.wrap_i64]; omega
      have hgl := World.block_lt_of_cell? _ _ q0
      obtain ⟨K, eK⟩ : ∃ K, wr.heap.size = K := ⟨_, rfl⟩
      obtain ⟨w5, ew5⟩ : ∃ w5, w5 = wr.alloc (.cells (tyV ⟨xi, xd, xp, xa, xb, xe, xw⟩).toArray tTy) := ⟨_, rfl⟩
      have hsK : b < K := by rw [← eK]; exact H.out.1.lt
      have r5 : Rec w5 K tTy (tyV ⟨xi, xd, xp, xa, xb, xe, xw⟩).toArray := by rw [ew5, ← eK]; exact Rec.new wr _ _
      have hs5 : w5.heap.size = K + 1 := by rw [ew5, ← eK]; simp [go_sem]
      have H5 := hid (show Rec w5 b tTy (tyV ⟨ti, td, tp, ta, tb, te, tw⟩).toArray ∧ Below b w0 w5 from by
        rw [ew5]; exact ⟨H.out.1.alloc _, H.out.2.alloc (by rw [eK]; omega) _⟩)
      have R5 := hid r5
      have EW5 := hid ew5
      clear ex et hu1 hu2 ew5 H
      simp only at hgl
      go_upto_region 9 with (fail)
      change Code.wp _ _ _ _ (wr.alloc (.cells (tyV ⟨xi, xd, xp, xa, xb, xe, xw⟩).toArray tTy))
      rw [← EW5.out]
      have d1 := Rec.cell R5.out 1
      have d2 := Rec.cell R5.out 2
      have d3 := Rec.cell R5.out 3
      have d4 := Rec.cell R5.out 4
      have d5 := Rec.cell R5.out 5
      have d6 := Rec.cell R5.out 6
      simp [tyV] at d1 d2 d3 d4 d5 d6
      have hKl := R5.out.lt
      clear q0 q1 q2 q3 q4 q5 q6 eK hgl r5
      go_upto_region 10 with (fail)
      obtain ⟨w7, ew7⟩ : ∃ w7, w7 = w5.alloc (.cells (i64s [xd, xp, xa, xb, xe]).toArray 3) := ⟨_, rfl⟩
      have h7 : Rec w7 (K + 1) 3 (i64s [xd, xp, xa, xb, xe]).toArray := by rw [ew7, ← hs5]; exact Rec.new w5 _ _
      have R7 := hid (show Rec w7 K tTy (tyV ⟨xi, xd, xp, xa, xb, xe, xw⟩).toArray from by rw [ew7]; exact R5.out.alloc _)
      have H7 := hid (show Rec w7 b tTy (tyV ⟨ti, td, tp, ta, tb, te, tw⟩).toArray ∧ Below b w0 w7 from by
        rw [ew7]; exact ⟨H5.out.1.alloc _, H5.out.2.alloc (by omega) _⟩)
      have F7 := hid h7
      change Code.wp _ _ _ _ (w5.alloc (.cells (i64s [xd, xp, xa, xb, xe]).toArray 3))
      rw [← ew7]
      clear ew7 h7 d1 d2 d3 d4 d5 d6 hKl
      go_loopw [7, 32] (fun _ v wq => ∃ j : Nat, v = .int .i64 (j : Int) ∧ j ≤ 5 ∧ w7 = wq) (fun _ v _ => 5 - (intOf v).toNat)
      case atStart => exact ⟨0, rfl, Nat.zero_le _, rfl⟩
      case round =>
        obtain ⟨j, rfl, hj, rfl⟩ := hrel
        by_cases hjl : j < 5
        · have hc := Rec.cell F7.out j
          have hjL : j < [xd, xp, xa, xb, xe].length := hjl
          have hc2 : w7.cell? ⟨K + 1, j, none⟩ = some (.int .i64 ([xd, xp, xa, xb, xe][j])) := by
            rw [hc, List.getElem?_toArray, i64s, List.getElem?_map, List.getElem?_eq_getElem hjL]; rfl
          obtain ⟨z, ez⟩ : ∃ z, [xd, xp, xa, xb, xe][j] = z := ⟨_, rfl⟩
          rw [ez] at hc2
          have hgl7 := F7.out.lt
          have ej : IntKind.i64.wrap ((j : Int) + 1) = (j : Int) + 1 := by rw [IntKind.wrap_i64]; omega
          clear hc ez
          by_cases hz1 : (1099511627776 : Int) < z
          · go_wp2_with fail
            go_ret
            exact Gives.mk rfl (HB0.out.trans (H7.out.2.mono hwb))
          · by_cases hz2 : z < (-1099511627776 : Int)
            · go_wp2_with fail
              go_ret
              exact Gives.mk rfl (HB0.out.trans (H7.out.2.mono hwb))
            · go_wp2_with fail
              go_roundw
              case rel => exact ⟨j + 1, by go_num, by omega, by first | rfl | trivial⟩
              case measure => simp [intOf]; omega
        · obtain rfl : j = 5 := by omega
          have ht := H7.out.1
          have c1 := Rec.cell ht 1
          have c2 := Rec.cell ht 2
          have c3 := Rec.cell ht 3
          have c4 := Rec.cell ht 4
          have c5 := Rec.cell ht 5
          have c6 := Rec.cell ht 6
          have f1 := Rec.frozen ht 1
          have f2 := Rec.frozen ht 2
          have f3 := Rec.frozen ht 3
          have f4 := Rec.frozen ht 4
          have f5 := Rec.frozen ht 5
          have f6 := Rec.frozen ht 6
          have d1 := Rec.cell R7.out 1
          have d2 := Rec.cell R7.out 2
          have d3 := Rec.cell R7.out 3
          have d4 := Rec.cell R7.out 4
          have d5 := Rec.cell R7.out 5
          have d6 := Rec.cell R7.out 6
          have hl3 := ht.lt
          have hl5 := R7.out.lt
          have hne : ¬ K = b := by omega
          have hne2 : ¬ b = K := by omega
          simp [tyV] at c1 c2 c3 c4 c5 c6 d1 d2 d3 d4 d5 d6
          clear ht
          go_wp2_with (go_at_call 12; refine (HAC.out _).mono ?_; rintro _ _ ⟨rfl, y5, rfl⟩)
          have e7 : totK l (k + 1) = ⟨ti, IntKind.i64.wrap (td + xd), IntKind.i64.wrap (tp + xp), IntKind.i64.wrap (ta + xa), IntKind.i64.wrap (tb + xb), IntKind.i64.wrap (te + xe), addF tw xw⟩ := HT.out
          go_roundw
          case rel =>
            refine ⟨k + 1, by go_num, by omega, hid ⟨?_, ?_⟩⟩
            · rw [e7]
              have h7 := Rec.past ((((((H7.out.1.set 1 (.int .i64 (IntKind.i64.wrap (td + xd)))).set 2 (.int .i64 (IntKind.i64.wrap (tp + xp)))).set 3 (.int .i64 (IntKind.i64.wrap (ta + xa)))).set 4 (.int .i64 (IntKind.i64.wrap (tb + xb)))).set 5 (.int .i64 (IntKind.i64.wrap (te + xe)))).set 6 (.int .u64 (addF tw xw))) y5
              simp only [Go.IntWalk.i64_left] at h7 ⊢
              simpa [tyV] using h7
            · refine Below.trans ?_ (RowKit.Below.mono (World.below_past _ _) (by have := H7.out.1.lt; simp [go_sem]; omega))
              iterate 6 (refine below_set ?_ (Nat.le_refl _) _ _)
              exact H7.out.2
          case measure => simp [intOf]; omega
    · obtain rfl : n = k := by omega
      have HTOT := hid (fun (z : Past) => Total_any A ca n l EN.out hmx HL.out (wr.past z) ((HA0.out.below (by rw [HEB.out]; exact H.out.2)).past z))
      obtain ⟨⟨ti, td, tp, ta, tb, te, tw⟩, et⟩ : ∃ z, totK l n = z := ⟨_, rfl⟩
      rw [et] at HTOT H
      have HTO2 : Hid (∀ z : Past, Calls Try.prog 13 #[.slice A n ca] (wr.past z) (Gives (.agg #[.int .i64 ti, .int .i64 td, .int .i64 tp, .int .i64 ta, .int .i64 tb, .int .i64 te, .int .u64 tw]) (wr.past z))) := hid (fun z => HTOT.out z)
      have ht := H.out.1
      have c0 := Rec.cell ht 0
      have c1 := Rec.cell ht 1
      have c2 := Rec.cell ht 2
      have c3 := Rec.cell ht 3
      have c4 := Rec.cell ht 4
      have c5 := Rec.cell ht 5
      have c6 := Rec.cell ht 6
      have hl3 := ht.lt
      simp [tyV] at c0 c1 c2 c3 c4 c5 c6
      clear ht et HTOT
      go_wp2_with fail
      refine wp_region_past (by kernel_rfl) (by kernel_rfl) ?_
      repeat (go_big_quiet_step ((first | (go_at_call 13; first | with_reducible exact Calls.in_past (HTO2.out _) | with_reducible exact Calls.in_past2 (HTO2.out _)) | (go_at_call 13; first | exact Calls.in_past (HTO2.out _) | exact Calls.in_past2 (HTO2.out _)))))
      refine wpQuiet_nil ?_
      rintro _ ⟨_, rfl⟩
      go_wp2_with fail
      go_ret
      exact Gives.mk rfl (RowKit.Below.past (HB0.out.trans (H.out.2.mono hwb)) _)
theorem c_tally_3 : Try.prog.cellsOf 3 = 1 := by kernel_rfl
theorem c_tally_30 : Try.prog.cellsOf 30 = 1 := by kernel_rfl
theorem c_tally : Try.prog.cellsOf 32 = 7 := by kernel_rfl
theorem rd_tally {H : Type} {enc : TypeId × Value → H} {W : World} {cs : Array Value} (h : Rd enc Try.prog W 32 cs.toList) : ∃ x0 x1 x2 x3 x4 x5 x6 : Int, cs = #[.int .i64 x0, .int .i64 x1, .int .i64 x2, .int .i64 x3, .int .i64 x4, .int .i64 x5, .int .u64 x6] ∧ I64 x0 ∧ I64 x1 ∧ I64 x2 ∧ I64 x3 ∧ I64 x4 ∧ I64 x5 ∧ U64 x6 := by
  obtain ⟨c0, c1, c2, c3, c4, c5, c6, e⟩ := cs_seven (h.len_struct Try.underlying32 c_tally)
  rw [e] at h
  obtain ⟨x0, e0, w0⟩ := Rd.int (h.field Try.underlying32 0 3 0 1 rfl c_tally_3) Try.underlying3
  obtain ⟨x1, e1, w1⟩ := Rd.int (h.field Try.underlying32 1 3 1 1 rfl c_tally_3) Try.underlying3
  obtain ⟨x2, e2, w2⟩ := Rd.int (h.field Try.underlying32 2 3 2 1 rfl c_tally_3) Try.underlying3
  obtain ⟨x3, e3, w3⟩ := Rd.int (h.field Try.underlying32 3 3 3 1 rfl c_tally_3) Try.underlying3
  obtain ⟨x4, e4, w4⟩ := Rd.int (h.field Try.underlying32 4 3 4 1 rfl c_tally_3) Try.underlying3
  obtain ⟨x5, e5, w5⟩ := Rd.int (h.field Try.underlying32 5 3 5 1 rfl c_tally_3) Try.underlying3
  obtain ⟨x6, e6, w6⟩ := Rd.int (h.field Try.underlying32 6 30 6 1 rfl c_tally_30) Try.underlying30
  simp at e0 e1 e2 e3 e4 e5 e6
  subst e0 e1 e2 e3 e4 e5 e6
  exact ⟨x0, x1, x2, x3, x4, x5, x6, arr_of e, i64_of w0, i64_of w1, i64_of w2, i64_of w3, i64_of w4, i64_of w5, u64_of w6⟩
theorem rd_ty {H : Type} {enc : TypeId × Value → H} {W : World} : ∀ cs : List Value, Rd enc Try.prog W 32 cs → ∃ x, cs = tyV x ∧ U64 x.wt := fun cs hcs => by
  have hcs' : Rd enc Try.prog W 32 (cs.toArray).toList := by simpa using hcs
  obtain ⟨x0, x1, x2, x3, x4, x5, x6, e, _, _, _, _, _, _, h6⟩ := rd_tally hcs'
  refine ⟨⟨x0, x1, x2, x3, x4, x5, x6⟩, ?_, h6⟩
  have : cs.toArray.toList = _ := congrArg Array.toList e
  simpa [tyV] using this
theorem statTotals_own : ownKnob Try.prog.godebug = none := by kernel_rfl
theorem statTotals_laidOut : laidOutB Try.prog = true := by kernel_rfl
theorem statTotals_types : ∀ t ∈ Try.f5.params.toList, Try.prog.readableRec t = true ∧ t < Try.prog.types.size := by
  rw [Try.params5]
  intro t ht
  simp only [List.mem_cons, List.not_mem_nil, or_false] at ht
  rcases ht with rfl
  · exact ⟨by kernel_rfl, of_decide_eq_true (by kernel_rfl)⟩
set_option maxRecDepth 100000 in
theorem statTotals_lifted (os : Os) (started : os.Started) (H : Type) (enc : TypeId × Value → H) :
    ReturnsInHanded {} Try.checked os 5 .any (Rows.statTotalsSpec.pre6 enc Try.prog Try.f5 Rows.statTotalsRow.domain false) (Rows.statTotalsSpec.post enc Try.prog Try.f5 false true false false) := by
  refine returnsInHanded_of_change (C := Try.checked) statTotals_own started (by kernel_rfl) Try.func5
    (ChangeSpec.witness6 (enc := enc) (C := Try.checked) false ⟨#[], #[.slice none 0 0], []⟩ 8 (by kernel_rfl) (by kernel_rfl) (by kernel_rfl) (by kernel_rfl)) ?_
  intro W base args ds gs before hval0 hW hcnd _
  have hval : ∀ (j : Nat) t v, Try.f5.params[j]? = some t → args[j]? = some v → Value.okWide Try.prog W .any base t v := hval0
  have hW' := hW
  obtain ⟨p, q, hA0, hV, hpq, hfz, hnd⟩ := hW
  have hA : DataW.TrodAll enc Try.prog W 0 (fun _ => true) true Try.f5.params.toList args.toList ds p := hA0
  rw [Try.params5] at hA hval
  obtain ⟨v0, vs0, d0, ds0, p0, q0, hargs, rfl, rfl, h0, r0⟩ := trodAll_cons hA
  obtain ⟨rfl, rfl, rfl⟩ := trodAll_nil r0
  obtain rfl : args = #[v0] := by cases args; simp_all
  have k0 := hval 0 24 v0 rfl rfl
  clear hA0 hval0 hval hcnd hfz hnd hpq hV hargs r0
  suffices hs : Calls Try.prog 5 #[v0] W (Gives (.bool true) W) from hs.mono fun e W' ⟨he, x, hx⟩ => ⟨_, he, law_post statTotals_laidOut hW' rfl rfl (by kernel_rfl) (by first | exact Try.underlying4 | rfl) statTotals_types (hx ▸ W.below_past x)⟩
  clear hW'
  obtain ⟨A, ca, l, rfl, ha, hK, hl, _⟩ := rd_tabC (f := tyV) (c := 7) (K := fun x => U64 x.wt) tyV_length (by omega) (rd_slice Try.underlying24 k0 h0) Try.underlying24 c_tally rd_ty
  exact StatTotals_any A ca _ l rfl hl hK W ha
theorem statTotals_holds : Rows.StatTotalsSaid :=
  OpenClaim.holds_of_wide 5 Try.f5 rfl rfl rfl rfl rfl rfl rfl ⟨rfl, rfl, rfl, rfl, rfl⟩ rfl rfl rfl rfl rfl (by kernel_rfl) Try.func5 (by kernel_rfl)
    (of_decide_eq_true (by kernel_rfl)) (by unfold Func.isWrapper; first | (rw [if_pos (by decide +kernel)]; kernel_rfl) | (rw [if_neg (by decide +kernel)]; exact ⟨rfl, rfl⟩))
    (fun os started H enc _ => statTotals_lifted os started H enc)
end Go.Proofs.Ytdeejiiegmddaaa
