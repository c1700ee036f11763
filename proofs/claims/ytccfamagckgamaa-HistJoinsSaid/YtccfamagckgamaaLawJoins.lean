/-
  Layer 34's HistJoins: what came to two comes to the one that the other is joined to, and to no other; joined to itself it comes twice. No condition.
-/
import Derived.Test.YtccfamagckgamaaHisN
import Derived.Test.YtccfamagckgamaaLawRuns
namespace Go.Proofs.Ytccfamagckgamaa
open Go.RowKit Go.Shelf Go.ChangeShapes Go.WideShapes Go.ChangeAt
attribute [local go_sem] Oper.semAt_some
def joinK (P Q : List Cm) : Nat → List Cm
  | 0 => P
  | k + 1 => addL (joinK P Q k) (cm Q k)
theorem cnt_take {Q : List Cm} (h : OkL Q) (k : Nat) : cntF (Q.take k) ≤ cntF Q := by
  have h1 : ∀ x ∈ Q.drop k, U64 x.1 ∧ 1 ≤ x.2 := fun x hx => h.each x (List.mem_of_mem_drop hx)
  have h2 := cnt_nonneg h1
  have h3 : cntF Q = cntF (Q.take k) + cntF (Q.drop k) := by rw [← cnt_append, List.take_append_drop]
  omega
theorem joinK_eq {P Q : List Cm} (hQ : OkL Q) (hf : cntF P + cntF Q ≤ 1099511627776) : ∀ k, k ≤ Q.length → joinK P Q k = P ++ Q.take k := by
  intro k
  induction k with
  | zero => intro _; simp [joinK]
  | succ k ih =>
    intro hk
    have h1 := take_one Q (k := k) (by omega)
    have h2 := cnt_take hQ (k + 1)
    have h3 := cm_in hQ (k := k) (by omega)
    have ok : addOk (P ++ Q.take k) (cm Q k) = true := by
      unfold addOk
      rw [cnt_append, decide_eq_true h3.2, decide_eq_true (by rw [h1, cnt_snoc] at h2; omega)]
      rfl
    rw [joinK, ih (by omega), addL, if_pos ok, h1, List.append_assoc]
theorem joinK_ok {P Q : List Cm} (hP : OkL P) (hQ : OkL Q) (k : Nat) (hk : k ≤ Q.length) : OkL (joinK P Q k) := by
  induction k with
  | zero => exact hP
  | succ k ih => exact okL_add (ih (by omega)) (cm_in hQ (k := k) (by omega)).1
set_option maxRecDepth 100000 in
set_option maxHeartbeats 1000000 in
theorem HistJoins_any (A B : Option Addr) (ca cb na nb : Nat) (a b : List Cm) (ea : a.length = na) (eb : b.length = nb) (hma : na ≤ maxLen) (hmb : nb ≤ maxLen) (ha : ∀ x ∈ a, U64 x.1 ∧ I64 x.2) (hb : ∀ x ∈ b, U64 x.1 ∧ I64 x.2) (n0 n1 : Int) (hn0 : I64 n0) (hn1 : I64 n1) (w : World) (hca : Cells w A (tab cmV a)) (hcb : Cells w B (tab cmV b)) :
    Calls Try.prog 5 #[.slice A na ca, .slice B nb cb, .agg #[.int .i64 n0, .int .i64 n1]] w (Gives (.bool true) w) := by
  obtain ⟨W, eW⟩ : ∃ W, W = (w.alloc (.cells #[.int .i64 n0, .int .i64 n1] 42)).alloc (.cells #[.bool false] 4) := ⟨_, rfl⟩
  have r5 : Rec W w.heap.size 42 #[.int .i64 n0, .int .i64 n1] := by rw [eW]; exact (Rec.new w _ _).alloc _
  have b6 : Boxed W (w.heap.size + 1) 4 (.bool false) := by
    have := Boxed.new (w.alloc (.cells #[.int .i64 n0, .int .i64 n1] 42)) 4 (.bool false)
    rw [World.size_alloc] at this
    rw [eW]; exact this
  have hBW : Below w.heap.size w W := by rw [eW]; exact ((Below.refl _ w).alloc (Nat.le_refl _) _).alloc (by simp) _
  have hsz : W.heap.size = w.heap.size + 2 := by rw [eW]; simp
  have EW := hid eW
  clear eW
  refine (callsIn_wide (n := 5)).1 ?_
  refine callsIn_of_wp_marks Try.func5 rfl trivial ?_ rfl
  simp only [Try.ntmps5, List.size_toArray, List.length_cons, List.length_nil, Nat.reduceAdd, Nat.reduceSub, Array.replicate_succ, Array.replicate_zero, List.push_toArray, List.append_toArray, List.nil_append, List.cons_append]
  gi_wp2_with fail
  rw [← EW.out]
  refine (callsIn_wide.2 (awake_any W)).mono ?_
  rintro _ Wa ⟨rfl, x0, eWa⟩
  have hWa : Below W.heap.size W Wa := by rw [eWa]; exact W.below_past x0
  have r5a : Rec Wa w.heap.size 42 #[.int .i64 n0, .int .i64 n1] := r5.below hWa (Nat.le_refl _)
  have b6a : Boxed Wa (w.heap.size + 1) 4 (.bool false) := (hWa.block _ (by omega)).trans b6
  have hBa := below_trans' hBW hWa
  have hsa : w.heap.size + 2 ≤ Wa.heap.size := by have := hWa.size; omega
  clear r5 b6 hBW hsz EW hWa eWa x0
  have q6 := b6a.cell
  have f6 := b6a.frozen
  by_cases h1 : 30 < na
  · clear ea eb ha hb hca hcb
    gi_wp2_with fail
    refine ⟨.bool true, ?_, Gives.mk rfl (hBa.setCell (p := ⟨w.heap.size + 1, 0, none⟩) (by simp) _)⟩
    simp [results, Try.results5, go_sem, q6]
  · by_cases h2 : 30 < nb
    · clear ea eb ha hb hca hcb
      gi_wp2_with fail
      refine ⟨.bool true, ?_, Gives.mk rfl (hBa.setCell (p := ⟨w.heap.size + 1, 0, none⟩) (by simp) _)⟩
      simp [results, Try.results5, go_sem, q6]
    · have EA := hid ea
      have EB := hid eb
      have HA := hid ha
      have HB := hid hb
      have CA := hid (fun W' (h : Below Wa.heap.size Wa W') => hca.below (below_trans' hBa h))
      have CB := hid (fun W' (h : Below Wa.heap.size Wa W') => hcb.below (below_trans' hBa h))
      clear ea eb ha hb hca hcb q6 f6
      gi_wp2_with fail
      refine (callsIn_wide.2 (New_ex Wa)).mono ?_
      rintro _ w1 ⟨bh, rfl, hbh, i1, hb1⟩
      gi_wp2_with fail
      refine (callsIn_wide.2 (New_ex w1)).mono ?_
      rintro _ w2 ⟨bk, rfl, hbk, i2, hb2⟩
      obtain ⟨w4, e4⟩ : ∃ w4, w4 = (w2.alloc (.cells #[.slice none 0 0] 39)).alloc (.cells #[.slice none 0 0] 39) := ⟨_, rfl⟩
      have hb12 := below_trans' hb1 hb2
      have hlt1 := Rec.lt i1
      have S0 := hid (show St Wa bh bk w2.heap.size (w2.heap.size + 1) (runL a 0) (runL b 0) (runL a 0) (runL b 0) w4 by
        have s1 := hb1.size
        have s2 := hb2.size
        have z1 := ref_new Wa.heap.size w2 (by omega)
        have z2 := ref_new Wa.heap.size (w2.alloc (.cells #[.slice none 0 0] 39)) (by simp; omega)
        rw [World.size_alloc] at z2
        rw [e4]
        refine ⟨Rec.alloc (Rec.alloc (Rec.below i1 hb2 (Nat.le_refl _)) _) _, Rec.alloc (Rec.alloc i2 _) _, ⟨.slice none 0 0, .slice none 0 0, ⟨by omega, ⟨none, 0, rfl⟩, Rec.alloc (Rec.new w2 _ _) _, rfl, .inl ⟨rfl, rfl⟩⟩, ⟨by omega, ⟨none, 0, rfl⟩, by have := Rec.new (w2.alloc (.cells #[.slice none 0 0] 39)) 39 #[.slice none 0 0]; rwa [World.size_alloc] at this, rfl, .inl ⟨rfl, rfl⟩⟩, .inl rfl⟩, (hb12.alloc (by omega) _).alloc (by simp; omega) _, by omega, by omega, by omega, by omega⟩)
      obtain ⟨bw, ebw⟩ : ∃ bw, w2.heap.size = bw := ⟨_, rfl⟩
      have E4 := hid e4
      clear i1 i2 hb1 hb2 hb12 e4 hlt1
      gi_wp2_with fail
      rw [← E4.out]
      rw [ebw] at S0
      try rw [ebw]
      obtain ⟨bv, ebv⟩ : ∃ bv, bw + 1 = bv := ⟨_, rfl⟩
      rw [ebv] at S0
      try rw [ebv]
      clear E4 ebw ebv hbh hbk
      gi_loopw [42] (fun i wr => ∃ (k : Nat), i = .int .i64 k ∧ k ≤ na ∧ Hid (St Wa bh bk bw bv (runL a k) (runL b 0) (runL a k) (runL b 0) wr)) (fun i _ => na - numOf i)
      case atStart => exact ⟨0, rfl, by omega, S0⟩
      case round =>
        obtain ⟨k, rfl, hk, S1⟩ := hrel
        clear S0
        by_cases hlt : k < na
        · obtain ⟨b1, o1, rfl, c0, c1⟩ := cm_at (CA.out _ S1.out.below) (show k < a.length by rw [EA.out]; exact hlt)
          have hx := cm_ok HA.out k
          have HRUN := hid (show runL a (k + 1) = addL (runL a k) (cm a k) from rfl)
          have hok := run_ok HA.out k
          have hlth := Rec.lt S1.out.hh
          generalize runL a k = L at S1 HRUN hok
          generalize cm a k = x at c0 c1 hx HRUN
          obtain ⟨xn, xt⟩ := x
          simp only at c0 c1 hx
          obtain ⟨W9, eW9⟩ : ∃ W9, W9 = wr.alloc (.cells #[.int .u64 xn, .int .i64 xt] 29) := ⟨_, rfl⟩
          have S9 := hid (S1.out.on (show Below wr.heap.size wr W9 by rw [eW9]; exact (Below.refl _ _).alloc (Nat.le_refl _) _))
          have hbx : Rec W9 wr.heap.size 29 #[.int .u64 xn, .int .i64 xt] := by rw [eW9]; exact Rec.new wr _ _
          have HBX := hid hbx
          have EW9 := hid eW9
          clear eW9 hbx
          gi_wp2_with fail
          rw [← EW9.out]
          refine (callsIn_wide.2 (st_add_h hok hx.1 hx.2 W9 S9.out)).mono ?_
          rintro _ w5 ⟨⟨bb, rfl⟩, S5, K5⟩
          have hb5 := HBX.out.kept K5 (by omega)
          have c50 : w5.cell? ⟨wr.heap.size, 0, none⟩ = some (.int .u64 xn) := by rw [Rec.cell hb5]; rfl
          have c51 : w5.cell? ⟨wr.heap.size, 1, none⟩ = some (.int .i64 xt) := by rw [Rec.cell hb5]; rfl
          have SS5 := hid S5
          clear S5 K5 hb5 c0 c1
          gi_wp2_with fail
          refine (callsIn_wide.2 (st_ref_w hok w5 SS5.out)).mono ?_
          rintro _ w6 ⟨⟨bb2, rfl⟩, S6, _⟩
          have SS6 := hid S6
          clear S6 c50 c51
          gi_wp2_with fail
          go_roundw
          case rel => exact ⟨k + 1, by go_num, by omega, by rw [HRUN.out]; exact SS6⟩
          case measure => simp [numOf]; omega
        · obtain rfl : k = na := by omega
          have S0 := S1
          clear S1
          gi_wp2_with fail
          gi_loopw [61] (fun i wr => ∃ (kk : Nat), i = .int .i64 kk ∧ kk ≤ nb ∧ Hid (St Wa bh bk bw bv (runL a k) (runL b kk) (runL a k) (runL b kk) wr)) (fun i _ => nb - numOf i)
          case atStart => exact ⟨0, rfl, by omega, S0⟩
          case round =>
            obtain ⟨j, rfl, hj, S1⟩ := hrel
            clear S0
            by_cases hlt2 : j < nb
            · obtain ⟨b1, o1, rfl, c0, c1⟩ := cm_at (CB.out _ S1.out.below) (show j < b.length by rw [EB.out]; exact hlt2)
              have hx := cm_ok HB.out j
              have HRUN := hid (show runL b (j + 1) = addL (runL b j) (cm b j) from rfl)
              have hok := run_ok HB.out j
              have hlth := Rec.lt S1.out.hk
              generalize runL b j = L at S1 HRUN hok
              generalize cm b j = x at c0 c1 hx HRUN
              obtain ⟨xn, xt⟩ := x
              simp only at c0 c1 hx
              obtain ⟨W9, eW9⟩ : ∃ W9, W9 = wr.alloc (.cells #[.int .u64 xn, .int .i64 xt] 29) := ⟨_, rfl⟩
              have S9 := hid (S1.out.on (show Below wr.heap.size wr W9 by rw [eW9]; exact (Below.refl _ _).alloc (Nat.le_refl _) _))
              have hbx : Rec W9 wr.heap.size 29 #[.int .u64 xn, .int .i64 xt] := by rw [eW9]; exact Rec.new wr _ _
              have HBX := hid hbx
              have EW9 := hid eW9
              clear eW9 hbx
              gi_wp2_with fail
              rw [← EW9.out]
              refine (callsIn_wide.2 (st_add_k hok hx.1 hx.2 W9 S9.out)).mono ?_
              rintro _ w5 ⟨⟨bb, rfl⟩, S5, K5⟩
              have hb5 := HBX.out.kept K5 (by omega)
              have c50 : w5.cell? ⟨wr.heap.size, 0, none⟩ = some (.int .u64 xn) := by rw [Rec.cell hb5]; rfl
              have c51 : w5.cell? ⟨wr.heap.size, 1, none⟩ = some (.int .i64 xt) := by rw [Rec.cell hb5]; rfl
              have SS5 := hid S5
              clear S5 K5 hb5 c0 c1
              gi_wp2_with fail
              refine (callsIn_wide.2 (st_ref_v hok w5 SS5.out)).mono ?_
              rintro _ w6 ⟨⟨bb2, rfl⟩, S6⟩
              have SS6 := hid S6
              clear S6 c50 c51
              gi_wp2_with fail
              go_roundw
              case rel => exact ⟨j + 1, by go_num, by omega, by rw [HRUN.out]; exact SS6⟩
              case measure => simp [numOf]; omega
            · obtain rfl : j = nb := by omega
              have okL := run_ok HA.out k
              have okM := run_ok HB.out j
              generalize runL a k = L at S1 okL
              generalize runL b j = M at S1 okM
              gi_wp2_with fail
              have C1 := hid (RCount_any bw L okL wr S1.out.refw)
              have c0 := cnt_nonneg okL.each
              have c1 := okL.most
              have m0 := cnt_nonneg okM.each
              have m1 := okM.most
              have e3 : IntKind.i64.wrap (cntF L + cntF M) = cntF L + cntF M := by rw [IntKind.wrap_i64]; omega
              refine (callsIn_wide.2 C1.out).mono ?_
              rintro _ _ ⟨rfl, x1, rfl⟩
              gi_wp2_with fail
              refine (callsIn_wide.2 (RCount_any bv M okM _ (S1.out.past x1).refv)).mono ?_
              rintro _ _ ⟨rfl, x2, rfl⟩
              by_cases hF : cntF L + cntF M ≤ 1099511627776
              · have g : decide (1099511627776 < cntF L + cntF M) = false := by rw [decide_eq_false_iff_not]; omega
                gi_wp2_with fail
                refine (callsIn_wide.2 (st_join okL okM _ (S1.out.past _))).mono ?_
                rintro _ w20 ⟨e20, S20⟩
                rw [decide_eq_true hF] at e20
                rw [if_pos hF] at S20
                subst e20
                have S20 := hid S20
                obtain ⟨nm, enm⟩ : ∃ nm, M.length = nm := ⟨_, rfl⟩
                obtain ⟨A2, c2, q2, _⟩ := S20.out.refv
                rw [enm] at q2
                have ENM := hid enm
                have HF := hid hF
                have Q2 := hid q2
                have hnb : (nm : Int) ≤ 1099511627776 := by omega
                clear enm hF c0 c1 m0 m1
                gi_wp2_with fail
                clear q2
                gi_loopw [96] (fun i wr => ∃ (kk : Nat), i = .int .i64 kk ∧ kk ≤ nm ∧ Hid (St Wa bh bk bw bv (L ++ M) M (joinK L M kk) M wr) ∧ Hid (wr.cell? ⟨bv, 0, none⟩ = some (.slice A2 nm c2))) (fun i _ => nm - numOf i)
                case atStart => exact ⟨0, rfl, by omega, S20, Q2⟩
                case round =>
                  obtain ⟨kk, rfl, hkk, S3, QQ⟩ := hrel
                  clear S20 Q2
                  obtain ⟨A3, c3, q3, hc3⟩ := S3.out.refv
                  rw [QQ.out] at q3
                  injection q3 with q3
                  injection q3 with hA3 hA4 hA5
                  clear hA4 hA5
                  subst hA3
                  by_cases hlt3 : kk < nm
                  · obtain ⟨b1, o1, rfl, k0, k1⟩ := cm_at hc3 (show kk < M.length by rw [ENM.out]; exact hlt3)
                    have HJK := hid (show joinK L M (kk + 1) = addL (joinK L M kk) (cm M kk) from rfl)
                    have okJ := joinK_ok okL okM kk (by rw [ENM.out]; exact hkk)
                    generalize joinK L M kk = J at S3 HJK okJ
                    generalize cm M kk = x at k0 k1 HJK
                    obtain ⟨xn, xt⟩ := x
                    simp only at k0 k1
                    obtain ⟨W9, eW9⟩ : ∃ W9, W9 = wr.alloc (.cells #[.int .u64 xn, .int .i64 xt] 45) := ⟨_, rfl⟩
                    have S9 := hid (S3.out.on (show Below wr.heap.size wr W9 by rw [eW9]; exact (Below.refl _ _).alloc (Nat.le_refl _) _))
                    have hq9 : W9.cell? ⟨bv, 0, none⟩ = some (.slice (some ⟨b1, o1, none⟩) nm c2) := by rw [eW9]; exact below_cell ((Below.refl _ wr).alloc (Nat.le_refl _) _) (Nat.le_refl _) _ _ QQ.out
                    have HQ9 := hid hq9
                    have EW9 := hid eW9
                    clear eW9 hc3 hq9
                    gi_wp2_with fail
                    rw [← EW9.out]
                    refine (callsIn_wide.2 (st_ref_w okJ W9 S9.out)).mono ?_
                    rintro _ w6 ⟨⟨bb2, rfl⟩, S6, q6⟩
                    have SS6 := hid S6
                    have QQ6 := hid (q6.trans HQ9.out)
                    clear S6 q6 k0 k1
                    gi_wp2_with fail
                    go_roundw
                    case rel => exact ⟨kk + 1, by go_num, by omega, by rw [HJK.out]; exact SS6, QQ6⟩
                    case measure => simp [numOf]; omega
                  · obtain rfl : kk = nm := by omega
                    have hJE := joinK_eq (P := L) okM HF.out kk (by rw [ENM.out]; exact Nat.le_refl _)
                    rw [List.take_of_length_le (by rw [ENM.out]; exact Nat.le_refl _)] at hJE
                    rw [hJE] at S3
                    have okLM := ok_append okL okM HF.out
                    clear hJE hc3 QQ
                    have q50 : wr.cell? ⟨w.heap.size, 0, none⟩ = some (.int .i64 n0) := by rw [Rec.cell (r5a.below S3.out.below (Nat.le_refl _))]; rfl
                    have q51 : wr.cell? ⟨w.heap.size, 1, none⟩ = some (.int .i64 n1) := by rw [Rec.cell (r5a.below S3.out.below (Nat.le_refl _))]; rfl
                    gi_wp2_with fail
                    refine (callsIn_wide.2 (same_any bh bw (L ++ M) okLM n0 n1 hn0 hn1 wr S3.out.hh S3.out.refw)).mono ?_
                    rintro _ _ ⟨rfl, y1, rfl⟩
                    gi_wp2_with fail
                    refine (callsIn_wide.2 (same_any bk bv M okM n0 n1 hn0 hn1 _ (S3.out.past y1).hk (S3.out.past y1).refv)).mono ?_
                    rintro _ _ ⟨rfl, y2, rfl⟩
                    clear q50 q51
                    gi_wp2_with fail
                    refine (callsIn_wide.2 (RCount_any bv M okM _ (S3.out.past _).refv)).mono ?_
                    rintro _ _ ⟨rfl, y3, rfl⟩
                    have d0 := cnt_nonneg okM.each
                    have d1 := okM.most
                    have e5 : IntKind.i64.wrap (2 * cntF M) = 2 * cntF M := by rw [IntKind.wrap_i64]; omega
                    by_cases hT : cntF M + cntF M ≤ 1099511627776
                    · have g2 : decide (2 * cntF M ≤ 1099511627776) = true := by rw [decide_eq_true_eq]; omega
                      gi_wp2_with fail
                      refine (callsIn_wide.2 (st_join_self okM _ (S3.out.past _))).mono ?_
                      rintro _ w30 ⟨e30, S30⟩
                      rw [decide_eq_true hT] at e30
                      rw [if_pos hT] at S30
                      subst e30
                      have okMM := ok_append okM okM hT
                      have hcm : cntF (M ++ M) = 2 * cntF M := by rw [cnt_append]; omega
                      have S30 := hid S30
                      have C30 := hid (Count_any bk (M ++ M) w30 S30.out.hk)
                      rw [hcm] at C30
                      have E5 := hid e5
                      clear d0 d1 hT hcm
                      gi_wp2_with fail
                      refine (callsIn_wide.2 C30.out).mono ?_
                      rintro _ _ ⟨rfl, y4, rfl⟩
                      gi_wp2_with fail
                      refine (callsIn_wide.2 (RCount_any bv M okM _ (S30.out.past y4).refv)).mono ?_
                      rintro _ _ ⟨rfl, y5, rfl⟩
                      gi_wp2_with fail
                      refine (callsIn_wide.2 (Most_nil _)).mono ?_
                      rintro _ _ ⟨rfl, z1, rfl⟩
                      gi_wp2_with fail
                      refine (callsIn_wide.2 (Below_nil _)).mono ?_
                      rintro _ _ ⟨rfl, z2, rfl⟩
                      gi_wp2_with fail
                      refine (callsIn_wide.2 (Places_nilx _)).mono ?_
                      rintro _ w36 ⟨Bx, rfl, g1, g3⟩
                      have S36 := hid ((S30.out.past _).on g1)
                      clear g1 S30
                      gi_wp2_with fail
                      refine wpIn_rangeFunc_E (α := Empty) rfl (by omega) (gf := 28) (lb := #[.pointer (some ⟨Bx, 0, none⟩)]) rfl trivial (enters_of Try.func28 (by kernel_rfl) rfl) (places_nil (5 - 1) (by omega) w36 Bx g3) (fun _ h => h.elim) (KS.refl _ _) (fun x => x.elim)
                        (fun _ W => Below w36.heap.size w36 W) (fun _ _ _ => False) (fun _ _ _ h hb => h.trans hb) (fun _ _ _ _ h _ => h.elim) (Below.refl _ _) (fun x => x.elim) ?assign ?body ?done ?stop
                      case assign => intro lq x; exact x.elim
                      case body => intro lq pre x; exact x.elim
                      case stop => intro D c pre W hD hSp h; exact h.elim
                      case done =>
                        intro D xs W hD hS hBl hK
                        have SD := hid (S36.out.on hBl)
                        have hsD := SD.out.below.size
                        have b6W : Boxed W (w.heap.size + 1) 4 (.bool false) := (SD.out.below.block _ (by omega)).trans b6a
                        have hlt6 := b6W.lt
                        have q6 := b6W.cell
                        have f6 := b6W.frozen
                        have hDlt : D < W.heap.size := (Array.getElem?_eq_some_iff.1 hK).1
                        have hsS : (W.setCell ⟨w.heap.size + 1, 0, none⟩ (.bool true)).heap.size = W.heap.size := by simp [World.setCell]
                        have hRD : w.heap.size + 1 ≠ D := by have := S36.out.below.size; omega
                        have HKF := hid (fun xx => (by
                          rw [World.block_past (by rw [hsS]; exact hDlt)]
                          exact (Below.heap_setCell W ⟨w.heap.size + 1, 0, none⟩ _ D (by simp; omega)).trans hK : ((W.setCell ⟨w.heap.size + 1, 0, none⟩ (.bool true)).past xx).heap[D]? = some (.deferred (some []))))
                        have HBX := hid (fun xx => (World.putObj_heap_other hRD).trans ((World.block_past (by rw [hsS]; exact hlt6)).trans (b6W.set _)) : ∀ xx, Boxed (((W.setCell ⟨w.heap.size + 1, 0, none⟩ (.bool true)).past xx).putObj D (.deferred none)) (w.heap.size + 1) 4 (.bool true))
                        have hBW := below_trans' hBa SD.out.below
                        have HBB := hid (fun xx => below_putObj (RowKit.Below.past (RowKit.Below.setCell (p := ⟨w.heap.size + 1, 0, none⟩) hBW (by simp) (.bool true)) xx) (show w.heap.size ≤ D by have := S36.out.below.size; omega) (.deferred none))
                        clear hK hBl hS b6W hsS
                        gi_wp2_with (first | (gi_at_call 8; refine (callsIn_wide.2 (Add_nil _)).mono ?_; rintro _ _ ⟨rfl, _, rfl⟩) | (gi_at_call 16; first | ((with_reducible refine (callsIn_wide.2 (Join_nil bh _)).mono ?_); rintro _ _ ⟨rfl, _, rfl⟩) | ((with_reducible refine (callsIn_wide.2 (Join_nil2 bh _)).mono ?_); rintro _ _ ⟨rfl, _, rfl⟩)) | (gi_at_call 17; refine (callsIn_wide.2 (Count_nil _)).mono ?_; rintro _ _ ⟨rfl, _, rfl⟩) | (gi_at_call 19; refine (callsIn_wide.2 (Sum_nil _)).mono ?_; rintro _ _ ⟨rfl, _, rfl⟩) | (gi_at_call 20; refine (callsIn_wide.2 (At_nil _)).mono ?_; rintro _ _ ⟨rfl, _, rfl⟩))
                        have hcx := fun xx => Boxed.cell (HBX.out xx)
                        clear q6 f6
                        refine ⟨by simp, .inl ⟨_, _, rfl, run_takeDeferred (HKF.out _), ?_⟩⟩
                        exact ⟨.bool true, by simp [results, Try.results5, go_sem, hcx], Gives.mk rfl (HBB.out _)⟩
                    · have g2 : decide (2 * cntF M ≤ 1099511627776) = false := by rw [decide_eq_false_iff_not]; omega
                      gi_wp2_with fail
                      refine (callsIn_wide.2 (st_join_self okM _ (S3.out.past _))).mono ?_
                      rintro _ w30 ⟨e30, S30⟩
                      rw [decide_eq_false (by omega)] at e30
                      rw [if_neg (by omega)] at S30
                      subst e30
                      have S30 := hid S30
                      clear d0 d1 hT
                      gi_wp2_with fail
                      refine (callsIn_wide.2 (Most_nil _)).mono ?_
                      rintro _ _ ⟨rfl, z1, rfl⟩
                      gi_wp2_with fail
                      refine (callsIn_wide.2 (Below_nil _)).mono ?_
                      rintro _ _ ⟨rfl, z2, rfl⟩
                      gi_wp2_with fail
                      refine (callsIn_wide.2 (Places_nilx _)).mono ?_
                      rintro _ w36 ⟨Bx, rfl, g1, g3⟩
                      have S36 := hid ((S30.out.past _).on g1)
                      clear g1 S30
                      gi_wp2_with fail
                      refine wpIn_rangeFunc_E (α := Empty) rfl (by omega) (gf := 28) (lb := #[.pointer (some ⟨Bx, 0, none⟩)]) rfl trivial (enters_of Try.func28 (by kernel_rfl) rfl) (places_nil (5 - 1) (by omega) w36 Bx g3) (fun _ h => h.elim) (KS.refl _ _) (fun x => x.elim)
                        (fun _ W => Below w36.heap.size w36 W) (fun _ _ _ => False) (fun _ _ _ h hb => h.trans hb) (fun _ _ _ _ h _ => h.elim) (Below.refl _ _) (fun x => x.elim) ?assign ?body ?done ?stop
                      case assign => intro lq x; exact x.elim
                      case body => intro lq pre x; exact x.elim
                      case stop => intro D c pre W hD hSp h; exact h.elim
                      case done =>
                        intro D xs W hD hS hBl hK
                        have SD := hid (S36.out.on hBl)
                        have hsD := SD.out.below.size
                        have b6W : Boxed W (w.heap.size + 1) 4 (.bool false) := (SD.out.below.block _ (by omega)).trans b6a
                        have hlt6 := b6W.lt
                        have q6 := b6W.cell
                        have f6 := b6W.frozen
                        have hDlt : D < W.heap.size := (Array.getElem?_eq_some_iff.1 hK).1
                        have hsS : (W.setCell ⟨w.heap.size + 1, 0, none⟩ (.bool true)).heap.size = W.heap.size := by simp [World.setCell]
                        have hRD : w.heap.size + 1 ≠ D := by have := S36.out.below.size; omega
                        have HKF := hid (fun xx => (by
                          rw [World.block_past (by rw [hsS]; exact hDlt)]
                          exact (Below.heap_setCell W ⟨w.heap.size + 1, 0, none⟩ _ D (by simp; omega)).trans hK : ((W.setCell ⟨w.heap.size + 1, 0, none⟩ (.bool true)).past xx).heap[D]? = some (.deferred (some []))))
                        have HBX := hid (fun xx => (World.putObj_heap_other hRD).trans ((World.block_past (by rw [hsS]; exact hlt6)).trans (b6W.set _)) : ∀ xx, Boxed (((W.setCell ⟨w.heap.size + 1, 0, none⟩ (.bool true)).past xx).putObj D (.deferred none)) (w.heap.size + 1) 4 (.bool true))
                        have hBW := below_trans' hBa SD.out.below
                        have HBB := hid (fun xx => below_putObj (RowKit.Below.past (RowKit.Below.setCell (p := ⟨w.heap.size + 1, 0, none⟩) hBW (by simp) (.bool true)) xx) (show w.heap.size ≤ D by have := S36.out.below.size; omega) (.deferred none))
                        clear hK hBl hS b6W hsS
                        gi_wp2_with (first | (gi_at_call 8; refine (callsIn_wide.2 (Add_nil _)).mono ?_; rintro _ _ ⟨rfl, _, rfl⟩) | (gi_at_call 16; first | ((with_reducible refine (callsIn_wide.2 (Join_nil bh _)).mono ?_); rintro _ _ ⟨rfl, _, rfl⟩) | ((with_reducible refine (callsIn_wide.2 (Join_nil2 bh _)).mono ?_); rintro _ _ ⟨rfl, _, rfl⟩)) | (gi_at_call 17; refine (callsIn_wide.2 (Count_nil _)).mono ?_; rintro _ _ ⟨rfl, _, rfl⟩) | (gi_at_call 19; refine (callsIn_wide.2 (Sum_nil _)).mono ?_; rintro _ _ ⟨rfl, _, rfl⟩) | (gi_at_call 20; refine (callsIn_wide.2 (At_nil _)).mono ?_; rintro _ _ ⟨rfl, _, rfl⟩))
                        have hcx := fun xx => Boxed.cell (HBX.out xx)
                        clear q6 f6
                        refine ⟨by simp, .inl ⟨_, _, rfl, run_takeDeferred (HKF.out _), ?_⟩⟩
                        exact ⟨.bool true, by simp [results, Try.results5, go_sem, hcx], Gives.mk rfl (HBB.out _)⟩
              · have g : decide (1099511627776 < cntF L + cntF M) = true := by rw [decide_eq_true_eq]; omega
                gi_wp2_with fail
                refine (callsIn_wide.2 (st_join okL okM _ (S1.out.past _))).mono ?_
                rintro _ w20 ⟨e20, S20⟩
                rw [decide_eq_false (by omega)] at e20
                rw [if_neg (by omega)] at S20
                subst e20
                have S20 := hid S20
                obtain ⟨wr2, ewr2⟩ : ∃ wr2, wr2 = w20 := ⟨_, rfl⟩
                clear hF c0 c1 m0 m1
                have q50 : w20.cell? ⟨w.heap.size, 0, none⟩ = some (.int .i64 n0) := by rw [Rec.cell (r5a.below S20.out.below (Nat.le_refl _))]; rfl
                have q51 : w20.cell? ⟨w.heap.size, 1, none⟩ = some (.int .i64 n1) := by rw [Rec.cell (r5a.below S20.out.below (Nat.le_refl _))]; rfl
                gi_wp2_with fail
                refine (callsIn_wide.2 (same_any bh bw L okL n0 n1 hn0 hn1 w20 S20.out.hh S20.out.refw)).mono ?_
                rintro _ _ ⟨rfl, y1, rfl⟩
                gi_wp2_with fail
                refine (callsIn_wide.2 (same_any bk bv M okM n0 n1 hn0 hn1 _ (S20.out.past y1).hk (S20.out.past y1).refv)).mono ?_
                rintro _ _ ⟨rfl, y2, rfl⟩
                clear q50 q51
                gi_wp2_with fail
                refine (callsIn_wide.2 (RCount_any bv M okM _ (S20.out.past _).refv)).mono ?_
                rintro _ _ ⟨rfl, y3, rfl⟩
                have d0 := cnt_nonneg okM.each
                have d1 := okM.most
                have e5 : IntKind.i64.wrap (2 * cntF M) = 2 * cntF M := by rw [IntKind.wrap_i64]; omega
                by_cases hT : cntF M + cntF M ≤ 1099511627776
                · have g2 : decide (2 * cntF M ≤ 1099511627776) = true := by rw [decide_eq_true_eq]; omega
                  gi_wp2_with fail
                  refine (callsIn_wide.2 (st_join_self okM _ (S20.out.past _))).mono ?_
                  rintro _ w30 ⟨e30, S30⟩
                  rw [decide_eq_true hT] at e30
                  rw [if_pos hT] at S30
                  subst e30
                  have okMM := ok_append okM okM hT
                  have hcm : cntF (M ++ M) = 2 * cntF M := by rw [cnt_append]; omega
                  have S30 := hid S30
                  have C30 := hid (Count_any bk (M ++ M) w30 S30.out.hk)
                  rw [hcm] at C30
                  have E5 := hid e5
                  clear d0 d1 hT hcm
                  gi_wp2_with fail
                  refine (callsIn_wide.2 C30.out).mono ?_
                  rintro _ _ ⟨rfl, y4, rfl⟩
                  gi_wp2_with fail
                  refine (callsIn_wide.2 (RCount_any bv M okM _ (S30.out.past y4).refv)).mono ?_
                  rintro _ _ ⟨rfl, y5, rfl⟩
                  gi_wp2_with fail
                  refine (callsIn_wide.2 (Most_nil _)).mono ?_
                  rintro _ _ ⟨rfl, z1, rfl⟩
                  gi_wp2_with fail
                  refine (callsIn_wide.2 (Below_nil _)).mono ?_
                  rintro _ _ ⟨rfl, z2, rfl⟩
                  gi_wp2_with fail
                  refine (callsIn_wide.2 (Places_nilx _)).mono ?_
                  rintro _ w36 ⟨Bx, rfl, g1, g3⟩
                  have S36 := hid ((S30.out.past _).on g1)
                  clear g1 S30
                  gi_wp2_with fail
                  refine wpIn_rangeFunc_E (α := Empty) rfl (by omega) (gf := 28) (lb := #[.pointer (some ⟨Bx, 0, none⟩)]) rfl trivial (enters_of Try.func28 (by kernel_rfl) rfl) (places_nil (5 - 1) (by omega) w36 Bx g3) (fun _ h => h.elim) (KS.refl _ _) (fun x => x.elim)
                    (fun _ W => Below w36.heap.size w36 W) (fun _ _ _ => False) (fun _ _ _ h hb => h.trans hb) (fun _ _ _ _ h _ => h.elim) (Below.refl _ _) (fun x => x.elim) ?assign ?body ?done ?stop
                  case assign => intro lq x; exact x.elim
                  case body => intro lq pre x; exact x.elim
                  case stop => intro D c pre W hD hSp h; exact h.elim
                  case done =>
                    intro D xs W hD hS hBl hK
                    have SD := hid (S36.out.on hBl)
                    have hsD := SD.out.below.size
                    have b6W : Boxed W (w.heap.size + 1) 4 (.bool false) := (SD.out.below.block _ (by omega)).trans b6a
                    have hlt6 := b6W.lt
                    have q6 := b6W.cell
                    have f6 := b6W.frozen
                    have hDlt : D < W.heap.size := (Array.getElem?_eq_some_iff.1 hK).1
                    have hsS : (W.setCell ⟨w.heap.size + 1, 0, none⟩ (.bool true)).heap.size = W.heap.size := by simp [World.setCell]
                    have hRD : w.heap.size + 1 ≠ D := by have := S36.out.below.size; omega
                    have HKF := hid (fun xx => (by
                      rw [World.block_past (by rw [hsS]; exact hDlt)]
                      exact (Below.heap_setCell W ⟨w.heap.size + 1, 0, none⟩ _ D (by simp; omega)).trans hK : ((W.setCell ⟨w.heap.size + 1, 0, none⟩ (.bool true)).past xx).heap[D]? = some (.deferred (some []))))
                    have HBX := hid (fun xx => (World.putObj_heap_other hRD).trans ((World.block_past (by rw [hsS]; exact hlt6)).trans (b6W.set _)) : ∀ xx, Boxed (((W.setCell ⟨w.heap.size + 1, 0, none⟩ (.bool true)).past xx).putObj D (.deferred none)) (w.heap.size + 1) 4 (.bool true))
                    have hBW := below_trans' hBa SD.out.below
                    have HBB := hid (fun xx => below_putObj (RowKit.Below.past (RowKit.Below.setCell (p := ⟨w.heap.size + 1, 0, none⟩) hBW (by simp) (.bool true)) xx) (show w.heap.size ≤ D by have := S36.out.below.size; omega) (.deferred none))
                    clear hK hBl hS b6W hsS
                    gi_wp2_with (first | (gi_at_call 8; refine (callsIn_wide.2 (Add_nil _)).mono ?_; rintro _ _ ⟨rfl, _, rfl⟩) | (gi_at_call 16; first | ((with_reducible refine (callsIn_wide.2 (Join_nil bh _)).mono ?_); rintro _ _ ⟨rfl, _, rfl⟩) | ((with_reducible refine (callsIn_wide.2 (Join_nil2 bh _)).mono ?_); rintro _ _ ⟨rfl, _, rfl⟩)) | (gi_at_call 17; refine (callsIn_wide.2 (Count_nil _)).mono ?_; rintro _ _ ⟨rfl, _, rfl⟩) | (gi_at_call 19; refine (callsIn_wide.2 (Sum_nil _)).mono ?_; rintro _ _ ⟨rfl, _, rfl⟩) | (gi_at_call 20; refine (callsIn_wide.2 (At_nil _)).mono ?_; rintro _ _ ⟨rfl, _, rfl⟩))
                    have hcx := fun xx => Boxed.cell (HBX.out xx)
                    clear q6 f6
                    refine ⟨by simp, .inl ⟨_, _, rfl, run_takeDeferred (HKF.out _), ?_⟩⟩
                    exact ⟨.bool true, by simp [results, Try.results5, go_sem, hcx], Gives.mk rfl (HBB.out _)⟩
                · have g2 : decide (2 * cntF M ≤ 1099511627776) = false := by rw [decide_eq_false_iff_not]; omega
                  gi_wp2_with fail
                  refine (callsIn_wide.2 (st_join_self okM _ (S20.out.past _))).mono ?_
                  rintro _ w30 ⟨e30, S30⟩
                  rw [decide_eq_false (by omega)] at e30
                  rw [if_neg (by omega)] at S30
                  subst e30
                  have S30 := hid S30
                  clear d0 d1 hT
                  gi_wp2_with fail
                  refine (callsIn_wide.2 (Most_nil _)).mono ?_
                  rintro _ _ ⟨rfl, z1, rfl⟩
                  gi_wp2_with fail
                  refine (callsIn_wide.2 (Below_nil _)).mono ?_
                  rintro _ _ ⟨rfl, z2, rfl⟩
                  gi_wp2_with fail
                  refine (callsIn_wide.2 (Places_nilx _)).mono ?_
                  rintro _ w36 ⟨Bx, rfl, g1, g3⟩
                  have S36 := hid ((S30.out.past _).on g1)
                  clear g1 S30
                  gi_wp2_with fail
                  refine wpIn_rangeFunc_E (α := Empty) rfl (by omega) (gf := 28) (lb := #[.pointer (some ⟨Bx, 0, none⟩)]) rfl trivial (enters_of Try.func28 (by kernel_rfl) rfl) (places_nil (5 - 1) (by omega) w36 Bx g3) (fun _ h => h.elim) (KS.refl _ _) (fun x => x.elim)
                    (fun _ W => Below w36.heap.size w36 W) (fun _ _ _ => False) (fun _ _ _ h hb => h.trans hb) (fun _ _ _ _ h _ => h.elim) (Below.refl _ _) (fun x => x.elim) ?assign ?body ?done ?stop
                  case assign => intro lq x; exact x.elim
                  case body => intro lq pre x; exact x.elim
                  case stop => intro D c pre W hD hSp h; exact h.elim
                  case done =>
                    intro D xs W hD hS hBl hK
                    have SD := hid (S36.out.on hBl)
                    have hsD := SD.out.below.size
                    have b6W : Boxed W (w.heap.size + 1) 4 (.bool false) := (SD.out.below.block _ (by omega)).trans b6a
                    have hlt6 := b6W.lt
                    have q6 := b6W.cell
                    have f6 := b6W.frozen
                    have hDlt : D < W.heap.size := (Array.getElem?_eq_some_iff.1 hK).1
                    have hsS : (W.setCell ⟨w.heap.size + 1, 0, none⟩ (.bool true)).heap.size = W.heap.size := by simp [World.setCell]
                    have hRD : w.heap.size + 1 ≠ D := by have := S36.out.below.size; omega
                    have HKF := hid (fun xx => (by
                      rw [World.block_past (by rw [hsS]; exact hDlt)]
                      exact (Below.heap_setCell W ⟨w.heap.size + 1, 0, none⟩ _ D (by simp; omega)).trans hK : ((W.setCell ⟨w.heap.size + 1, 0, none⟩ (.bool true)).past xx).heap[D]? = some (.deferred (some []))))
                    have HBX := hid (fun xx => (World.putObj_heap_other hRD).trans ((World.block_past (by rw [hsS]; exact hlt6)).trans (b6W.set _)) : ∀ xx, Boxed (((W.setCell ⟨w.heap.size + 1, 0, none⟩ (.bool true)).past xx).putObj D (.deferred none)) (w.heap.size + 1) 4 (.bool true))
                    have hBW := below_trans' hBa SD.out.below
                    have HBB := hid (fun xx => below_putObj (RowKit.Below.past (RowKit.Below.setCell (p := ⟨w.heap.size + 1, 0, none⟩) hBW (by simp) (.bool true)) xx) (show w.heap.size ≤ D by have := S36.out.below.size; omega) (.deferred none))
                    clear hK hBl hS b6W hsS
                    gi_wp2_with (first | (gi_at_call 8; refine (callsIn_wide.2 (Add_nil _)).mono ?_; rintro _ _ ⟨rfl, _, rfl⟩) | (gi_at_call 16; first | ((with_reducible refine (callsIn_wide.2 (Join_nil bh _)).mono ?_); rintro _ _ ⟨rfl, _, rfl⟩) | ((with_reducible refine (callsIn_wide.2 (Join_nil2 bh _)).mono ?_); rintro _ _ ⟨rfl, _, rfl⟩)) | (gi_at_call 17; refine (callsIn_wide.2 (Count_nil _)).mono ?_; rintro _ _ ⟨rfl, _, rfl⟩) | (gi_at_call 19; refine (callsIn_wide.2 (Sum_nil _)).mono ?_; rintro _ _ ⟨rfl, _, rfl⟩) | (gi_at_call 20; refine (callsIn_wide.2 (At_nil _)).mono ?_; rintro _ _ ⟨rfl, _, rfl⟩))
                    have hcx := fun xx => Boxed.cell (HBX.out xx)
                    clear q6 f6
                    refine ⟨by simp, .inl ⟨_, _, rfl, run_takeDeferred (HKF.out _), ?_⟩⟩
                    exact ⟨.bool true, by simp [results, Try.results5, go_sem, hcx], Gives.mk rfl (HBB.out _)⟩
theorem c_two_3 : Try.prog.cellsOf 3 = 1 := by kernel_rfl
theorem c_two : Try.prog.cellsOf 42 = 2 := by kernel_rfl
theorem rd_two {H : Type} {enc : TypeId × Value → H} {W : World} {cs : Array Value} (h : Rd enc Try.prog W 42 cs.toList) : ∃ x0 x1 : Int, cs = #[.int .i64 x0, .int .i64 x1] ∧ I64 x0 ∧ I64 x1 := by
  obtain ⟨c0, c1, e⟩ := cs_two (h.len_array Try.underlying42 c_two)
  rw [e] at h
  obtain ⟨x0, e0, w0⟩ := Rd.int (h.elem Try.underlying42 0 (by decide) 1 c_two_3) Try.underlying3
  obtain ⟨x1, e1, w1⟩ := Rd.int (h.elem Try.underlying42 1 (by decide) 1 c_two_3) Try.underlying3
  simp at e0 e1
  subst e0 e1
  exact ⟨x0, x1, arr_of e, i64_of w0, i64_of w1⟩
theorem histJoins_own : ownKnob Try.prog.godebug = none := by kernel_rfl
theorem histJoins_laidOut : laidOutB Try.prog = true := by kernel_rfl
theorem histJoins_types : ∀ t ∈ Try.f5.params.toList, Try.prog.readableRec t = true ∧ t < Try.prog.types.size := by
  rw [Try.params5]
  intro t ht
  simp only [List.mem_cons, List.not_mem_nil, or_false] at ht
  rcases ht with rfl | rfl | rfl
  · exact ⟨by kernel_rfl, of_decide_eq_true (by kernel_rfl)⟩
  · exact ⟨by kernel_rfl, of_decide_eq_true (by kernel_rfl)⟩
  · exact ⟨by kernel_rfl, of_decide_eq_true (by kernel_rfl)⟩
set_option maxRecDepth 100000 in
theorem histJoins_lifted (os : Os) (started : os.Started) (H : Type) (enc : TypeId × Value → H) :
    ReturnsInHanded {} Try.checked os 5 .any (Rows.histJoinsSpec.pre6 enc Try.prog Try.f5 Rows.histJoinsRow.domain false) (Rows.histJoinsSpec.post enc Try.prog Try.f5 false true false false) := by
  refine returnsInHanded_of_change (C := Try.checked) histJoins_own started (by kernel_rfl) Try.func5
    (ChangeSpec.witness6 (enc := enc) (C := Try.checked) false ⟨#[], #[.slice none 0 0, .slice none 0 0, .agg #[.int .i64 0, .int .i64 0]], []⟩ 8 (by kernel_rfl) (by kernel_rfl) (by kernel_rfl) (by kernel_rfl)) ?_
  intro W base args ds gs before hval0 hW hcnd _
  have hval : ∀ (j : Nat) t v, Try.f5.params[j]? = some t → args[j]? = some v → Value.okWide Try.prog W .any base t v := hval0
  have hW' := hW
  obtain ⟨p, q, hA0, hV, hpq, hfz, hnd⟩ := hW
  have hA : DataW.TrodAll enc Try.prog W 0 (fun _ => true) true Try.f5.params.toList args.toList ds p := hA0
  rw [Try.params5] at hA hval
  obtain ⟨v0, vs0, d0, ds0, p0, q0, hargs, rfl, rfl, h0, r0⟩ := trodAll_cons hA
  obtain ⟨v1, vs1, d1, ds1, p1, q1, rfl, rfl, rfl, h1, r1⟩ := trodAll_cons r0
  obtain ⟨v2, vs2, d2, ds2, p2, q2, rfl, rfl, rfl, h2, r2⟩ := trodAll_cons r1
  obtain ⟨rfl, rfl, rfl⟩ := trodAll_nil r2
  obtain rfl : args = #[v0, v1, v2] := by cases args; simp_all
  have k0 := hval 0 22 v0 rfl rfl
  have k1 := hval 1 22 v1 rfl rfl
  have k2 := hval 2 42 v2 rfl rfl
  clear hA0 hval0 hval hcnd hfz hnd hpq hV hargs r2
  suffices hs : Calls Try.prog 5 #[v0, v1, v2] W (Gives (.bool true) W) from hs.mono fun e W' ⟨he, x, hx⟩ => ⟨_, he, law_post histJoins_laidOut hW' rfl rfl (by kernel_rfl) (by first | exact Try.underlying4 | rfl) histJoins_types (hx ▸ W.below_past x)⟩
  clear hW'
  obtain ⟨A, ca, a, rfl, hca, hKa, hla⟩ := rd_tab cmV_length (by omega) (rd_slice Try.underlying22 k0 h0) Try.underlying22 c_came rd_cm
  obtain ⟨B, cb, b, rfl, hcb, hKb, hlb⟩ := rd_tab cmV_length (by omega) (rd_slice Try.underlying22 k1 h1) Try.underlying22 c_came rd_cm
  obtain ⟨cs, rfl, hr⟩ := rd_agg (.inr ⟨_, _, Try.underlying42⟩) k2 h2
  obtain ⟨y0, y1, rfl, g0, g1⟩ := rd_two hr
  exact HistJoins_any A B ca cb _ _ a b rfl rfl hla hlb hKa hKb y0 y1 g0 g1 W hca hcb
theorem histJoins_holds : Rows.HistJoinsSaid :=
  OpenClaim.holds_of_wide 5 Try.f5 rfl rfl rfl rfl rfl rfl rfl ⟨rfl, rfl, rfl, rfl, rfl⟩ rfl rfl rfl rfl rfl (by kernel_rfl) Try.func5 (by kernel_rfl)
    (of_decide_eq_true (by kernel_rfl)) (by unfold Func.isWrapper; first | (rw [if_pos (by decide +kernel)]; kernel_rfl) | (rw [if_neg (by decide +kernel)]; exact ⟨rfl, rfl⟩))
    (fun os started H enc _ => histJoins_lifted os started H enc)
end Go.Proofs.Ytccfamagckgamaa
