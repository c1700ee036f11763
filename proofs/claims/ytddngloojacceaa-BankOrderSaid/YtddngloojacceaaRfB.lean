/-
  Layer 44, the document's: may a bank be? No condition but that rows are not long.
-/
import Derived.Test.YtddngloojacceaaRfA
namespace Go.Proofs.Ytddngloojacceaa
open Go Go.RowKit
attribute [local go_sem] Oper.semAt_some
set_option maxRecDepth 100000 in
set_option maxHeartbeats 4000000 in
theorem RMay_any (x : Bk) (hF : x.F.2.2.length ≤ 1000000) (hr : ∀ i, (hasR x i).length ≤ 1000000 ∧ (mostR x i).length ≤ 1000000) (w : World) (hx : x.In w) :
    Calls Try.prog 9 #[.agg x.cs] w (Gives (.bool (mayB x)) w) := by
  obtain ⟨w1, ew1⟩ : ∃ w1, w1 = w.alloc (.cells x.cs 25) := ⟨_, rfl⟩
  have hb1 : Below w.heap.size w w1 := by rw [ew1]; exact (Below.refl _ w).alloc (Nat.le_refl _) _
  have hrec : Rec w1 w.heap.size 25 x.cs := by rw [ew1]; exact Rec.new w _ _
  have EW1 := hid ew1
  obtain ⟨k, ek⟩ : ∃ k, x.F.2.2.length = k := ⟨_, rfl⟩
  obtain ⟨nh, enh⟩ : ∃ n, x.H.length = n := ⟨_, rfl⟩
  obtain ⟨nm, enm⟩ : ∃ n, x.M.length = n := ⟨_, rfl⟩
  have r0 := Rec.cell hrec 0
  have r1 := Rec.cell hrec 1
  have r2 := Rec.cell hrec 2
  simp only [Bk.cs] at r0 r1 r2
  simp [ek, enh, enm] at r0 r1 r2
  have hX := hx.below hb1
  have HROW := hid (fun w' (h : Cells w' x.F.1 (i64s x.F.2.2)) => rrow_any x.F.1 x.F.2.1 k x.F.2.2 ek (by omega) (k : Int) w' h)
  have hmay : mayB x = (decide (1 ≤ k ∧ k ≤ 4 ∧ nh ≤ 8 ∧ nh = nm) && rowF x.F.2.2 k && (List.range nh).all (mayI x)) := by unfold mayB; rw [ek, enh, enm]
  have HMAY := hid hmay
  have HX := hid hX
  have HB1 := hid hb1
  have hcs : x.cs = #[.slice x.F.1 k x.F.2.1, .slice x.AH nh x.cH, .slice x.AM nm x.cM] := by unfold Bk.cs; rw [ek, enh, enm]
  rw [hcs] at EW1 ⊢
  clear ew1 hb1 hrec hx hX hmay hcs
  have HN := hid (show ¬ (1 ≤ k ∧ k ≤ 4 ∧ nh ≤ 8 ∧ nh = nm) → mayB x = false from fun h => by rw [HMAY.out, decide_eq_false h]; rfl)
  have hcs : k = 0 ∨ (1 ≤ k ∧ 4 < k) ∨ (1 ≤ k ∧ k ≤ 4 ∧ 8 < nh) ∨ (1 ≤ k ∧ k ≤ 4 ∧ nh ≤ 8 ∧ nh ≠ nm) ∨ (1 ≤ k ∧ k ≤ 4 ∧ nh ≤ 8 ∧ nh = nm) := by omega
  rcases hcs with rfl | ⟨h1, h2⟩ | ⟨h1, h2, h3⟩ | ⟨h1, h2, h3, h4⟩ | ⟨h1, h2, h3, rfl⟩
  · have HF := hid (HN.out (by omega))
    go_enter Try.func9, Try.ntmps9
    go_upto_region 1 with (fail)
    rw [← EW1.out]
    go_wp2_with (fail)
    go_ret
    exact Gives.mk (by rw [HF.out]; rfl) HB1.out
  · have HF := hid (HN.out (by omega))
    have d1 : ¬ k < 1 := by omega
    go_enter Try.func9, Try.ntmps9
    go_upto_region 1 with (fail)
    rw [← EW1.out]
    go_wp2_with (fail)
    go_ret
    exact Gives.mk (by rw [HF.out]; rfl) HB1.out
  · have HF := hid (HN.out (by omega))
    have d1 : ¬ k < 1 := by omega
    have d2 : ¬ 4 < k := by omega
    go_enter Try.func9, Try.ntmps9
    go_upto_region 1 with (fail)
    rw [← EW1.out]
    go_wp2_with (fail)
    go_ret
    exact Gives.mk (by rw [HF.out]; rfl) HB1.out
  · have HF := hid (HN.out (by omega))
    have d1 : ¬ k < 1 := by omega
    have d2 : ¬ 4 < k := by omega
    have d3 : ¬ 8 < nh := by omega
    have d4 : ((nh : Int) == nm) = false := by simp; omega
    have d4' : (nh == nm) = false := by simp; omega
    go_enter Try.func9, Try.ntmps9
    go_upto_region 1 with (fail)
    rw [← EW1.out]
    go_wp2_with (fail)
    go_ret
    exact Gives.mk (by rw [HF.out]; rfl) HB1.out
  · have d1 : ¬ k < 1 := by omega
    have d2 : ¬ 4 < k := by omega
    have d3 : ¬ 8 < nh := by omega
    have hm2 : mayB x = (rowF x.F.2.2 k && (List.range nh).all (mayI x)) := by rw [HMAY.out, decide_eq_true (show 1 ≤ k ∧ k ≤ 4 ∧ nh ≤ 8 ∧ nh = nh from ⟨h1, h2, h3, rfl⟩)]; rfl
    have HM2 := hid hm2
    have hH := HX.out.h
    have hM := HX.out.m
    obtain ⟨AH, eAH⟩ : ∃ z, x.AH = z := ⟨_, rfl⟩
    obtain ⟨AM, eAM⟩ : ∃ z, x.AM = z := ⟨_, rfl⟩
    rw [eAH] at hH r1 EW1 ⊢
    rw [eAM] at hM r2 EW1 ⊢
    have HH := hid hH
    have HMM := hid hM
    have ENH := hid enh
    have ENM := hid enm
    have hmi : ∀ i, mayI x i = (rowF (hasR x i) k && rowF (mostR x i) k && withK (hasR x i) (mostR x i) (hasR x i).length) := fun i => by unfold mayI; rw [ek]
    have HMI := hid hmi
    have HR2 := hid hr
    obtain ⟨r, er⟩ : ∃ r, rowF x.F.2.2 k = r := ⟨_, rfl⟩
    have HRW := hid (er ▸ HROW.out w1 HX.out.f)
    rw [er] at HM2
    clear hH hM eAH eAM enh enm hmi hm2 er HROW HMAY HN hr hF ek
    cases r with
    | false =>
      have HF := hid (show mayB x = false by rw [HM2.out]; rfl)
      go_enter Try.func9, Try.ntmps9
      go_upto_region 1 with (fail)
      rw [← EW1.out]
      go_wp2_with (go_at_call 21; refine HRW.out.mono ?_; rintro _ _ ⟨rfl, x1, rfl⟩)
      go_ret
      refine Gives.mk (by rw [HF.out]; rfl) (HB1.out.trans ((w1.below_past x1).mono HB1.out.size))
    | true =>
      have HM3 := hid (show mayB x = (List.range nh).all (mayI x) by rw [HM2.out]; rfl)
      go_enter Try.func9, Try.ntmps9
      go_upto_region 1 with (fail)
      rw [← EW1.out]
      go_upto_region 5 with (go_at_call 21; refine HRW.out.mono ?_; rintro _ _ ⟨rfl, x1, rfl⟩)
      go_loopw [4, 5] (fun i _ wr => ∃ (j : Nat) (z : Past), i = .int .i64 j ∧ j ≤ nh ∧ wr = w1.past z ∧ Hid (∀ q, q < j → mayI x q = true)) (fun i _ _ => nh - (intOf i).toNat)
      case atStart => exact ⟨0, x1, rfl, by omega, rfl, hid (fun q h => by omega)⟩
      case round =>
        obtain ⟨j, z, rfl, hj, rfl, HJ⟩ := hrel
        by_cases hlt : j < nh
        · obtain ⟨bh, oh, Rh, ch, rfl, q1, k1⟩ := HH.out.at (i := j) (by rw [ENH.out]; exact hlt)
          obtain ⟨bm, om, Rm, cm, rfl, q2, k2⟩ := HMM.out.at (i := j) (by rw [ENM.out]; exact hlt)
          have hl := HR2.out j
          have hmi := HMI.out j
          change w1.cell? _ = some (.slice Rh (hasR x j).length ch) at q1
          change Cells w1 Rh (i64s (hasR x j)) at k1
          change w1.cell? _ = some (.slice Rm (mostR x j).length cm) at q2
          change Cells w1 Rm (i64s (mostR x j)) at k2
          obtain ⟨a, ea⟩ : ∃ a, hasR x j = a := ⟨_, rfl⟩
          obtain ⟨b, eb⟩ : ∃ b, mostR x j = b := ⟨_, rfl⟩
          rw [ea] at q1 k1 hl hmi
          rw [eb] at q2 k2 hl hmi
          have hA := fun y : Past => rrow_any Rh ch a.length a rfl hl.1 (k : Int) (w1.past y) (k1.past y)
          have hB := fun y : Past => rrow_any Rm cm b.length b rfl hl.2 (k : Int) (w1.past y) (k2.past y)
          have hlen : rowF a k = true → rowF b k = true → a.length ≤ b.length := fun u v => by
            unfold rowF at u v
            simp at u v
            omega
          have hW := fun (h : a.length ≤ b.length) (y : Past) => within_any Rh Rm ch cm a.length b.length a b rfl rfl h hl.1 (w1.past y) (k1.past y) (k2.past y)
          obtain ⟨na, ena⟩ : ∃ n, a.length = n := ⟨_, rfl⟩
          obtain ⟨nb, enb⟩ : ∃ n, b.length = n := ⟨_, rfl⟩
          rw [ena] at q1 hA hW hmi hlen
          rw [enb] at q2 hB hW hlen
          obtain ⟨ra, era⟩ : ∃ r, rowF a k = r := ⟨_, rfl⟩
          obtain ⟨rb, erb⟩ : ∃ r, rowF b k = r := ⟨_, rfl⟩
          obtain ⟨rw', erw⟩ : ∃ r, withK a b na = r := ⟨_, rfl⟩
          rw [era] at hA hlen hmi
          rw [erb] at hB hlen hmi
          rw [erw] at hW hmi
          have HA := hid hA
          have HB := hid hB
          have HWI := hid hW
          have HLE := hid hlen
          have HMJ := hid hmi
          have hbad : mayI x j = false → mayB x = false := fun h => by
            rw [HM3.out, List.all_eq_false]
            exact ⟨j, by simpa using hlt, by rw [h]; simp⟩
          have HBAD := hid hbad
          have K1 := hid k1
          have K2 := hid k2
          have ENA := hid ena
          have ENB := hid enb
          have EAB := hid (And.intro ea eb)
          have ERW := hid erw
          have ERA := hid era
          have ERB := hid erb
          clear hl hmi k1 k2 ea eb hA hB hlen hW ena enb era erb erw hbad
          have HLT : Hid (na ≤ nb ∨ ra = false ∨ rb = false) := hid (by
            cases ra with
            | false => exact .inr (.inl rfl)
            | true =>
              cases rb with
              | false => exact .inr (.inr rfl)
              | true => exact .inl (HLE.out rfl rfl))
          clear HLE
          obtain ⟨rr, err⟩ : ∃ r, (ra && rb && rw') = r := ⟨_, rfl⟩
          have HMK : Hid (mayI x j = rr) := hid (by rw [HMJ.out, err])
          clear HMJ
          cases ra with
          | false =>
            cases err
            have HF := hid (HBAD.out HMK.out)
            go_wp2_with (go_at_call 21; (with_reducible refine (HA.out _).mono ?_); rintro _ _ ⟨rfl, _, rfl⟩)
            go_ret
            refine Gives.mk (by rw [HF.out]; rfl) (by repeat (first | exact HB1.out | refine RowKit.Below.past ?_ _))
          | true =>
            cases rb with
            | false =>
              cases err
              have HF := hid (HBAD.out HMK.out)
              go_wp2_with (go_at_call 21; first | ((with_reducible refine (HA.out _).mono ?_); rintro _ _ ⟨rfl, _, rfl⟩) | ((with_reducible refine (HB.out _).mono ?_); rintro _ _ ⟨rfl, _, rfl⟩))
              go_ret
              refine Gives.mk (by rw [HF.out]; rfl) (by repeat (first | exact HB1.out | refine RowKit.Below.past ?_ _))
            | true =>
              obtain rfl : na = k := by have := (rowF_iff.1 ERA.out).1; rw [ENA.out] at this; exact this
              obtain rfl : nb = na := by have := (rowF_iff.1 ERB.out).1; rw [ENB.out] at this; exact this
              clear HWI HLT
              go_upto_region 9 with (go_at_call 21; first | ((with_reducible refine (HA.out _).mono ?_); rintro _ _ ⟨rfl, _, rfl⟩) | ((with_reducible refine (HB.out _).mono ?_); rintro _ _ ⟨rfl, _, rfl⟩))
              go_wp2_with fail
              go_loopw [5] (fun p wr => ∃ (q : Nat) (y : Past), p = .int .i64 q ∧ q ≤ nb ∧ wr = w1.past y ∧ Hid (∀ t, t < q → atL a t ≤ atL b t)) (fun p _ => nb - (intOf p).toNat)
              case atStart => exact ⟨0, _, rfl, by omega, by first | rfl | trivial, hid (fun t h => by omega)⟩
              case round =>
                obtain ⟨q, y, rfl, hq, rfl, HQ⟩ := hrel
                by_cases hlq : q < nb
                · obtain ⟨b1, o1, rfl, hc1⟩ := i64_at K1.out (k := q) (by rw [ENA.out]; exact hlq)
                  obtain ⟨b2, o2, rfl, hc2⟩ := i64_at K2.out (k := q) (by rw [ENB.out]; exact hlq)
                  obtain ⟨u, eu⟩ : ∃ u, atL a q = u := ⟨_, rfl⟩
                  obtain ⟨v, ev⟩ : ∃ v, atL b q = v := ⟨_, rfl⟩
                  rw [eu] at hc1
                  rw [ev] at hc2
                  have EUV := hid (And.intro eu ev)
                  clear eu ev
                  by_cases hv : v < u
                  · have HF : Hid (mayB x = false) := hid (HBAD.out (by
                      rw [HMK.out, ← err]
                      cases hrw : rw' with
                      | false => rfl
                      | true => have := withK_iff.1 (ERW.out.trans hrw) q hlq; rw [EUV.out.1, EUV.out.2] at this; omega))
                    clear err
                    go_wp2_with fail
                    refine wp_region_past (by kernel_rfl) (by kernel_rfl) ?_
                    repeat (go_big_quiet_step ((first | (go_at_call 16; first | with_reducible exact Calls.in_past (True) | with_reducible exact Calls.in_past2 (True)) | (go_at_call 16; first | exact Calls.in_past (True) | exact Calls.in_past2 (True)))))
                    refine wpQuiet_nil ?_
                    rintro _ ⟨_, rfl⟩
                    go_wp2_with fail
                    go_ret
                    refine Gives.mk (by rw [HF.out]; rfl) (by repeat (first | exact HB1.out | refine RowKit.Below.past ?_ _))
                  · clear err
                    go_wp2_with fail
                    refine wp_region_past (by kernel_rfl) (by kernel_rfl) ?_
                    repeat (go_big_quiet_step ((first | (go_at_call 16; first | with_reducible exact Calls.in_past (True) | with_reducible exact Calls.in_past2 (True)) | (go_at_call 16; first | exact Calls.in_past (True) | exact Calls.in_past2 (True)))))
                    refine wpQuiet_nil ?_
                    rintro _ ⟨_, rfl⟩
                    go_wp2_with fail
                    go_roundw
                    case rel => exact ⟨q + 1, _, by go_num, by omega, by first | rfl | trivial, hid (fun t ht => by
                      by_cases e : t = q
                      · subst e; rw [EUV.out.1, EUV.out.2]; omega
                      · exact HQ.out t (by omega))⟩
                    case measure => simp [intOf]; omega
                · obtain rfl : q = nb := by omega
                  have HT : Hid (mayI x j = true) := hid (by rw [HMK.out, ← err, ← ERW.out, withK_iff.2 HQ.out]; rfl)
                  clear err
                  go_wp2_with fail
                  go_roundw
                  case rel => exact ⟨j + 1, _, by go_num, by omega, by first | rfl | trivial, hid (fun t ht => by
                    by_cases e : t = j
                    · subst e; exact HT.out
                    · exact HJ.out t (by omega))⟩
                  case measure => simp [intOf]; omega
        · obtain rfl : j = nh := by omega
          have HF := hid (show mayB x = true by rw [HM3.out, List.all_eq_true]; intro q hq; exact HJ.out q (by simpa using hq))
          go_wp2_with fail
          go_ret
          refine Gives.mk (by rw [HF.out]; rfl) (by repeat (first | exact HB1.out | refine RowKit.Below.past ?_ _))
end Go.Proofs.Ytddngloojacceaa
