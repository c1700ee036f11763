/-
  Layer 44: so much more is asked for, the document's. No condition but that rows are not long.
-/
import Derived.Test.YtddngloojacceaaRfG
namespace Go.Proofs.Ytddngloojacceaa
open Go Go.RowKit
set_option maxRecDepth 100000 in
set_option maxHeartbeats 4000000 in
theorem rAsk_any (x : Bk) (hs : x.Sm) (who : Int) (A : Option Addr) (ca m : Nat) (n : List Int) (em : n.length = m) (hm : m ≤ 1000000) (w : World) (hx : x.In w) (ha : Cells w A (i64s n)) :
    Calls Try.prog 14 #[.agg x.cs, .int .i64 who, .slice A m ca] w (BankP (askE x who n) (movedB x who.toNat n 1) w) := by
  obtain ⟨w1, ew1⟩ : ∃ w1, w1 = (w.alloc (.cells x.cs 25)).alloc (.cells #[.slice none 0 0, .slice none 0 0, .slice none 0 0] 25) := ⟨_, rfl⟩
  have hb1 : Below w.heap.size w w1 := by rw [ew1]; exact ((Below.refl _ w).alloc (Nat.le_refl _) _).alloc (by simp) _
  have hrec : Rec w1 w.heap.size 25 x.cs := by rw [ew1]; exact (Rec.new w _ _).alloc _
  have hres : Rec w1 (w.heap.size + 1) 25 #[.slice none 0 0, .slice none 0 0, .slice none 0 0] := by rw [ew1]; have := Rec.new (w.alloc (.cells x.cs 25)) 25 #[.slice none 0 0, .slice none 0 0, .slice none 0 0]; simpa using this
  have hX := hx.below hb1
  have hA := ha.below hb1
  have hcs : x.cs = #[.slice x.F.1 x.F.2.2.length x.F.2.1, .slice x.AH x.H.length x.cH, .slice x.AM x.M.length x.cM] := rfl
  obtain ⟨k, ek⟩ : ∃ k, x.F.2.2.length = k := ⟨_, rfl⟩
  obtain ⟨nh, enh⟩ : ∃ k, x.H.length = k := ⟨_, rfl⟩
  obtain ⟨nm, enm⟩ : ∃ k, x.M.length = k := ⟨_, rfl⟩
  rw [ek, enh, enm] at hcs
  have r0 := Rec.cell hrec 0
  have r1 := Rec.cell hrec 1
  have r2 := Rec.cell hrec 2
  rw [hcs] at ew1 r0 r1 r2 ⊢
  simp at r0 r1 r2
  obtain ⟨r, er⟩ : ∃ r, fitsF x who n = r := ⟨_, rfl⟩
  have HF := hid (er ▸ hcs ▸ rfits_any x hs who A ca m n em hm w1 hX hA)
  have EW1 := hid ew1
  have HB1 := hid hb1
  have HRES := hid hres
  have HX := hid hX
  have HXW := hid hx
  have HA := hid hA
  have EM := hid em
  have ER := hid er
  have HCS := hid hcs
  have EK := hid ek
  have ENH := hid enh
  have HSM := hid hs
  clear ew1 hb1 hrec hres hX hx hA ha em er hcs hs ek enh enm
  cases r with
  | false =>
    have HE : Hid (askE x who n = 1) := hid (by unfold askE; rw [if_pos ER.out])
    clear ER
    go_enter Try.func14, Try.ntmps14
    go_upto_region 1 with (fail)
    rw [← EW1.out]
    have z0 := Rec.cell HRES.out 0
    have z1 := Rec.cell HRES.out 1
    have z2 := Rec.cell HRES.out 2
    simp at z0 z1 z2
    have f0 := Rec.frozen HRES.out 0
    have f1 := Rec.frozen HRES.out 1
    have f2 := Rec.frozen HRES.out 2
    have hz := Rec.lt HRES.out
    go_wp2_with ((go_at_call 29; (with_reducible refine HF.out.mono ?_); rintro _ _ ⟨rfl, x1, rfl⟩))
    obtain ⟨s1, s2⟩ := stored3 HRES.out HB1.out (by omega) (.slice none 0 0) (.slice none 0 0) (.slice none 0 0)
    obtain ⟨W9, eW9⟩ : ∃ W9, W9 = ((w1.setCell ⟨w.heap.size + 1, 0, none⟩ (.slice none 0 0)).setCell ⟨w.heap.size + 1, 1, none⟩ (.slice none 0 0)).setCell ⟨w.heap.size + 1, 2, none⟩ (.slice none 0 0) := ⟨_, rfl⟩
    rw [← eW9] at s1 s2 ⊢
    clear eW9 z0 z1 z2 f0 f1 f2 hz
    have c0 := Rec.cell s1 0
    have c1 := Rec.cell s1 1
    have c2 := Rec.cell s1 2
    simp at c0 c1 c2
    refine bodyPost_ret (v := .tuple #[.agg #[.slice none 0 0, .slice none 0 0, .slice none 0 0], .int .i64 1]) (by simp [results, Try.results14, go_sem, c0, c1, c2]) rfl ?_
    rw [HE.out]
    exact BankP.nil (by decide) (RowKit.Below.past s2 _)
  | true =>
    obtain ⟨hmay, j, rfl, hj, hnl, hnp⟩ := fits_of ER.out
    have hok := Bk.Ok.of hmay
    rw [EK.out, ENH.out] at hok
    rw [ENH.out] at hj
    rw [EK.out, EM.out] at hnl
    subst hnl
    have hk4 := hok.k4
    have hk1 := hok.k1
    have h8 := hok.h8
    obtain rfl : nm = nh := by have := hok.em; have h2 := HCS.out; unfold Bk.cs at h2; simp at h2; omega
    have EJ := hid (show (j : Int).toNat = j from Int.toNat_natCast j)
    have OK := hid hok
    have HNP := hid hnp
    clear hok hmay hnp
    obtain ⟨bh, oh, Rh, c1, eAH, q1, k1⟩ := HX.out.h.at (i := j) (by rw [ENH.out]; exact hj)
    obtain ⟨bm, om, Rm, c2, eAM, q2, k2⟩ := HX.out.m.at (i := j) (by rw [OK.out.em]; exact hj)
    rw [show (rAt x.H j).2.2.length = m from OK.out.hl j hj] at q1
    rw [show (rAt x.M j).2.2.length = m from OK.out.ml j hj] at q2
    obtain ⟨AH, gAH⟩ : ∃ z, x.AH = z := ⟨_, rfl⟩
    obtain ⟨AM, gAM⟩ : ∃ z, x.AM = z := ⟨_, rfl⟩
    rw [gAH] at eAH
    rw [gAM] at eAM
    subst eAH
    subst eAM
    rw [gAH] at r1 EW1 HCS HF ⊢
    rw [gAM] at r2 EW1 HCS HF ⊢
    obtain ⟨AF, gAF⟩ : ∃ z, x.F.1 = z := ⟨_, rfl⟩
    have hfc := HX.out.f
    rw [gAF] at r0 EW1 HCS HF hfc ⊢
    have K1 := hid k1
    have K2 := hid k2
    have KF := hid hfc
    have EGA := hid (And.intro gAH gAM)
    clear k1 k2 hfc gAH gAM gAF
    have hml : (mostR x j).length = m := OK.out.ml j hj
    have HML := hid hml
    have HEE : Hid (askE x (j : Int) n = if withK n (plusF (mostR x j) (hasR x j) (-1)) m = false then 2 else if withK n x.F.2.2 m = false then 8 else if orderF (movedB x j n 1) = none then 9 else 0) := hid (by
      unfold askE
      rw [if_neg (by rw [ER.out]; decide), EJ.out, EM.out])
    rw [EJ.out]
    clear hml
    go_enter Try.func14, Try.ntmps14
    go_upto_region 1 with (fail)
    rw [← EW1.out]
    go_upto_region 3 with (go_at_call 29; (with_reducible refine HF.out.mono ?_); rintro _ _ ⟨rfl, x1, rfl⟩)
    go_wp2_with fail
    go_loopw [8] (fun i wr => ∃ (q : Nat) (y : Past), i = .int .i64 q ∧ q ≤ m ∧ wr = w1.past y ∧ Hid (∀ t, t < q → atL n t ≤ atL (plusF (mostR x j) (hasR x j) (-1)) t)) (fun i _ => m - (intOf i).toNat)
    case atStart => exact ⟨0, _, rfl, by omega, by first | rfl | trivial, hid (fun t h => by omega)⟩
    case round =>
      obtain ⟨q, y, rfl, hq, rfl, HJ⟩ := hrel
      by_cases hlt : q < m
      · obtain ⟨b1, o1, rfl, hc1⟩ := i64_at K1.out (k := q) (by rw [show (rAt x.H j).2.2.length = m from OK.out.hl j hj]; exact hlt)
        obtain ⟨b2, o2, rfl, hc2⟩ := i64_at K2.out (k := q) (by rw [show (rAt x.M j).2.2.length = m from OK.out.ml j hj]; exact hlt)
        obtain ⟨b3, o3, rfl, hc3⟩ := i64_at HA.out (k := q) (by rw [EM.out]; exact hlt)
        have a1 := OK.out.hv j hj q hlt
        have a2 := OK.out.mv j hj q hlt
        have EP : Hid (atL (plusF (mostR x j) (hasR x j) (-1)) q = atL (mostR x j) q + -1 * atL (hasR x j) q) := hid (plusF_at (by rw [HML.out]; exact hlt))
        change w1.cell? _ = some (.int .i64 (atL (hasR x j) q)) at hc1
        change w1.cell? _ = some (.int .i64 (atL (mostR x j) q)) at hc2
        obtain ⟨u, eu⟩ : ∃ u, atL (hasR x j) q = u := ⟨_, rfl⟩
        obtain ⟨v, ev⟩ : ∃ v, atL (mostR x j) q = v := ⟨_, rfl⟩
        obtain ⟨z, ez⟩ : ∃ z, atL n q = z := ⟨_, rfl⟩
        rw [eu] at hc1 a1 EP
        rw [ev] at hc2 a2 EP
        rw [ez] at hc3
        have EZ := hid ez
        have hwr : IntKind.i64.wrap (v - u) = v - u := by rw [IntKind.wrap_i64]; omega
        clear eu ev ez
        by_cases hv : v - u < z
        · have HE : Hid (askE x (j : Int) n = 2) := hid (by
            rw [HEE.out, if_pos]
            cases h : withK n (plusF (mostR x j) (hasR x j) (-1)) m with
            | false => rfl
            | true => have := withK_iff.1 h q hlt; rw [EP.out, EZ.out] at this; omega)
          clear HEE
          go_wp2_with fail
          refine wp_region_past (by kernel_rfl) (by kernel_rfl) ?_
          repeat (go_big_quiet_step ((first | (go_at_call 16; first | with_reducible exact Calls.in_past (True) | with_reducible exact Calls.in_past2 (True)) | (go_at_call 16; first | exact Calls.in_past (True) | exact Calls.in_past2 (True)))))
          refine wpQuiet_nil ?_
          rintro _ ⟨_, rfl⟩
          have z0 := Rec.cell HRES.out 0
          have z1 := Rec.cell HRES.out 1
          have z2 := Rec.cell HRES.out 2
          simp at z0 z1 z2
          have f0 := Rec.frozen HRES.out 0
          have f1 := Rec.frozen HRES.out 1
          have f2 := Rec.frozen HRES.out 2
          have hz := Rec.lt HRES.out
          go_wp2_with fail
          obtain ⟨s1, s2⟩ := stored3 HRES.out HB1.out (by omega) (.slice none 0 0) (.slice none 0 0) (.slice none 0 0)
          obtain ⟨W9, eW9⟩ : ∃ W9, W9 = ((w1.setCell ⟨w.heap.size + 1, 0, none⟩ (.slice none 0 0)).setCell ⟨w.heap.size + 1, 1, none⟩ (.slice none 0 0)).setCell ⟨w.heap.size + 1, 2, none⟩ (.slice none 0 0) := ⟨_, rfl⟩
          rw [← eW9] at s1 s2 ⊢
          clear eW9 z0 z1 z2 f0 f1 f2 hz
          have c0 := Rec.cell s1 0
          have c1 := Rec.cell s1 1
          have c2 := Rec.cell s1 2
          simp at c0 c1 c2
          refine bodyPost_ret (v := .tuple #[.agg #[.slice none 0 0, .slice none 0 0, .slice none 0 0], .int .i64 2]) (by simp [results, Try.results14, go_sem, c0, c1, c2]) rfl ?_
          rw [HE.out]
          exact BankP.nil (by decide) (RowKit.Below.past s2 _)
        · go_wp2_with fail
          refine wp_region_past (by kernel_rfl) (by kernel_rfl) ?_
          repeat (go_big_quiet_step ((first | (go_at_call 16; first | with_reducible exact Calls.in_past (True) | with_reducible exact Calls.in_past2 (True)) | (go_at_call 16; first | exact Calls.in_past (True) | exact Calls.in_past2 (True)))))
          refine wpQuiet_nil ?_
          rintro _ ⟨_, rfl⟩
          go_wp2_with fail
          go_roundw
          case rel => exact ⟨q + 1, _, by go_num, by omega, by first | rfl | trivial, hid (fun t ht => by
            by_cases e : t = q
            · subst e; rw [EP.out, EZ.out]; omega
            · exact HJ.out t (by omega))⟩
          case measure => simp [intOf]; omega
      · obtain rfl : m = q := by omega
        have hw1 : withK n (plusF (mostR x j) (hasR x j) (-1)) m = true := withK_iff.2 HJ.out
        have HW1 := hid hw1
        have HE2 : Hid (askE x (j : Int) n = if withK n x.F.2.2 m = false then 8 else if orderF (movedB x j n 1) = none then 9 else 0) := hid (by rw [HEE.out, if_neg (by rw [hw1]; decide)])
        clear hw1 HEE HJ
        go_wp2_with fail
        go_loopw [9] (fun i wr => ∃ (q : Nat) (y : Past), i = .int .i64 q ∧ q ≤ m ∧ wr = w1.past y ∧ Hid (∀ t, t < q → atL n t ≤ atL x.F.2.2 t)) (fun i _ => m - (intOf i).toNat)
        case atStart => exact ⟨0, _, rfl, by omega, by first | rfl | trivial, hid (fun t h => by omega)⟩
        case round =>
          obtain ⟨q, y, rfl, hq, rfl, HJ⟩ := hrel
          by_cases hlt : q < m
          · obtain ⟨b1, o1, rfl, hc1⟩ := i64_at KF.out (k := q) (by rw [OK.out.ef]; exact hlt)
            obtain ⟨b3, o3, rfl, hc3⟩ := i64_at HA.out (k := q) (by rw [EM.out]; exact hlt)
            obtain ⟨u, eu⟩ : ∃ u, atL x.F.2.2 q = u := ⟨_, rfl⟩
            obtain ⟨z, ez⟩ : ∃ z, atL n q = z := ⟨_, rfl⟩
            rw [eu] at hc1
            rw [ez] at hc3
            have EZ := hid (And.intro eu ez)
            clear eu ez
            by_cases hv : u < z
            · have HE : Hid (askE x (j : Int) n = 8) := hid (by
                rw [HE2.out, if_pos]
                cases h : withK n x.F.2.2 m with
                | false => rfl
                | true => have := withK_iff.1 h q hlt; rw [EZ.out.1, EZ.out.2] at this; omega)
              clear HE2
              go_wp2_with fail
              refine wp_region_past (by kernel_rfl) (by kernel_rfl) ?_
              repeat (go_big_quiet_step ((first | (go_at_call 16; first | with_reducible exact Calls.in_past (True) | with_reducible exact Calls.in_past2 (True)) | (go_at_call 16; first | exact Calls.in_past (True) | exact Calls.in_past2 (True)))))
              refine wpQuiet_nil ?_
              rintro _ ⟨_, rfl⟩
              have z0 := Rec.cell HRES.out 0
              have z1 := Rec.cell HRES.out 1
              have z2 := Rec.cell HRES.out 2
              simp at z0 z1 z2
              have f0 := Rec.frozen HRES.out 0
              have f1 := Rec.frozen HRES.out 1
              have f2 := Rec.frozen HRES.out 2
              have hz := Rec.lt HRES.out
              go_wp2_with fail
              obtain ⟨s1, s2⟩ := stored3 HRES.out HB1.out (by omega) (.slice none 0 0) (.slice none 0 0) (.slice none 0 0)
              obtain ⟨W9, eW9⟩ : ∃ W9, W9 = ((w1.setCell ⟨w.heap.size + 1, 0, none⟩ (.slice none 0 0)).setCell ⟨w.heap.size + 1, 1, none⟩ (.slice none 0 0)).setCell ⟨w.heap.size + 1, 2, none⟩ (.slice none 0 0) := ⟨_, rfl⟩
              rw [← eW9] at s1 s2 ⊢
              clear eW9 z0 z1 z2 f0 f1 f2 hz
              have c0 := Rec.cell s1 0
              have c1 := Rec.cell s1 1
              have c2 := Rec.cell s1 2
              simp at c0 c1 c2
              refine bodyPost_ret (v := .tuple #[.agg #[.slice none 0 0, .slice none 0 0, .slice none 0 0], .int .i64 8]) (by simp [results, Try.results14, go_sem, c0, c1, c2]) rfl ?_
              rw [HE.out]
              exact BankP.nil (by decide) (RowKit.Below.past s2 _)
            · go_wp2_with fail
              refine wp_region_past (by kernel_rfl) (by kernel_rfl) ?_
              repeat (go_big_quiet_step ((first | (go_at_call 16; first | with_reducible exact Calls.in_past (True) | with_reducible exact Calls.in_past2 (True)) | (go_at_call 16; first | exact Calls.in_past (True) | exact Calls.in_past2 (True)))))
              refine wpQuiet_nil ?_
              rintro _ ⟨_, rfl⟩
              go_wp2_with fail
              go_roundw
              case rel => exact ⟨q + 1, _, by go_num, by omega, by first | rfl | trivial, hid (fun t ht => by
                by_cases e : t = q
                · subst e; rw [EZ.out.1, EZ.out.2]; omega
                · exact HJ.out t (by omega))⟩
              case measure => simp [intOf]; omega
          · obtain rfl : m = q := by omega
            have hw2 : withK n x.F.2.2 m = true := withK_iff.2 HJ.out
            have HE3 : Hid (askE x (j : Int) n = if orderF (movedB x j n 1) = none then 9 else 0) := hid (by rw [HE2.out, if_neg (by rw [hw2]; decide)])
            have sn : Sml n := fun i => by
              by_cases hi : i < n.length
              · have h1 := HNP.out i hi
                have h2 := withK_iff.1 hw2 i (by rw [← EM.out]; exact hi)
                have h3 := OK.out.fv i (by rw [← EM.out]; exact hi)
                omega
              · unfold atL; rw [List.getElem?_eq_none (by omega)]; simp
            have hmv : mayB (movedB x j n 1) = true := movedB_may OK.out hj EM.out (fun i hi => by
              have h1 := HNP.out i (by rw [EM.out]; exact hi)
              have h2 := withK_iff.1 hw2 i hi
              have h3 := OK.out.fv i hi
              omega) (fun i hi => by
              have h1 := HNP.out i (by rw [EM.out]; exact hi)
              have h2 := withK_iff.1 HW1.out i hi
              have h3 := OK.out.hv j hj i hi
              rw [plusF_at (by rw [HML.out]; exact hi)] at h2
              omega)
            have HMV := hid hmv
            have MV := hid (fun W (hW : Below w1.heap.size w1 W) => rmove_any x m nm OK.out j hj A ca n EM.out sn 1 (.inl rfl) W (HX.out.below hW) (HA.out.below hW))
            rw [HCS.out] at MV
            clear hw2 HE2 HW1 sn hmv HJ
            go_upto_region 14 with (go_at_call 30; refine (MV.out _ (by (repeat (first | exact Below.refl _ _ | refine RowKit.Below.past ?_ _ | refine RowKit.Below.alloc' ?_ _ | refine RowKit.Below.drew' ?_ | refine RowKit.Below.drewN' ?_ _ | refine RowKit.Below.setCell' ?_ (by simp [go_sem]) _)))).mono ?_; rintro _ w7 ⟨y9, rfl, hb7, hy, hv⟩; obtain ⟨A0, n0, d0, A1, n1, d1, A2, n2, d2, ev⟩ : ∃ A0 n0 d0 A1 n1 d1 A2 n2 d2, y9.cs = #[.slice A0 n0 d0, .slice A1 n1 d1, .slice A2 n2 d2] := ⟨_, _, _, _, _, _, _, _, _, rfl⟩; have HB7 := hid hb7; have HY := hid hy; have HV := hid hv; have EV := hid ev; rw [ev]; clear hb7 hy hv ev)
            obtain ⟨w8, ew8⟩ : ∃ w8, w8 = w7.alloc (.cells #[.slice A0 n0 d0, .slice A1 n1 d1, .slice A2 n2 d2] 25) := ⟨_, rfl⟩
            rw [← ew8]
            have hb78 : Below w7.heap.size w7 w8 := by rw [ew8]; exact (Below.refl _ w7).alloc (Nat.le_refl _) _
            have hb17 : Below w1.heap.size w1 w7 := (w1.below_past _).trans (HB7.out.mono (w1.below_past _).size)
            have hb18 : Below w1.heap.size w1 w8 := hb17.trans (hb78.mono hb17.size)
            have hrc : Rec w8 w7.heap.size 25 #[.slice A0 n0 d0, .slice A1 n1 d1, .slice A2 n2 d2] := by rw [ew8]; exact Rec.new w7 _ _
            have hy9 : mayB y9 = true := by rw [HV.out.may]; exact HMV.out
            have hSV := rServe_any y9 _ _ (Bk.Ok.of hy9) w8 ((HY.out.in HB7.out (HX.out.below hb17)).below hb78)
            change Calls _ _ _ _ (ServeP (servedF y9) (stuckK (servedF y9) y9.H.length) w8) at hSV
            rw [EV.out] at hSV
            have HON : Hid (orderF (movedB x j n 1) = none ↔ 0 < (stuckK (servedF y9) y9.H.length).length) := hid (by rw [← HV.out.order]; exact orderF_none hy9)
            have HY8 := hid (HY.out.far hb78)
            have HP8 := hid (HB7.out.trans (hb78.mono HB7.out.size))
            have HB8 := hid (HB1.out.trans (hb18.mono HB1.out.size))
            have HB18 := hid hb18
            have HR8 := hid (HRES.out.below hb18 (Nat.le_refl _))
            obtain ⟨bc, ebc⟩ : ∃ b, b = w7.heap.size := ⟨_, rfl⟩
            have hbc : bc ≠ w.heap.size + 1 := by
              have h1 := Rec.lt HRES.out
              have h2 := hb17.size
              omega
            rw [← ebc] at hrc ⊢
            have HRC := hid hrc
            have y0 := Rec.cell hrc 0
            have y1 := Rec.cell hrc 1
            have y2 := Rec.cell hrc 2
            simp at y0 y1 y2
            obtain ⟨lf, elf⟩ : ∃ l, stuckK (servedF y9) y9.H.length = l := ⟨_, rfl⟩
            rw [elf] at hSV HON
            have hlf : lf.length ≤ 100 := by
              rw [← elf]
              have h1 := stuckK_length (servedF y9) y9.H.length
              have h2 := HV.out.hl
              rw [movedB_hl, OK.out.eh] at h2
              omega
            have HSV := hid hSV
            clear ew8 hb78 hb17 hb18 hrc hSV ebc HB7 HY hy9 elf
            by_cases hof : 0 < lf.length
            · have HE : Hid (askE x (j : Int) n = 9) := hid (by rw [HE3.out, if_pos (HON.out.2 hof)])
              clear HE3 HON
              go_upto_region 16 with (go_at_call 18; refine HSV.out.mono ?_; rintro _ w9 ⟨Ao, co, Bo, do', rfl, hb9, -, -⟩; have HRn := hid (HR8.out.below hb9 (Nat.le_refl _)); have HBn := hid (HB8.out.trans (hb9.mono HB8.out.size)); clear hb9)
              have z0 := Rec.cell HRn.out 0
              have z1 := Rec.cell HRn.out 1
              have z2 := Rec.cell HRn.out 2
              simp at z0 z1 z2
              have f0 := Rec.frozen HRn.out 0
              have f1 := Rec.frozen HRn.out 1
              have f2 := Rec.frozen HRn.out 2
              have hz := Rec.lt HRn.out
              go_wp2_with fail
              obtain ⟨s1, s2⟩ := stored3 HRn.out HBn.out (by omega) (.slice none 0 0) (.slice none 0 0) (.slice none 0 0)
              obtain ⟨W9, eW9⟩ : ∃ W9, W9 = ((w9.setCell ⟨w.heap.size + 1, 0, none⟩ (.slice none 0 0)).setCell ⟨w.heap.size + 1, 1, none⟩ (.slice none 0 0)).setCell ⟨w.heap.size + 1, 2, none⟩ (.slice none 0 0) := ⟨_, rfl⟩
              rw [← eW9] at s1 s2 ⊢
              clear eW9 z0 z1 z2 f0 f1 f2 hz
              have c0 := Rec.cell s1 0
              have c1 := Rec.cell s1 1
              have c2 := Rec.cell s1 2
              simp at c0 c1 c2
              refine bodyPost_ret (v := .tuple #[.agg #[.slice none 0 0, .slice none 0 0, .slice none 0 0], .int .i64 9]) (by simp [results, Try.results14, go_sem, c0, c1, c2]) rfl ?_
              rw [HE.out]
              exact BankP.nil (by decide) s2
            · have HE : Hid (askE x (j : Int) n = 0) := hid (by rw [HE3.out, if_neg (fun h => hof (HON.out.1 h))])
              obtain ⟨e0, hl0⟩ : ∃ e, lf.length = e := ⟨_, rfl⟩
              obtain rfl : e0 = 0 := by omega
              have HL0 := hid hl0
              clear HE3 HON hof hlf
              go_upto_region 17 with (go_at_call 18; refine HSV.out.mono ?_; rintro _ w9 ⟨Ao, co, Bo, do', rfl, hb9, -, -⟩; have HRn := hid (HR8.out.below hb9 (Nat.le_refl _)); have HBn := hid (HB8.out.trans (hb9.mono HB8.out.size)); have HRCn := hid (HRC.out.below hb9 (Nat.le_refl _)); have HYn := hid (HY8.out.far hb9); have HPn := hid (HP8.out.trans (hb9.mono HP8.out.size)); have HB1n := hid (HB18.out.trans (hb9.mono HB18.out.size)); clear hb9)
              clear y0 y1 y2
              have y0 := Rec.cell HRCn.out 0
              have y1 := Rec.cell HRCn.out 1
              have y2 := Rec.cell HRCn.out 2
              simp at y0 y1 y2
              have HIN := hid (in2_set3 HYn.out HXW.out HBn.out (by omega) HPn.out (HRES.out.past _) HRn.out (.slice A0 n0 d0) (.slice A1 n1 d1) (.slice A2 n2 d2))
              have z0 := Rec.cell HRn.out 0
              have z1 := Rec.cell HRn.out 1
              have z2 := Rec.cell HRn.out 2
              simp at z0 z1 z2
              have f0 := Rec.frozen HRn.out 0
              have f1 := Rec.frozen HRn.out 1
              have f2 := Rec.frozen HRn.out 2
              have hz := Rec.lt HRn.out
              go_wp2_with fail
              obtain ⟨s1, s2⟩ := stored3 HRn.out HBn.out (by omega) (.slice A0 n0 d0) (.slice A1 n1 d1) (.slice A2 n2 d2)
              obtain ⟨W9, eW9⟩ : ∃ W9, W9 = ((w9.setCell ⟨w.heap.size + 1, 0, none⟩ (.slice A0 n0 d0)).setCell ⟨w.heap.size + 1, 1, none⟩ (.slice A1 n1 d1)).setCell ⟨w.heap.size + 1, 2, none⟩ (.slice A2 n2 d2) := ⟨_, rfl⟩
              rw [← eW9] at s1 s2 HIN ⊢
              clear eW9 z0 z1 z2 f0 f1 f2 hz
              have c0 := Rec.cell s1 0
              have c1 := Rec.cell s1 1
              have c2 := Rec.cell s1 2
              simp at c0 c1 c2
              refine bodyPost_ret (v := .tuple #[.agg #[.slice A0 n0 d0, .slice A1 n1 d1, .slice A2 n2 d2], .int .i64 0]) (by simp [results, Try.results14, go_sem, c0, c1, c2]) rfl ?_
              rw [HE.out]
              exact ⟨y9, by rw [EV.out], s2, HIN.out, by rw [if_pos rfl]; exact HV.out⟩
end Go.Proofs.Ytddngloojacceaa
