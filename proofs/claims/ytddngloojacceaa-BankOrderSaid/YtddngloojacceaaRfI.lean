/-
  Layer 44: so much is given back, the document's. No condition but that rows are not long.
-/
import Derived.Test.YtddngloojacceaaRfH
namespace Go.Proofs.Ytddngloojacceaa
open Go Go.RowKit
set_option maxRecDepth 100000 in
set_option maxHeartbeats 4000000 in
theorem rGive_any (x : Bk) (hs : x.Sm) (who : Int) (A : Option Addr) (ca m : Nat) (n : List Int) (em : n.length = m) (hm : m ≤ 1000000) (w : World) (hx : x.In w) (ha : Cells w A (i64s n)) :
    Calls Try.prog 15 #[.agg x.cs, .int .i64 who, .slice A m ca] w (BankP (giveE x who n) (movedB x who.toNat n (-1)) w) := by
  obtain ⟨w1, ew1⟩ : ∃ w1, w1 = (w.alloc (.cells x.cs 25)).alloc (.cells #[.slice none 0 0, .slice none 0 0, .slice none 0 0] 25) := ⟨_, rfl⟩
  have hb1 : Below w.heap.size w w1 := by rw [ew1]; exact ((Below.refl _ w).alloc (Nat.le_refl _) _).alloc (by simp) _
  have hrec : Rec w1 w.heap.size 25 x.cs := by rw [ew1]; exact (Rec.new w _ _).alloc _
  have hres : Rec w1 (w.heap.size + 1) 25 #[.slice none 0 0, .slice none 0 0, .slice none 0 0] := by rw [ew1]; have := Rec.new (w.alloc (.cells x.cs 25)) 25 #[.slice none 0 0, .slice none 0 0, .slice none 0 0]; simpa using this
  have hX := hx.below hb1
  have hA := ha.below hb1
  have hcs : x.cs = #[.slice x.F.1 x.F.2.2.length x.F.2.1, .slice x.AH x.H.length x.cH, .slice x.AM x.M.length x.cM] := rfl
  obtain ⟨k, ek⟩ : ∃ k, x.F.2.2.length = k := ⟨_, rfl⟩
  obtain ⟨nh, enh⟩ : ∃ k, x.H.length = k := ⟨_, rfl⟩
  obtain ⟨nm, enm⟩ : ∃ k, x.M.length = k := ⟨_, rfl⟩
  rw [ek, enh, enm] at hcs
  have r0 := Rec.cell hrec 0
  have r1 := Rec.cell hrec 1
  have r2 := Rec.cell hrec 2
  rw [hcs] at ew1 r0 r1 r2 ⊢
  simp at r0 r1 r2
  obtain ⟨r, er⟩ : ∃ r, fitsF x who n = r := ⟨_, rfl⟩
  have HF := hid (er ▸ hcs ▸ rfits_any x hs who A ca m n em hm w1 hX hA)
  have EW1 := hid ew1
  have HB1 := hid hb1
  have HRES := hid hres
  have HX := hid hX
  have HXW := hid hx
  have HA := hid hA
  have EM := hid em
  have ER := hid er
  have HCS := hid hcs
  have EK := hid ek
  have ENH := hid enh
  have HSM := hid hs
  clear ew1 hb1 hrec hres hX hx hA ha em er hcs hs ek enh enm
  cases r with
  | false =>
    have HE : Hid (giveE x who n = 1) := hid (by unfold giveE; rw [if_pos ER.out])
    clear ER
    go_enter Try.func15, Try.ntmps15
    go_upto_region 1 with (fail)
    rw [← EW1.out]
    have z0 := Rec.cell HRES.out 0
    have z1 := Rec.cell HRES.out 1
    have z2 := Rec.cell HRES.out 2
    simp at z0 z1 z2
    have f0 := Rec.frozen HRES.out 0
    have f1 := Rec.frozen HRES.out 1
    have f2 := Rec.frozen HRES.out 2
    have hz := Rec.lt HRES.out
    go_wp2_with ((go_at_call 29; (with_reducible refine HF.out.mono ?_); rintro _ _ ⟨rfl, x1, rfl⟩))
    obtain ⟨s1, s2⟩ := stored3 HRES.out HB1.out (by omega) (.slice none 0 0) (.slice none 0 0) (.slice none 0 0)
    obtain ⟨W9, eW9⟩ : ∃ W9, W9 = ((w1.setCell ⟨w.heap.size + 1, 0, none⟩ (.slice none 0 0)).setCell ⟨w.heap.size + 1, 1, none⟩ (.slice none 0 0)).setCell ⟨w.heap.size + 1, 2, none⟩ (.slice none 0 0) := ⟨_, rfl⟩
    rw [← eW9] at s1 s2 ⊢
    clear eW9 z0 z1 z2 f0 f1 f2 hz
    have c0 := Rec.cell s1 0
    have c1 := Rec.cell s1 1
    have c2 := Rec.cell s1 2
    simp at c0 c1 c2
    refine bodyPost_ret (v := .tuple #[.agg #[.slice none 0 0, .slice none 0 0, .slice none 0 0], .int .i64 1]) (by simp [results, Try.results15, go_sem, c0, c1, c2]) rfl ?_
    rw [HE.out]
    exact BankP.nil (by decide) (RowKit.Below.past s2 _)
  | true =>
    obtain ⟨hmay, j, rfl, hj, hnl, hnp⟩ := fits_of ER.out
    have hok := Bk.Ok.of hmay
    rw [EK.out, ENH.out] at hok
    rw [ENH.out] at hj
    rw [EK.out, EM.out] at hnl
    subst hnl
    have hk4 := hok.k4
    have hk1 := hok.k1
    have h8 := hok.h8
    obtain rfl : nm = nh := by have := hok.em; have h2 := HCS.out; unfold Bk.cs at h2; simp at h2; omega
    have EJ := hid (show (j : Int).toNat = j from Int.toNat_natCast j)
    have OK := hid hok
    have HNP := hid hnp
    clear hok hmay hnp
    obtain ⟨bh, oh, Rh, c1, eAH, q1, k1⟩ := HX.out.h.at (i := j) (by rw [ENH.out]; exact hj)
    rw [show (rAt x.H j).2.2.length = m from OK.out.hl j hj] at q1
    obtain ⟨AH, gAH⟩ : ∃ z, x.AH = z := ⟨_, rfl⟩
    rw [gAH] at eAH
    subst eAH
    rw [gAH] at r1 EW1 HCS HF ⊢
    obtain ⟨AF, gAF⟩ : ∃ z, x.F.1 = z := ⟨_, rfl⟩
    have hfc := HX.out.f
    rw [gAF] at r0 EW1 HCS HF hfc ⊢
    have K1 := hid k1
    have KF := hid hfc
    clear k1 hfc gAH gAF
    have HEE : Hid (giveE x (j : Int) n = if roomK x.F.2.2 n m = false then 1 else if withK n (hasR x j) m = false then 2 else 0) := hid (by
      unfold giveE
      rw [if_neg (by rw [ER.out]; decide), EJ.out, EM.out, EK.out])
    rw [EJ.out]
    go_enter Try.func15, Try.ntmps15
    go_upto_region 1 with (fail)
    rw [← EW1.out]
    go_upto_region 3 with (go_at_call 29; (with_reducible refine HF.out.mono ?_); rintro _ _ ⟨rfl, x1, rfl⟩)
    go_wp2_with fail
    go_loopw [8] (fun i wr => ∃ (q : Nat) (y : Past), i = .int .i64 q ∧ q ≤ m ∧ wr = w1.past y ∧ Hid (∀ t, t < q → atL n t ≤ 1000000 - atL x.F.2.2 t)) (fun i _ => m - (intOf i).toNat)
    case atStart => exact ⟨0, _, rfl, by omega, by first | rfl | trivial, hid (fun t h => by omega)⟩
    case round =>
      obtain ⟨q, y, rfl, hq, rfl, HJ⟩ := hrel
      by_cases hlt : q < m
      · obtain ⟨b1, o1, rfl, hc1⟩ := i64_at KF.out (k := q) (by rw [OK.out.ef]; exact hlt)
        obtain ⟨b3, o3, rfl, hc3⟩ := i64_at HA.out (k := q) (by rw [EM.out]; exact hlt)
        have a1 := OK.out.fv q hlt
        obtain ⟨u, eu⟩ : ∃ u, atL x.F.2.2 q = u := ⟨_, rfl⟩
        obtain ⟨z, ez⟩ : ∃ z, atL n q = z := ⟨_, rfl⟩
        rw [eu] at hc1 a1
        rw [ez] at hc3
        have EZ := hid (And.intro eu ez)
        have hwr : IntKind.i64.wrap (1000000 - u) = 1000000 - u := by rw [IntKind.wrap_i64]; omega
        clear eu ez
        by_cases hv : 1000000 - u < z
        · have HE : Hid (giveE x (j : Int) n = 1) := hid (by
            rw [HEE.out, if_pos]
            cases h : roomK x.F.2.2 n m with
            | false => rfl
            | true => have := roomK_iff.1 h q hlt; rw [EZ.out.1, EZ.out.2] at this; omega)
          clear HEE
          go_wp2_with fail
          refine wp_region_past (by kernel_rfl) (by kernel_rfl) ?_
          repeat (go_big_quiet_step ((first | (go_at_call 16; first | with_reducible exact Calls.in_past (True) | with_reducible exact Calls.in_past2 (True)) | (go_at_call 16; first | exact Calls.in_past (True) | exact Calls.in_past2 (True)))))
          refine wpQuiet_nil ?_
          rintro _ ⟨_, rfl⟩
          have z0 := Rec.cell HRES.out 0
          have z1 := Rec.cell HRES.out 1
          have z2 := Rec.cell HRES.out 2
          simp at z0 z1 z2
          have f0 := Rec.frozen HRES.out 0
          have f1 := Rec.frozen HRES.out 1
          have f2 := Rec.frozen HRES.out 2
          have hz := Rec.lt HRES.out
          go_wp2_with fail
          obtain ⟨s1, s2⟩ := stored3 HRES.out HB1.out (by omega) (.slice none 0 0) (.slice none 0 0) (.slice none 0 0)
          obtain ⟨W9, eW9⟩ : ∃ W9, W9 = ((w1.setCell ⟨w.heap.size + 1, 0, none⟩ (.slice none 0 0)).setCell ⟨w.heap.size + 1, 1, none⟩ (.slice none 0 0)).setCell ⟨w.heap.size + 1, 2, none⟩ (.slice none 0 0) := ⟨_, rfl⟩
          rw [← eW9] at s1 s2 ⊢
          clear eW9 z0 z1 z2 f0 f1 f2 hz
          have c0 := Rec.cell s1 0
          have c1 := Rec.cell s1 1
          have c2 := Rec.cell s1 2
          simp at c0 c1 c2
          refine bodyPost_ret (v := .tuple #[.agg #[.slice none 0 0, .slice none 0 0, .slice none 0 0], .int .i64 1]) (by simp [results, Try.results15, go_sem, c0, c1, c2]) rfl ?_
          rw [HE.out]
          exact BankP.nil (by decide) (RowKit.Below.past s2 _)
        · go_wp2_with fail
          refine wp_region_past (by kernel_rfl) (by kernel_rfl) ?_
          repeat (go_big_quiet_step ((first | (go_at_call 16; first | with_reducible exact Calls.in_past (True) | with_reducible exact Calls.in_past2 (True)) | (go_at_call 16; first | exact Calls.in_past (True) | exact Calls.in_past2 (True)))))
          refine wpQuiet_nil ?_
          rintro _ ⟨_, rfl⟩
          go_wp2_with fail
          go_roundw
          case rel => exact ⟨q + 1, _, by go_num, by omega, by first | rfl | trivial, hid (fun t ht => by
            by_cases e : t = q
            · subst e; rw [EZ.out.1, EZ.out.2]; omega
            · exact HJ.out t (by omega))⟩
          case measure => simp [intOf]; omega
      · obtain rfl : m = q := by omega
        have HE2 : Hid (giveE x (j : Int) n = if withK n (hasR x j) m = false then 2 else 0) := hid (by rw [HEE.out, if_neg (by rw [roomK_iff.2 HJ.out]; decide)])
        clear HEE HJ
        go_wp2_with fail
        go_loopw [9] (fun i wr => ∃ (q : Nat) (y : Past), i = .int .i64 q ∧ q ≤ m ∧ wr = w1.past y ∧ Hid (∀ t, t < q → atL n t ≤ atL (hasR x j) t)) (fun i _ => m - (intOf i).toNat)
        case atStart => exact ⟨0, _, rfl, by omega, by first | rfl | trivial, hid (fun t h => by omega)⟩
        case round =>
          obtain ⟨q, y, rfl, hq, rfl, HJ⟩ := hrel
          by_cases hlt : q < m
          · obtain ⟨b1, o1, rfl, hc1⟩ := i64_at K1.out (k := q) (by rw [show (rAt x.H j).2.2.length = m from OK.out.hl j hj]; exact hlt)
            obtain ⟨b3, o3, rfl, hc3⟩ := i64_at HA.out (k := q) (by rw [EM.out]; exact hlt)
            change w1.cell? _ = some (.int .i64 (atL (hasR x j) q)) at hc1
            obtain ⟨u, eu⟩ : ∃ u, atL (hasR x j) q = u := ⟨_, rfl⟩
            obtain ⟨z, ez⟩ : ∃ z, atL n q = z := ⟨_, rfl⟩
            rw [eu] at hc1
            rw [ez] at hc3
            have EZ := hid (And.intro eu ez)
            clear eu ez
            by_cases hv : u < z
            · have HE : Hid (giveE x (j : Int) n = 2) := hid (by
                rw [HE2.out, if_pos]
                cases h : withK n (hasR x j) m with
                | false => rfl
                | true => have := withK_iff.1 h q hlt; rw [EZ.out.1, EZ.out.2] at this; omega)
              clear HE2
              go_wp2_with fail
              refine wp_region_past (by kernel_rfl) (by kernel_rfl) ?_
              repeat (go_big_quiet_step ((first | (go_at_call 16; first | with_reducible exact Calls.in_past (True) | with_reducible exact Calls.in_past2 (True)) | (go_at_call 16; first | exact Calls.in_past (True) | exact Calls.in_past2 (True)))))
              refine wpQuiet_nil ?_
              rintro _ ⟨_, rfl⟩
              have z0 := Rec.cell HRES.out 0
              have z1 := Rec.cell HRES.out 1
              have z2 := Rec.cell HRES.out 2
              simp at z0 z1 z2
              have f0 := Rec.frozen HRES.out 0
              have f1 := Rec.frozen HRES.out 1
              have f2 := Rec.frozen HRES.out 2
              have hz := Rec.lt HRES.out
              go_wp2_with fail
              obtain ⟨s1, s2⟩ := stored3 HRES.out HB1.out (by omega) (.slice none 0 0) (.slice none 0 0) (.slice none 0 0)
              obtain ⟨W9, eW9⟩ : ∃ W9, W9 = ((w1.setCell ⟨w.heap.size + 1, 0, none⟩ (.slice none 0 0)).setCell ⟨w.heap.size + 1, 1, none⟩ (.slice none 0 0)).setCell ⟨w.heap.size + 1, 2, none⟩ (.slice none 0 0) := ⟨_, rfl⟩
              rw [← eW9] at s1 s2 ⊢
              clear eW9 z0 z1 z2 f0 f1 f2 hz
              have c0 := Rec.cell s1 0
              have c1 := Rec.cell s1 1
              have c2 := Rec.cell s1 2
              simp at c0 c1 c2
              refine bodyPost_ret (v := .tuple #[.agg #[.slice none 0 0, .slice none 0 0, .slice none 0 0], .int .i64 2]) (by simp [results, Try.results15, go_sem, c0, c1, c2]) rfl ?_
              rw [HE.out]
              exact BankP.nil (by decide) (RowKit.Below.past s2 _)
            · go_wp2_with fail
              refine wp_region_past (by kernel_rfl) (by kernel_rfl) ?_
              repeat (go_big_quiet_step ((first | (go_at_call 16; first | with_reducible exact Calls.in_past (True) | with_reducible exact Calls.in_past2 (True)) | (go_at_call 16; first | exact Calls.in_past (True) | exact Calls.in_past2 (True)))))
              refine wpQuiet_nil ?_
              rintro _ ⟨_, rfl⟩
              go_wp2_with fail
              go_roundw
              case rel => exact ⟨q + 1, _, by go_num, by omega, by first | rfl | trivial, hid (fun t ht => by
                by_cases e : t = q
                · subst e; rw [EZ.out.1, EZ.out.2]; omega
                · exact HJ.out t (by omega))⟩
              case measure => simp [intOf]; omega
          · obtain rfl : m = q := by omega
            have hw2 : withK n (hasR x j) m = true := withK_iff.2 HJ.out
            have HE : Hid (giveE x (j : Int) n = 0) := hid (by rw [HE2.out, if_neg (by rw [hw2]; decide)])
            have sn : Sml n := fun i => by
              by_cases hi : i < n.length
              · have h1 := HNP.out i hi
                have h2 := withK_iff.1 hw2 i (by rw [← EM.out]; exact hi)
                have h3 := OK.out.hv j hj i (by rw [← EM.out]; exact hi)
                omega
              · unfold atL; rw [List.getElem?_eq_none (by omega)]; simp
            have MV := hid (fun W (hW : Below w1.heap.size w1 W) => rmove_any x m nm OK.out j hj A ca n EM.out sn (-1) (.inr rfl) W (HX.out.below hW) (HA.out.below hW))
            rw [HCS.out] at MV
            have FR := hid (fun W (hW : Below w1.heap.size w1 W) => (show W.cell? ⟨w.heap.size + 1, 0, none⟩ = some (.slice none 0 0) ∧ W.cell? ⟨w.heap.size + 1, 1, none⟩ = some (.slice none 0 0) ∧ W.cell? ⟨w.heap.size + 1, 2, none⟩ = some (.slice none 0 0) ∧ W.frozen? ⟨w.heap.size + 1, 0, none⟩ = false ∧ W.frozen? ⟨w.heap.size + 1, 1, none⟩ = false ∧ W.frozen? ⟨w.heap.size + 1, 2, none⟩ = false ∧ w.heap.size + 1 < W.heap.size by
              have h := HRES.out.below hW (Nat.le_refl _)
              exact ⟨by rw [Rec.cell h]; rfl, by rw [Rec.cell h]; rfl, by rw [Rec.cell h]; rfl, Rec.frozen h _, Rec.frozen h _, Rec.frozen h _, Rec.lt h⟩))
            clear hw2 HE2 sn HJ
            go_wp2_with (go_at_call 30; refine (MV.out _ (by (repeat (first | exact Below.refl _ _ | refine RowKit.Below.past ?_ _ | refine RowKit.Below.alloc' ?_ _ | refine RowKit.Below.drew' ?_ | refine RowKit.Below.drewN' ?_ _ | refine RowKit.Below.setCell' ?_ (by simp [go_sem]) _)))).mono ?_; rintro _ w7 ⟨y9, rfl, hb7, hy, hv⟩; obtain ⟨A0, n0, d0, A1, n1, d1, A2, n2, d2, ev⟩ : ∃ A0 n0 d0 A1 n1 d1 A2 n2 d2, y9.cs = #[.slice A0 n0 d0, .slice A1 n1 d1, .slice A2 n2 d2] := ⟨_, _, _, _, _, _, _, _, _, rfl⟩; have HB7 := hid hb7; have HY := hid hy; have HV := hid hv; have EV := hid ev; rw [ev]; clear hb7 hy hv ev; have B17 := hid ((w1.below_past _).trans (HB7.out.mono (w1.below_past _).size)); have fr := FR.out _ B17.out; obtain ⟨z0, z1, z2, f0, f1, f2, hz⟩ := fr)
            have HR7 := hid (HRES.out.below B17.out (Nat.le_refl _))
            have HBn := hid (HB1.out.trans (B17.out.mono HB1.out.size))
            have HIN := hid (in2_set3 HY.out HXW.out HBn.out (by omega) HB7.out (HRES.out.past _) HR7.out (.slice A0 n0 d0) (.slice A1 n1 d1) (.slice A2 n2 d2))
            obtain ⟨s1, s2⟩ := stored3 HR7.out HBn.out (by omega) (.slice A0 n0 d0) (.slice A1 n1 d1) (.slice A2 n2 d2)
            obtain ⟨W9, eW9⟩ : ∃ W9, W9 = ((w7.setCell ⟨w.heap.size + 1, 0, none⟩ (.slice A0 n0 d0)).setCell ⟨w.heap.size + 1, 1, none⟩ (.slice A1 n1 d1)).setCell ⟨w.heap.size + 1, 2, none⟩ (.slice A2 n2 d2) := ⟨_, rfl⟩
            rw [← eW9] at s1 s2 HIN ⊢
            clear eW9 z0 z1 z2 f0 f1 f2 hz
            have c0 := Rec.cell s1 0
            have c1 := Rec.cell s1 1
            have c2 := Rec.cell s1 2
            simp at c0 c1 c2
            refine bodyPost_ret (v := .tuple #[.agg #[.slice A0 n0 d0, .slice A1 n1 d1, .slice A2 n2 d2], .int .i64 0]) (by simp [results, Try.results15, go_sem, c0, c1, c2]) rfl ?_
            rw [HE.out]
            exact ⟨y9, by rw [EV.out], s2, HIN.out, by rw [if_pos rfl]; exact HV.out⟩
end Go.Proofs.Ytddngloojacceaa
