/-
  Layer 44's BankSafe: what a safe bank lets be asked leaves it safe, and so does what is given back, all of which is free then; nothing is lost. No condition.
-/
import Derived.Test.YtddngloojacceaaLwI
namespace Go.Proofs.Ytddngloojacceaa
open Go.RowKit Go.Shelf Go.ChangeShapes Go.WideShapes Go.ChangeAt
open Go
attribute [local go_sem] Oper.semAt_some
theorem stuck_nil {x : Bk} (hm : mayB x = true) (ho : orderF x ≠ none) : stuckF x = [] := by
  have h1 : ¬ 0 < (stuckK (servedF x) x.H.length).length := fun h => ho ((orderF_none hm).2 h)
  have h2 : stuckF x = stuckK (servedF x) x.H.length := by unfold stuckF; rw [if_pos hm]; rfl
  rw [h2]
  exact List.length_eq_zero_iff.1 (by omega)
set_option maxRecDepth 100000 in
set_option maxHeartbeats 8000000 in
theorem BankSafe_any (x : Bk) (A : Option Addr) (ca m : Nat) (l : List De) (em : l.length = m) (hmx : m ≤ maxLen) (w : World) (hx : x.In w) (hd : Dees w A l) :
    Calls Try.prog 6 #[.agg x.cs, .slice A m ca] w (Gives (.bool true) w) := by
  obtain ⟨w1, ew1⟩ : ∃ w1, w1 = w.alloc (.cells x.cs 25) := ⟨_, rfl⟩
  have hb1 : Below w.heap.size w w1 := by rw [ew1]; exact (Below.refl _ w).alloc (Nat.le_refl _) _
  have hrec : Rec w1 w.heap.size 25 x.cs := by rw [ew1]; exact Rec.new w _ _
  obtain ⟨F, eF⟩ : ∃ F, x.F.1 = F := ⟨_, rfl⟩
  obtain ⟨nF, enF⟩ : ∃ F, x.F.2.2.length = F := ⟨_, rfl⟩
  obtain ⟨nh, enh⟩ : ∃ F, x.H.length = F := ⟨_, rfl⟩
  obtain ⟨nm, enm⟩ : ∃ F, x.M.length = F := ⟨_, rfl⟩
  have hcs : x.cs = #[.slice F nF x.F.2.1, .slice x.AH nh x.cH, .slice x.AM nm x.cM] := by unfold Bk.cs; rw [eF, enF, enh, enm]
  have hX := hx.below hb1
  rw [hcs] at ew1 hrec ⊢
  have BX := hid (fun W (h : Below w1.heap.size w1 W) => (show W.cell? ⟨w.heap.size, 0, none⟩ = some (.slice F nF x.F.2.1) ∧ W.cell? ⟨w.heap.size, 1, none⟩ = some (.slice x.AH nh x.cH) ∧ W.cell? ⟨w.heap.size, 2, none⟩ = some (.slice x.AM nm x.cM) ∧ w.heap.size < W.heap.size by
    have hr := hrec.below h (Nat.le_refl _)
    exact ⟨by rw [Rec.cell hr]; rfl, by rw [Rec.cell hr]; rfl, by rw [Rec.cell hr]; rfl, Rec.lt hr⟩))
  have PSM := hid (fun W (h : Below w1.heap.size w1 W) => hcs ▸ small_any x W (hX.below h))
  have PRM := hid (fun (hs : x.Sm) W (h : Below w1.heap.size w1 W) => hcs ▸ RMay_any x hs.1 hs.2.2 W (hX.below h))
  have PO := hid (fun (hs : x.Sm) W (h : Below w1.heap.size w1 W) => hcs ▸ Order_any x hs W (hX.below h))
  have PT := hid (fun (hm : mayB x = true) W (h : Below w1.heap.size w1 W) => hcs ▸ total_any x _ _ (Bk.Ok.of hm) W (hX.below h))
  rw [enF] at PT
  have EW1 := hid ew1
  have HB1 := hid hb1
  have HREC := hid hrec
  have HX1 := hid hX
  have HD := hid hd
  have HCS := hid hcs
  have EM := hid em
  have ENF := hid enF
  have B0 := BX.out _ (Below.refl _ w1)
  obtain ⟨z0, z1, z2, hlb⟩ := B0
  unfold maxLen at hmx
  clear ew1 hb1 hrec hX hx eF enF enh enm hcs hd em
  go_enter Try.func6, Try.ntmps6
  go_upto_region 1 with (fail)
  rw [← EW1.out]
  clear EW1
  go_upto_region 3 with (go_at_call 7; refine (awake_any _).mono ?_; rintro _ _ ⟨rfl, x0, rfl⟩)
  obtain ⟨w2, ew2⟩ : ∃ w2, w2 = w1.past x0 := ⟨_, rfl⟩
  have H2 := hid (show Below w1.heap.size w1 w2 by rw [ew2]; exact w1.below_past x0)
  rw [← ew2]
  clear ew2 z0 z1 z2 hlb
  obtain ⟨z0, z1, z2, hlb⟩ := BX.out w2 H2.out
  go_wp2_with fail
  refine (PSM.out w2 H2.out).mono ?_
  rintro _ w3 ⟨b, rfl, hb3, hsm⟩
  have HSM := hid hsm
  have H3 := hid (H2.out.trans (hb3.mono H2.out.size))
  clear hb3 hsm z0 z1 z2 hlb
  obtain ⟨z0, z1, z2, hlb⟩ := BX.out w3 H3.out
  cases b with
  | false =>
    go_wp2_with fail
    go_ret
    exact Gives.mk rfl (HB1.out.trans (H3.out.mono HB1.out.size))
  | true =>
    have hsm := HSM.out rfl
    have PRM := hid (PRM.out hsm _ H3.out)
    have PO := hid (PO.out hsm)
    clear hsm HSM PSM
    by_cases hm30 : 30 < m
    · go_wp2_with fail
      go_ret
      exact Gives.mk rfl (HB1.out.trans (H3.out.mono HB1.out.size))
    · obtain ⟨r, er⟩ : ∃ r, mayB x = r := ⟨_, rfl⟩
      rw [er] at PRM
      have ER := hid er
      clear er
      cases r with
      | false =>
        go_wp2_with (go_at_call 9; refine PRM.out.mono ?_; rintro _ _ ⟨rfl, x4, rfl⟩)
        go_ret
        exact Gives.mk rfl (HB1.out.trans ((RowKit.Below.past H3.out x4).mono HB1.out.size))
      | true =>
        have PT := hid (PT.out ER.out)
        go_upto_region 5 with (go_at_call 9; refine PRM.out.mono ?_; rintro _ _ ⟨rfl, x4, rfl⟩)
        obtain ⟨w4, ew4⟩ : ∃ W, W = w3.past x4 := ⟨_, rfl⟩
        have H4 := hid (show Below w1.heap.size w1 w4 by rw [ew4]; exact RowKit.Below.past H3.out x4)
        rw [← ew4]
        clear ew4 z0 z1 z2 hlb PRM
        obtain ⟨z0, z1, z2, hlb⟩ := BX.out w4 H4.out
        cases hof : orderF x with
        | none =>
          rw [hof] at PO
          go_wp2_with (go_at_call 10; refine (PO.out _ H4.out).mono ?_; rintro _ w5 ⟨rfl, hb5⟩; have HB5 := hid hb5; clear hb5)
          go_ret
          exact Gives.mk rfl (HB1.out.trans ((H4.out.trans (HB5.out.mono H4.out.size)).mono HB1.out.size))
        | some lo =>
          rw [hof] at PO
          have HSAFE := hid (show orderF x ≠ none by rw [hof]; simp)
          clear hof
          go_upto_region 8 with (go_at_call 10; refine (PO.out _ H4.out).mono ?_; rintro _ w5 ⟨Ao, do', rfl, hb5, -⟩; have HB5 := hid hb5; clear hb5)
          have H5 := hid (H4.out.trans (HB5.out.mono H4.out.size))
          clear z0 z1 z2 hlb
          obtain ⟨z0, z1, z2, hlb⟩ := BX.out w5 H5.out
          go_upto_region 9 with (go_at_call 20; refine (PT.out _ H5.out).mono ?_; rintro _ w6 ⟨As, cs', rfl, hb6, ho6⟩; have HB6 := hid hb6; have HO6 := hid ho6; clear hb6 ho6)
          have H6 := hid (H5.out.trans (HB6.out.mono H5.out.size))
          have HS0 : Hid (SfW w w6 w.heap.size nF F nF x.F.2.1 x.AH nh x.cH x.AM nm x.cM x (.slice As nF cs') (totalF x)) := hid (by
            have h5 := HB1.out.trans (H5.out.mono HB1.out.size)
            exact ⟨HB1.out.trans (H6.out.mono HB1.out.size), HREC.out.below H6.out (Nat.le_refl _), HCS.out, HX1.out.below H6.out, own_base HO6.out h5.size, ER.out, HSAFE.out, rfl, ENF.out⟩)
          obtain ⟨S, eS⟩ : ∃ S, totalF x = S := ⟨_, rfl⟩
          rw [eS] at HS0
          have hk4 : nF ≤ 4 := by have := (Bk.Ok.of ER.out).k4; have h2 := ENF.out; omega
          clear z0 z1 z2 hlb HB5 HO6 HB6 PT PO eS H2 H3 H4 H5 H6 HX1 HREC BX HCS HSAFE ER
          go_wp2_with fail
          go_loopw [40] (fun i wr => ∃ (q : Nat) (A0 : Option Addr) (n0 d0 : Nat) (A1 : Option Addr) (n1 d1 : Nat) (A2 : Option Addr) (n2 d2 : Nat) (cur : Bk), i = .int .i64 q ∧ q ≤ m ∧ Hid (SfW w wr w.heap.size nF A0 n0 d0 A1 n1 d1 A2 n2 d2 cur (.slice As nF cs') S)) (fun i _ => m - (intOf i).toNat)
          case atStart => exact ⟨0, _, _, _, _, _, _, _, _, _, x, rfl, by omega, HS0⟩
          case round =>
            clear HS0
            obtain ⟨q, A0, n0, d0, A1, n1, d1, A2, n2, d2, cur, rfl, hq, HS⟩ := hrel
            obtain ⟨wo, rfl⟩ : ∃ wo : World, wo = wr := ⟨_, rfl⟩
            have z0 := Rec.cell HS.out.box 0
            have z1 := Rec.cell HS.out.box 1
            have z2 := Rec.cell HS.out.box 2
            simp at z0 z1 z2
            have hlb := Rec.lt HS.out.box
            by_cases hlt : q < m
            · obtain ⟨bd, od, d, hdm, rfl, t0, t1, t2⟩ := HD.out.at (i := q) (by rw [EM.out]; exact hlt)
              obtain ⟨hdc, hdl⟩ := HD.out.each d hdm
              have t0 := (HS.out.below.cell (lt_of_cell t0)).trans t0
              have t1 := (HS.out.below.cell (lt_of_cell t1)).trans t1
              have t2 := (HS.out.below.cell (lt_of_cell t2)).trans t2
              obtain ⟨bk, ebk⟩ : ∃ b, d.b = b := ⟨_, rfl⟩
              obtain ⟨who, ewho⟩ : ∃ b, d.who = b := ⟨_, rfl⟩
              obtain ⟨nn, enn⟩ : ∃ b, d.r.2.2.length = b := ⟨_, rfl⟩
              obtain ⟨Rn, eRn⟩ : ∃ b, d.r.1 = b := ⟨_, rfl⟩
              obtain ⟨Nl, eNl⟩ : ∃ b, d.r.2.2 = b := ⟨_, rfl⟩
              rw [ebk] at t0
              rw [ewho] at t1
              rw [enn, eRn] at t2
              rw [eNl] at hdc enn
              rw [eRn] at hdc
              have HDC := hid (hdc.below HS.out.below)
              have ENN := hid enn
              have EDV := hid (And.intro ewho eRn)
              unfold maxLen at hdl
              rw [eNl, enn] at hdl
              clear hdm hdc ebk ewho enn eRn eNl EDV
              have i0 : ((od + q * 3 : Nat)) = od + q * 3 := rfl
              go_upto_region 12 with (fail)
              clear t0 t1 t2 i0
              by_cases h12 : 12 < nn
              · go_wp2_with fail
                go_ret
                exact Gives.mk rfl (HS.out.below.trans ((Below.alloc (Below.refl _ wo) (Nat.le_refl _) _).mono HS.out.below.size))
              · go_upto_region 15 with (fail)
                obtain ⟨w7, ew7⟩ : ∃ W, W = (wo.alloc (.cells #[.bool bk, .int .i64 who, .slice Rn nn d.r.2.1] 44)).alloc (.cells #[.slice none 0 0, .slice none 0 0, .slice none 0 0] 25) := ⟨_, rfl⟩
                have H7 := hid (show Below wo.heap.size wo w7 by rw [ew7]; exact ((Below.refl _ wo).alloc (Nat.le_refl _) _).alloc (by simp) _)
                have hdr : Rec w7 wo.heap.size 44 #[.bool bk, .int .i64 who, .slice Rn nn d.r.2.1] := by rw [ew7]; exact (Rec.new wo _ _).alloc _
                have HC7 := hid (show Rec w7 (wo.heap.size + 1) 25 #[.slice none 0 0, .slice none 0 0, .slice none 0 0] by rw [ew7]; exact rec_new_at (by simp))
                rw [← ew7]
                obtain ⟨bc, ebc⟩ : ∃ b, b = wo.heap.size + 1 := ⟨_, rfl⟩
                have HBC := hid (show wo.heap.size ≤ bc by omega)
                rw [← ebc] at HC7 ⊢
                have HL7 := hid (Rec.lt HC7.out)
                have HLB7 := hid (show w.heap.size < w7.heap.size by have h1 := H7.out.size; omega)
                have t0 := Rec.cell hdr 0
                have t1 := Rec.cell hdr 1
                have t2 := Rec.cell hdr 2
                simp at t0 t1 t2
                have hbx := (HS.out.far H7.out).box
                clear z0 z1 z2 hlb
                have z0 := Rec.cell hbx 0
                have z1 := Rec.cell hbx 1
                have z2 := Rec.cell hbx 2
                simp at z0 z1 z2
                have hlb := Rec.lt hbx
                have HCSC := hid HS.out.cs
                have HSMC := hid (sm_of_may HS.out.may)
                have SLEN : Hid (S.length = nF) := hid (by have := HS.out.sum.1; simpa [i64s] using this)
                clear ew7 ebc hdr hbx
                cases bk with
                | true =>
                  have KK := hid (fun W (hb : Below wo.heap.size wo W) => HCSC.out ▸ GiveQ_any cur HSMC.out who Rn d.r.2.1 nn Nl ENN.out (by omega) W (HS.out.inn.below hb) (HDC.out.below hb))
                  obtain ⟨cd, ecd⟩ : ∃ c, giveE cur who Nl = c := ⟨_, rfl⟩
                  rw [ecd] at KK
                  have ECD := hid ecd
                  clear ecd
                  by_cases hcd : cd = 0
                  · subst hcd
                    go_upto_region 18 with (go_at_call 13; refine (KK.out _ H7.out).mono ?_; rintro _ w8 ⟨y, rfl, hb8, hy, hv, hfar⟩; obtain ⟨B0, m0, e0, B1, m1, e1, B2, m2, e2, ev⟩ : ∃ A0 n0 d0 A1 n1 d1 A2 n2 d2, y.cs = #[.slice A0 n0 d0, .slice A1 n1 d1, .slice A2 n2 d2] := ⟨_, _, _, _, _, _, _, _, _, rfl⟩; rw [ev]; have HV := hid hv; have EV := hid ev; have HB8 := hid hb8; have HY := hid hy; have HFAR := hid hfar; clear hb8 hy hv ev hfar; have hr := HC7.out.below HB8.out (Nat.le_refl _); have y0 := Rec.cell hr 0; have y1 := Rec.cell hr 1; have y2 := Rec.cell hr 2; simp at y0 y1 y2; have f0 := Rec.frozen hr 0; have f1 := Rec.frozen hr 1; have f2 := Rec.frozen hr 2; have fl := Rec.lt hr; have HR8 := hid hr; clear hr)
                    rw [if_pos trivial] at HV
                    obtain ⟨hmy, hoy, hty, hly⟩ := deed_ok HS.out.may HS.out.safe (who := who) (n := Nl) (b := true) (by simpa using ECD.out) (by simpa using HV.out)
                    rw [HS.out.tot] at hty
                    rw [HS.out.len] at hly
                    have HIN := hid (in_store3 HY.out HFAR.out HL7.out HR8.out ⟨fun _ => by simp, fun _ => by simp, fun _ => by simp⟩ (.slice B0 m0 e0) (.slice B1 m1 e1) (.slice B2 m2 e2))
                    have hs3 : Rec (((w8.setCell ⟨bc, 0, none⟩ (.slice B0 m0 e0)).setCell ⟨bc, 1, none⟩ (.slice B1 m1 e1)).setCell ⟨bc, 2, none⟩ (.slice B2 m2 e2)) bc 25 #[.slice B0 m0 e0, .slice B1 m1 e1, .slice B2 m2 e2] := by
                      have := ((HR8.out.set 0 (.slice B0 m0 e0)).set 1 (.slice B1 m1 e1)).set 2 (.slice B2 m2 e2)
                      simpa using this
                    have hb9 : Below wo.heap.size wo (((w8.setCell ⟨bc, 0, none⟩ (.slice B0 m0 e0)).setCell ⟨bc, 1, none⟩ (.slice B1 m1 e1)).setCell ⟨bc, 2, none⟩ (.slice B2 m2 e2)) :=
                      (((H7.out.trans (HB8.out.mono H7.out.size)).setCell (p := ⟨bc, 0, none⟩) HBC.out _).setCell (p := ⟨bc, 1, none⟩) HBC.out _).setCell (p := ⟨bc, 2, none⟩) HBC.out _
                    obtain ⟨w9, ew9⟩ : ∃ W, W = (((w8.setCell ⟨bc, 0, none⟩ (.slice B0 m0 e0)).setCell ⟨bc, 1, none⟩ (.slice B1 m1 e1)).setCell ⟨bc, 2, none⟩ (.slice B2 m2 e2)) := ⟨_, rfl⟩
                    rw [← ew9] at HIN hs3 hb9 ⊢
                    have HS3 := hid hs3
                    have H9 := hid hb9
                    have HMY := hid hmy
                    have HOY := hid hoy
                    have HTY := hid hty
                    have HLY := hid hly
                    have PO2 := hid (fun W (hb : Below w9.heap.size w9 W) => EV.out ▸ Order_any y (sm_of_may hmy) W (HIN.out.below hb))
                    have PT2 := hid (fun W (hb : Below w9.heap.size w9 W) => EV.out ▸ total_any y _ _ (Bk.Ok.of hmy) W (HIN.out.below hb))
                    rw [hty, hly] at PT2
                    have CB := hid (fun W (hb : Below w9.heap.size w9 W) => (show W.cell? ⟨bc, 0, none⟩ = some (.slice B0 m0 e0) ∧ W.cell? ⟨bc, 1, none⟩ = some (.slice B1 m1 e1) ∧ W.cell? ⟨bc, 2, none⟩ = some (.slice B2 m2 e2) by
                      have hr := HS3.out.below hb (Nat.le_refl _)
                      exact ⟨by rw [Rec.cell hr]; rfl, by rw [Rec.cell hr]; rfl, by rw [Rec.cell hr]; rfl⟩))
                    clear ew9 hs3 hb9 hmy hty hly y0 y1 y2 f0 f1 f2 fl HR8 HC7 z0 z1 z2 hlb KK
                    cases hoo : orderF y with
                    | none => exact absurd hoo hoy
                    | some lo2 =>
                      rw [hoo] at PO2
                      clear hoo hoy
                      obtain ⟨y0, y1, y2⟩ := CB.out w9 (Below.refl _ _)
                      go_upto_region 22 with (go_at_call 10; refine (PO2.out _ (Below.refl _ _)).mono ?_; rintro _ w10 ⟨Ap, dp, rfl, hb10, -⟩; have HB10 := hid hb10; clear hb10)
                      clear y0 y1 y2
                      obtain ⟨y0, y1, y2⟩ := CB.out w10 HB10.out
                      have H10 := hid (H9.out.trans (HB10.out.mono H9.out.size))
                      have SUM := hid (fun W (hb : Below wo.heap.size wo W) => Cells.of_own ((HS.out.far hb).sum))
                      go_upto_region 24 with (first | (go_at_call 20; refine (PT2.out _ HB10.out).mono ?_; rintro _ w11 ⟨At, dt, rfl, hb11, ho11⟩; have HB11 := hid hb11; have HO11 := hid (Cells.of_own ho11); clear hb11 ho11; have H11 := hid (H10.out.trans (HB11.out.mono H10.out.size)); have PI := hid (ints_same At As dt cs' nF S SLEN.out (by omega) w11 HO11.out (SUM.out w11 H11.out))) | (go_at_call 19; refine PI.out.mono ?_; rintro _ _ ⟨rfl, x12, rfl⟩))
                      obtain ⟨w12, ew12⟩ : ∃ W, W = w11.past x12 := ⟨_, rfl⟩
                      have HB12 := hid (show Below w9.heap.size w9 w12 by rw [ew12]; exact HB10.out.trans ((RowKit.Below.past HB11.out x12).mono HB10.out.size))
                      rw [← ew12]
                      have H12 := hid (H9.out.trans (HB12.out.mono H9.out.size))
                      clear ew12 y0 y1 y2
                      obtain ⟨y0, y1, y2⟩ := CB.out w12 HB12.out
                      have hbx := (HS.out.far H12.out).box
                      have z0 := Rec.cell hbx 0
                      have z1 := Rec.cell hbx 1
                      have z2 := Rec.cell hbx 2
                      simp at z0 z1 z2
                      have f0 := Rec.frozen hbx 0
                      have f1 := Rec.frozen hbx 1
                      have f2 := Rec.frozen hbx 2
                      have fl := Rec.lt hbx
                      have HIN2 := hid (in_store3 (HIN.out.below HB12.out) HFAR.out HLB7.out hbx ⟨fun _ => by simp, fun _ => by simp, fun _ => by simp⟩ (.slice B0 m0 e0) (.slice B1 m1 e1) (.slice B2 m2 e2))
                      have HNX : Hid (SfW w (((w12.setCell ⟨w.heap.size, 0, none⟩ (.slice B0 m0 e0)).setCell ⟨w.heap.size, 1, none⟩ (.slice B1 m1 e1)).setCell ⟨w.heap.size, 2, none⟩ (.slice B2 m2 e2)) w.heap.size nF B0 m0 e0 B1 m1 e1 B2 m2 e2 y (.slice As nF cs') S) := hid (by
                        have hb := HS.out.below.trans (H12.out.mono HS.out.below.size)
                        have hsm := (HS.out.far H12.out).sum
                        refine ⟨((hb.setCell (p := ⟨w.heap.size, 0, none⟩) (Nat.le_refl _) _).setCell (p := ⟨w.heap.size, 1, none⟩) (Nat.le_refl _) _).setCell (p := ⟨w.heap.size, 2, none⟩) (Nat.le_refl _) _, ?_, EV.out, HIN2.out, own_setB (own_setB (own_setB hsm hbx (by decide) 0 _) (hbx.set 0 _) (by decide) 1 _) ((hbx.set 0 _).set 1 _) (by decide) 2 _, HMY.out, HOY.out, HTY.out, HLY.out⟩
                        have := ((hbx.set 0 (.slice B0 m0 e0)).set 1 (.slice B1 m1 e1)).set 2 (.slice B2 m2 e2)
                        simpa using this)
                      clear HS HIN HIN2 hbx PO2 PT2 PI CB SUM
                      go_wp2_with fail
                      go_roundw
                      case rel => exact ⟨q + 1, _, _, _, _, _, _, _, _, _, y, by go_num, by omega, HNX⟩
                      case measure => simp [intOf]; omega
                  · have hc1 : (cd == 0) = false := by simpa using hcd
                    have hc2 : (cd != 0) = true := by simpa using hcd
                    go_upto_region 18 with (go_at_call 13; refine (KK.out _ H7.out).mono ?_; rintro _ w8 ⟨y, rfl, hb8, hy, hv, hfar⟩; obtain ⟨B0, m0, e0, B1, m1, e1, B2, m2, e2, ev⟩ : ∃ A0 n0 d0 A1 n1 d1 A2 n2 d2, y.cs = #[.slice A0 n0 d0, .slice A1 n1 d1, .slice A2 n2 d2] := ⟨_, _, _, _, _, _, _, _, _, rfl⟩; rw [ev]; have HV := hid hv; have EV := hid ev; have HB8 := hid hb8; clear hb8 hy hv ev hfar; have hr := HC7.out.below HB8.out (Nat.le_refl _); have y0 := Rec.cell hr 0; have y1 := Rec.cell hr 1; have y2 := Rec.cell hr 2; simp at y0 y1 y2; have f0 := Rec.frozen hr 0; have f1 := Rec.frozen hr 1; have f2 := Rec.frozen hr 2; have fl := Rec.lt hr; have HR8 := hid hr; clear hr)
                    rw [if_neg hcd] at HV
                    obtain rfl : m0 = 0 := by
                      have h1 := EV.out
                      unfold Bk.cs at h1
                      simp only [Array.mk.injEq, List.cons.injEq, Value.slice.injEq] at h1
                      have h2 := HV.out.f
                      have h3 : nilB.F.2.2 = [] := rfl
                      rw [h3] at h2
                      rw [h2] at h1
                      simpa using h1.1.2.1.symm
                    have hs3 : Rec (((w8.setCell ⟨bc, 0, none⟩ (.slice B0 0 e0)).setCell ⟨bc, 1, none⟩ (.slice B1 m1 e1)).setCell ⟨bc, 2, none⟩ (.slice B2 m2 e2)) bc 25 #[.slice B0 0 e0, .slice B1 m1 e1, .slice B2 m2 e2] := by
                      have := ((HR8.out.set 0 (.slice B0 0 e0)).set 1 (.slice B1 m1 e1)).set 2 (.slice B2 m2 e2)
                      simpa using this
                    have hb9 : Below wo.heap.size wo (((w8.setCell ⟨bc, 0, none⟩ (.slice B0 0 e0)).setCell ⟨bc, 1, none⟩ (.slice B1 m1 e1)).setCell ⟨bc, 2, none⟩ (.slice B2 m2 e2)) :=
                      (((H7.out.trans (HB8.out.mono H7.out.size)).setCell (p := ⟨bc, 0, none⟩) HBC.out _).setCell (p := ⟨bc, 1, none⟩) HBC.out _).setCell (p := ⟨bc, 2, none⟩) HBC.out _
                    obtain ⟨w9, ew9⟩ : ∃ W, W = (((w8.setCell ⟨bc, 0, none⟩ (.slice B0 0 e0)).setCell ⟨bc, 1, none⟩ (.slice B1 m1 e1)).setCell ⟨bc, 2, none⟩ (.slice B2 m2 e2)) := ⟨_, rfl⟩
                    rw [← ew9] at hs3 hb9 ⊢
                    have g0 := Rec.cell hs3 0
                    simp at g0
                    have HNX := hid (HS.out.far hb9)
                    clear ew9 hs3 hb9 y0 y1 y2 f0 f1 f2 fl HR8 HC7 z0 z1 z2 hlb KK
                    go_wp2_with fail
                    go_roundw
                    case rel => exact ⟨q + 1, _, _, _, _, _, _, _, _, _, cur, by go_num, by omega, HNX⟩
                    case measure => simp [intOf]; omega
                | false =>
                  have KK := hid (fun W (hb : Below wo.heap.size wo W) => HCSC.out ▸ AskQ_any cur HSMC.out who Rn d.r.2.1 nn Nl ENN.out (by omega) W (HS.out.inn.below hb) (HDC.out.below hb))
                  obtain ⟨cd, ecd⟩ : ∃ c, askE cur who Nl = c := ⟨_, rfl⟩
                  rw [ecd] at KK
                  have ECD := hid ecd
                  clear ecd
                  by_cases hcd : cd = 0
                  · subst hcd
                    go_upto_region 18 with (go_at_call 12; refine (KK.out _ H7.out).mono ?_; rintro _ w8 ⟨y, rfl, hb8, hy, hv, hfar⟩; obtain ⟨B0, m0, e0, B1, m1, e1, B2, m2, e2, ev⟩ : ∃ A0 n0 d0 A1 n1 d1 A2 n2 d2, y.cs = #[.slice A0 n0 d0, .slice A1 n1 d1, .slice A2 n2 d2] := ⟨_, _, _, _, _, _, _, _, _, rfl⟩; rw [ev]; have HV := hid hv; have EV := hid ev; have HB8 := hid hb8; have HY := hid hy; have HFAR := hid hfar; clear hb8 hy hv ev hfar; have hr := HC7.out.below HB8.out (Nat.le_refl _); have y0 := Rec.cell hr 0; have y1 := Rec.cell hr 1; have y2 := Rec.cell hr 2; simp at y0 y1 y2; have f0 := Rec.frozen hr 0; have f1 := Rec.frozen hr 1; have f2 := Rec.frozen hr 2; have fl := Rec.lt hr; have HR8 := hid hr; clear hr)
                    rw [if_pos trivial] at HV
                    obtain ⟨hmy, hoy, hty, hly⟩ := deed_ok HS.out.may HS.out.safe (who := who) (n := Nl) (b := false) (by simpa using ECD.out) (by simpa using HV.out)
                    rw [HS.out.tot] at hty
                    rw [HS.out.len] at hly
                    have HIN := hid (in_store3 HY.out HFAR.out HL7.out HR8.out ⟨fun _ => by simp, fun _ => by simp, fun _ => by simp⟩ (.slice B0 m0 e0) (.slice B1 m1 e1) (.slice B2 m2 e2))
                    have hs3 : Rec (((w8.setCell ⟨bc, 0, none⟩ (.slice B0 m0 e0)).setCell ⟨bc, 1, none⟩ (.slice B1 m1 e1)).setCell ⟨bc, 2, none⟩ (.slice B2 m2 e2)) bc 25 #[.slice B0 m0 e0, .slice B1 m1 e1, .slice B2 m2 e2] := by
                      have := ((HR8.out.set 0 (.slice B0 m0 e0)).set 1 (.slice B1 m1 e1)).set 2 (.slice B2 m2 e2)
                      simpa using this
                    have hb9 : Below wo.heap.size wo (((w8.setCell ⟨bc, 0, none⟩ (.slice B0 m0 e0)).setCell ⟨bc, 1, none⟩ (.slice B1 m1 e1)).setCell ⟨bc, 2, none⟩ (.slice B2 m2 e2)) :=
                      (((H7.out.trans (HB8.out.mono H7.out.size)).setCell (p := ⟨bc, 0, none⟩) HBC.out _).setCell (p := ⟨bc, 1, none⟩) HBC.out _).setCell (p := ⟨bc, 2, none⟩) HBC.out _
                    obtain ⟨w9, ew9⟩ : ∃ W, W = (((w8.setCell ⟨bc, 0, none⟩ (.slice B0 m0 e0)).setCell ⟨bc, 1, none⟩ (.slice B1 m1 e1)).setCell ⟨bc, 2, none⟩ (.slice B2 m2 e2)) := ⟨_, rfl⟩
                    rw [← ew9] at HIN hs3 hb9 ⊢
                    have HS3 := hid hs3
                    have H9 := hid hb9
                    have HMY := hid hmy
                    have HOY := hid hoy
                    have HTY := hid hty
                    have HLY := hid hly
                    have PO2 := hid (fun W (hb : Below w9.heap.size w9 W) => EV.out ▸ Order_any y (sm_of_may hmy) W (HIN.out.below hb))
                    have PT2 := hid (fun W (hb : Below w9.heap.size w9 W) => EV.out ▸ total_any y _ _ (Bk.Ok.of hmy) W (HIN.out.below hb))
                    rw [hty, hly] at PT2
                    have CB := hid (fun W (hb : Below w9.heap.size w9 W) => (show W.cell? ⟨bc, 0, none⟩ = some (.slice B0 m0 e0) ∧ W.cell? ⟨bc, 1, none⟩ = some (.slice B1 m1 e1) ∧ W.cell? ⟨bc, 2, none⟩ = some (.slice B2 m2 e2) by
                      have hr := HS3.out.below hb (Nat.le_refl _)
                      exact ⟨by rw [Rec.cell hr]; rfl, by rw [Rec.cell hr]; rfl, by rw [Rec.cell hr]; rfl⟩))
                    clear ew9 hs3 hb9 hmy hty hly y0 y1 y2 f0 f1 f2 fl HR8 HC7 z0 z1 z2 hlb KK
                    cases hoo : orderF y with
                    | none => exact absurd hoo hoy
                    | some lo2 =>
                      rw [hoo] at PO2
                      clear hoo hoy
                      obtain ⟨y0, y1, y2⟩ := CB.out w9 (Below.refl _ _)
                      go_upto_region 22 with (go_at_call 10; refine (PO2.out _ (Below.refl _ _)).mono ?_; rintro _ w10 ⟨Ap, dp, rfl, hb10, -⟩; have HB10 := hid hb10; clear hb10)
                      clear y0 y1 y2
                      obtain ⟨y0, y1, y2⟩ := CB.out w10 HB10.out
                      have H10 := hid (H9.out.trans (HB10.out.mono H9.out.size))
                      have SUM := hid (fun W (hb : Below wo.heap.size wo W) => Cells.of_own ((HS.out.far hb).sum))
                      go_upto_region 24 with (first | (go_at_call 20; refine (PT2.out _ HB10.out).mono ?_; rintro _ w11 ⟨At, dt, rfl, hb11, ho11⟩; have HB11 := hid hb11; have HO11 := hid (Cells.of_own ho11); clear hb11 ho11; have H11 := hid (H10.out.trans (HB11.out.mono H10.out.size)); have PI := hid (ints_same At As dt cs' nF S SLEN.out (by omega) w11 HO11.out (SUM.out w11 H11.out))) | (go_at_call 19; refine PI.out.mono ?_; rintro _ _ ⟨rfl, x12, rfl⟩))
                      obtain ⟨w12, ew12⟩ : ∃ W, W = w11.past x12 := ⟨_, rfl⟩
                      have HB12 := hid (show Below w9.heap.size w9 w12 by rw [ew12]; exact HB10.out.trans ((RowKit.Below.past HB11.out x12).mono HB10.out.size))
                      rw [← ew12]
                      have H12 := hid (H9.out.trans (HB12.out.mono H9.out.size))
                      clear ew12 y0 y1 y2
                      obtain ⟨y0, y1, y2⟩ := CB.out w12 HB12.out
                      have hbx := (HS.out.far H12.out).box
                      have z0 := Rec.cell hbx 0
                      have z1 := Rec.cell hbx 1
                      have z2 := Rec.cell hbx 2
                      simp at z0 z1 z2
                      have f0 := Rec.frozen hbx 0
                      have f1 := Rec.frozen hbx 1
                      have f2 := Rec.frozen hbx 2
                      have fl := Rec.lt hbx
                      have HIN2 := hid (in_store3 (HIN.out.below HB12.out) HFAR.out HLB7.out hbx ⟨fun _ => by simp, fun _ => by simp, fun _ => by simp⟩ (.slice B0 m0 e0) (.slice B1 m1 e1) (.slice B2 m2 e2))
                      have HNX : Hid (SfW w (((w12.setCell ⟨w.heap.size, 0, none⟩ (.slice B0 m0 e0)).setCell ⟨w.heap.size, 1, none⟩ (.slice B1 m1 e1)).setCell ⟨w.heap.size, 2, none⟩ (.slice B2 m2 e2)) w.heap.size nF B0 m0 e0 B1 m1 e1 B2 m2 e2 y (.slice As nF cs') S) := hid (by
                        have hb := HS.out.below.trans (H12.out.mono HS.out.below.size)
                        have hsm := (HS.out.far H12.out).sum
                        refine ⟨((hb.setCell (p := ⟨w.heap.size, 0, none⟩) (Nat.le_refl _) _).setCell (p := ⟨w.heap.size, 1, none⟩) (Nat.le_refl _) _).setCell (p := ⟨w.heap.size, 2, none⟩) (Nat.le_refl _) _, ?_, EV.out, HIN2.out, own_setB (own_setB (own_setB hsm hbx (by decide) 0 _) (hbx.set 0 _) (by decide) 1 _) ((hbx.set 0 _).set 1 _) (by decide) 2 _, HMY.out, HOY.out, HTY.out, HLY.out⟩
                        have := ((hbx.set 0 (.slice B0 m0 e0)).set 1 (.slice B1 m1 e1)).set 2 (.slice B2 m2 e2)
                        simpa using this)
                      clear HS HIN HIN2 hbx PO2 PT2 PI CB SUM
                      go_wp2_with fail
                      go_roundw
                      case rel => exact ⟨q + 1, _, _, _, _, _, _, _, _, _, y, by go_num, by omega, HNX⟩
                      case measure => simp [intOf]; omega
                  · have hc1 : (cd == 0) = false := by simpa using hcd
                    have hc2 : (cd != 0) = true := by simpa using hcd
                    go_upto_region 18 with (go_at_call 12; refine (KK.out _ H7.out).mono ?_; rintro _ w8 ⟨y, rfl, hb8, hy, hv, hfar⟩; obtain ⟨B0, m0, e0, B1, m1, e1, B2, m2, e2, ev⟩ : ∃ A0 n0 d0 A1 n1 d1 A2 n2 d2, y.cs = #[.slice A0 n0 d0, .slice A1 n1 d1, .slice A2 n2 d2] := ⟨_, _, _, _, _, _, _, _, _, rfl⟩; rw [ev]; have HV := hid hv; have EV := hid ev; have HB8 := hid hb8; clear hb8 hy hv ev hfar; have hr := HC7.out.below HB8.out (Nat.le_refl _); have y0 := Rec.cell hr 0; have y1 := Rec.cell hr 1; have y2 := Rec.cell hr 2; simp at y0 y1 y2; have f0 := Rec.frozen hr 0; have f1 := Rec.frozen hr 1; have f2 := Rec.frozen hr 2; have fl := Rec.lt hr; have HR8 := hid hr; clear hr)
                    rw [if_neg hcd] at HV
                    obtain rfl : m0 = 0 := by
                      have h1 := EV.out
                      unfold Bk.cs at h1
                      simp only [Array.mk.injEq, List.cons.injEq, Value.slice.injEq] at h1
                      have h2 := HV.out.f
                      have h3 : nilB.F.2.2 = [] := rfl
                      rw [h3] at h2
                      rw [h2] at h1
                      simpa using h1.1.2.1.symm
                    have hs3 : Rec (((w8.setCell ⟨bc, 0, none⟩ (.slice B0 0 e0)).setCell ⟨bc, 1, none⟩ (.slice B1 m1 e1)).setCell ⟨bc, 2, none⟩ (.slice B2 m2 e2)) bc 25 #[.slice B0 0 e0, .slice B1 m1 e1, .slice B2 m2 e2] := by
                      have := ((HR8.out.set 0 (.slice B0 0 e0)).set 1 (.slice B1 m1 e1)).set 2 (.slice B2 m2 e2)
                      simpa using this
                    have hb9 : Below wo.heap.size wo (((w8.setCell ⟨bc, 0, none⟩ (.slice B0 0 e0)).setCell ⟨bc, 1, none⟩ (.slice B1 m1 e1)).setCell ⟨bc, 2, none⟩ (.slice B2 m2 e2)) :=
                      (((H7.out.trans (HB8.out.mono H7.out.size)).setCell (p := ⟨bc, 0, none⟩) HBC.out _).setCell (p := ⟨bc, 1, none⟩) HBC.out _).setCell (p := ⟨bc, 2, none⟩) HBC.out _
                    obtain ⟨w9, ew9⟩ : ∃ W, W = (((w8.setCell ⟨bc, 0, none⟩ (.slice B0 0 e0)).setCell ⟨bc, 1, none⟩ (.slice B1 m1 e1)).setCell ⟨bc, 2, none⟩ (.slice B2 m2 e2)) := ⟨_, rfl⟩
                    rw [← ew9] at hs3 hb9 ⊢
                    have g0 := Rec.cell hs3 0
                    simp at g0
                    have HNX := hid (HS.out.far hb9)
                    clear ew9 hs3 hb9 y0 y1 y2 f0 f1 f2 fl HR8 HC7 z0 z1 z2 hlb KK
                    go_wp2_with fail
                    go_roundw
                    case rel => exact ⟨q + 1, _, _, _, _, _, _, _, _, _, cur, by go_num, by omega, HNX⟩
                    case measure => simp [intOf]; omega
            · obtain rfl : m = q := by omega
              have PS := hid (fun W (hb : Below wo.heap.size wo W) => HS.out.cs ▸ stuck_nil HS.out.may HS.out.safe ▸ Stuck_any cur (sm_of_may HS.out.may) W (HS.out.inn.below hb))
              go_wp2_with (go_at_call 11; refine (PS.out _ (Below.refl _ _)).mono ?_; rintro _ w8 ⟨A8, c8, rfl, hb8, -⟩; have HB8 := hid hb8; clear hb8)
              go_ret
              exact Gives.mk rfl (HS.out.below.trans (HB8.out.mono HS.out.below.size))
theorem cs_deed : Try.prog.cellsOf 44 = 3 := by kernel_rfl
theorem cs_i : Try.prog.cellsOf 3 = 1 := by kernel_rfl
theorem cs_b : Try.prog.cellsOf 4 = 1 := by kernel_rfl
theorem rd_deeds {H : Type} {enc : TypeId × Value → H} {W : World} {v : Value} (h : Rd enc Try.prog W 42 [v]) : ∃ (A : Option Addr) (c : Nat) (l : List De), v = .slice A l.length c ∧ Dees W A l ∧ l.length ≤ maxLen := by
  obtain ⟨A, c, l, e, hc, hk, hl⟩ := rd_tab (K := fun d : De => Cells W d.r.1 (i64s d.r.2.2) ∧ d.r.2.2.length ≤ maxLen) deV_length (by omega) h Try.underlying42 cs_deed (fun cs hr => by
    have hr' : Rd enc Try.prog W 44 cs.toArray.toList := by simpa using hr
    obtain ⟨v0, v1, v2, e⟩ := cs_three (hr'.len_struct Try.underlying44 cs_deed)
    rw [e] at hr'
    obtain ⟨b, eb⟩ := Rd.bool (hr'.field Try.underlying44 0 4 0 1 rfl cs_b) Try.underlying4
    obtain ⟨who, ew, -⟩ := Rd.int (hr'.field Try.underlying44 1 3 1 1 rfl cs_i) Try.underlying3
    obtain ⟨A2, c2, l2, e2, h2, _, hl2⟩ := rd_i64s (hr'.field Try.underlying44 2 22 2 1 rfl cs_row)
    simp at eb ew
    subst eb; subst ew; subst e2
    exact ⟨⟨b, who, (A2, c2, l2)⟩, by simpa [deV] using e, h2, hl2⟩)
  exact ⟨A, c, l, e, ⟨hc, hk⟩, hl⟩
theorem bankSafe_own : ownKnob Try.prog.godebug = none := by kernel_rfl
theorem bankSafe_laidOut : laidOutB Try.prog = true := by kernel_rfl
theorem bankSafe_types : ∀ t ∈ Try.f6.params.toList, Try.prog.readableRec t = true ∧ t < Try.prog.types.size := by
  rw [Try.params6]
  intro t ht
  simp only [List.mem_cons, List.not_mem_nil, or_false] at ht
  rcases ht with rfl | rfl
  · exact ⟨by kernel_rfl, of_decide_eq_true (by kernel_rfl)⟩
  · exact ⟨by kernel_rfl, of_decide_eq_true (by kernel_rfl)⟩
set_option maxRecDepth 100000 in
theorem bankSafe_lifted (os : Os) (started : os.Started) (H : Type) (enc : TypeId × Value → H) :
    ReturnsInHanded {} Try.checked os 6 .any (Rows.bankSafeSpec.pre6 enc Try.prog Try.f6 Rows.bankSafeRow.domain false) (Rows.bankSafeSpec.post enc Try.prog Try.f6 false true false false) := by
  refine returnsInHanded_of_change (C := Try.checked) bankSafe_own started (by kernel_rfl) Try.func6
    (ChangeSpec.witness6 (enc := enc) (C := Try.checked) false ⟨#[], #[.agg #[.slice none 0 0, .slice none 0 0, .slice none 0 0], .slice none 0 0], []⟩ 8 (by kernel_rfl) (by kernel_rfl) (by kernel_rfl) (by kernel_rfl)) ?_
  intro W base args ds gs before hval0 hW hcnd _
  have hval : ∀ (j : Nat) t v, Try.f6.params[j]? = some t → args[j]? = some v → Value.okWide Try.prog W .any base t v := hval0
  have hW' := hW
  obtain ⟨p, q, hA0, hV, hpq, hfz, hnd⟩ := hW
  have hA : DataW.TrodAll enc Try.prog W 0 (fun _ => true) true Try.f6.params.toList args.toList ds p := hA0
  rw [Try.params6] at hA hval
  obtain ⟨v0, vs0, d0, ds0, p0, q0, hargs, rfl, rfl, h0, r0⟩ := trodAll_cons hA
  obtain ⟨v1, vs1, d1, ds1, p1, q1, rfl, rfl, rfl, h1, r1⟩ := trodAll_cons r0
  obtain ⟨rfl, rfl, rfl⟩ := trodAll_nil r1
  obtain rfl : args = #[v0, v1] := by cases args; simp_all
  have k0 := hval 0 25 v0 rfl rfl
  have k1 := hval 1 42 v1 rfl rfl
  clear hA0 hval0 hval hcnd hfz hnd hpq hV hargs r1
  suffices hs : Calls Try.prog 6 #[v0, v1] W (Gives (.bool true) W) from hs.mono fun e W' ⟨he, x, hx⟩ => ⟨_, he, law_post bankSafe_laidOut hW' rfl rfl (by kernel_rfl) (by first | exact Try.underlying4 | rfl) bankSafe_types (hx ▸ W.below_past x)⟩
  clear hW'
  obtain ⟨c0, rfl, g0⟩ := rd_agg (.inl ⟨_, Try.underlying25⟩) k0 h0
  obtain ⟨x, rfl, hx⟩ := rd_bank g0
  obtain ⟨A, ca, l, rfl, hd, hl⟩ := rd_deeds (rd_slice Try.underlying42 k1 h1)
  exact BankSafe_any x A ca _ l rfl hl W hx hd
theorem bankSafe_holds : Rows.BankSafeSaid :=
  OpenClaim.holds_of_wide 6 Try.f6 rfl rfl rfl rfl rfl rfl rfl ⟨rfl, rfl, rfl, rfl, rfl⟩ rfl rfl rfl rfl rfl (by kernel_rfl) Try.func6 (by kernel_rfl)
    (of_decide_eq_true (by kernel_rfl)) (by unfold Func.isWrapper; first | (rw [if_pos (by decide +kernel)]; kernel_rfl) | (rw [if_neg (by decide +kernel)]; exact ⟨rfl, rfl⟩))
    (fun os started H enc _ => bankSafe_lifted os started H enc)
end Go.Proofs.Ytddngloojacceaa
