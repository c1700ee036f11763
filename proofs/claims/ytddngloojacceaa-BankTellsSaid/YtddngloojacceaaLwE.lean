/-
  Layer 44's BankTells: of any bank the order, who is stuck, and what comes of asking and giving back, is the document's. No condition.
-/
import Derived.Test.YtddngloojacceaaLwD
namespace Go.Proofs.Ytddngloojacceaa
open Go.RowKit Go.Shelf Go.ChangeShapes Go.WideShapes Go.ChangeAt
open Go
attribute [local go_sem] Oper.semAt_some
set_option maxRecDepth 100000 in
set_option maxHeartbeats 8000000 in
theorem tells_left (x : Bk) (who : Int) (A : Option Addr) (ca m : Nat) (n : List Int) (em : n.length = m) (hm : m ≤ maxLen) (hmay : mayB x = true) (hord : 0 < (stuckK (servedF x) x.H.length).length) (w : World) (hx : x.In w) (ha : Cells w A (i64s n)) :
    Calls Try.prog 5 #[.agg x.cs, .int .i64 who, .slice A m ca] w (Gives (.bool true) w) := by
  obtain ⟨w1, ew1⟩ : ∃ w1, w1 = w.alloc (.cells x.cs 25) := ⟨_, rfl⟩
  have hb1 : Below w.heap.size w w1 := by rw [ew1]; exact (Below.refl _ w).alloc (Nat.le_refl _) _
  have hrec : Rec w1 w.heap.size 25 x.cs := by rw [ew1]; exact Rec.new w _ _
  obtain ⟨F, eF⟩ : ∃ F, x.F.1 = F := ⟨_, rfl⟩
  obtain ⟨nF, enF⟩ : ∃ F, x.F.2.2.length = F := ⟨_, rfl⟩
  obtain ⟨nh, enh⟩ : ∃ F, x.H.length = F := ⟨_, rfl⟩
  obtain ⟨nm, enm⟩ : ∃ F, x.M.length = F := ⟨_, rfl⟩
  have hcs : x.cs = #[.slice F nF x.F.2.1, .slice x.AH nh x.cH, .slice x.AM nm x.cM] := by unfold Bk.cs; rw [eF, enF, enh, enm]
  have hX := hx.below hb1
  have hA := ha.below hb1
  rw [hcs] at ew1 ⊢
  have BX := hid (fun W (h : Below w1.heap.size w1 W) => (show W.cell? ⟨w.heap.size, 0, none⟩ = some (.slice F nF x.F.2.1) ∧ W.cell? ⟨w.heap.size, 1, none⟩ = some (.slice x.AH nh x.cH) ∧ W.cell? ⟨w.heap.size, 2, none⟩ = some (.slice x.AM nm x.cM) ∧ w.heap.size < W.heap.size by
    have hr := hrec.below h (Nat.le_refl _)
    rw [hcs] at hr
    exact ⟨by rw [Rec.cell hr]; rfl, by rw [Rec.cell hr]; rfl, by rw [Rec.cell hr]; rfl, Rec.lt hr⟩))
  have PSM := hid (fun W (h : Below w1.heap.size w1 W) => hcs ▸ small_any x W (hX.below h))
  have PO := hid (fun (hs : x.Sm) W (h : Below w1.heap.size w1 W) => hcs ▸ Order_any x hs W (hX.below h))
  have PST := hid (fun (hs : x.Sm) W (h : Below w1.heap.size w1 W) => hcs ▸ Stuck_any x hs W (hX.below h))
  have PA := hid (fun (hs : x.Sm) (hm : m ≤ 1000000) W (h : Below w1.heap.size w1 W) => hcs ▸ Ask_any x hs who A ca m n em hm W (hX.below h) (hA.below h))
  have PG := hid (fun (hs : x.Sm) (hm : m ≤ 1000000) W (h : Below w1.heap.size w1 W) => hcs ▸ Give_any x hs who A ca m n em hm W (hX.below h) (hA.below h))
  have PRA := hid (fun (hs : x.Sm) (hm : m ≤ 1000000) W (h : Below w1.heap.size w1 W) => hcs ▸ rAsk_any x hs who A ca m n em hm W (hX.below h) (hA.below h))
  have PRG := hid (fun (hs : x.Sm) (hm : m ≤ 1000000) W (h : Below w1.heap.size w1 W) => hcs ▸ rGive_any x hs who A ca m n em hm W (hX.below h) (hA.below h))
  have PM := hid (fun (hs : x.Sm) W (h : Below w1.heap.size w1 W) => hcs ▸ May_any x hs.1 hs.2.2 W (hX.below h))
  have PRM := hid (fun (hs : x.Sm) W (h : Below w1.heap.size w1 W) => hcs ▸ RMay_any x hs.1 hs.2.2 W (hX.below h))
  have HORD := hid ((orderF_none hmay).2 hord)
  have hsv : ∀ W (h : Below w1.heap.size w1 W), Calls Try.prog 18 #[.agg x.cs] W (ServeP (servedF x) (stuckK (servedF x) x.H.length) W) := fun W h => rServe_any x _ _ (Bk.Ok.of hmay) W (hX.below h)
  have h8 : x.H.length ≤ 8 := (Bk.Ok.of hmay).h8
  have hsl : (servedF x).length ≤ 8 := Nat.le_trans (served_length x) h8
  have hll : (stuckK (servedF x) x.H.length).length ≤ 8 := Nat.le_trans (stuckK_length _ _) h8
  have hst : stuckF x = stuckK (servedF x) x.H.length := by unfold stuckF; rw [if_pos hmay]; rfl
  obtain ⟨L, eL⟩ : ∃ L, stuckK (servedF x) x.H.length = L := ⟨_, rfl⟩
  obtain ⟨S, eS⟩ : ∃ S, servedF x = S := ⟨_, rfl⟩
  rw [hst, eL] at PST
  rw [eL] at hll
  rw [eS] at hsl
  rw [hcs] at hsv
  simp only [eL] at hsv
  simp only [eS] at hsv
  have HSV := hid hsv
  have HSL := hid hsl
  have HLL := hid hll
  have HMAY := hid hmay
  rw [eL] at hord
  have HLP := hid hord
  clear hmay hord hsv h8 hsl hll hst eL eS
  have EW1 := hid ew1
  have HB1 := hid hb1
  have HCS := hid hcs
  have B0 := BX.out _ (Below.refl _ w1)
  obtain ⟨z0, z1, z2, hlb⟩ := B0
  unfold maxLen at hm
  clear ew1 hb1 hrec hX hA hx ha em eF enF enh enm hcs
  go_enter Try.func5, Try.ntmps5
  go_upto_region 1 with (fail)
  rw [← EW1.out]
  clear EW1
  go_upto_region 3 with (go_at_call 7; refine (awake_any _).mono ?_; rintro _ _ ⟨rfl, x0, rfl⟩)
  obtain ⟨w2, ew2⟩ : ∃ w2, w2 = w1.past x0 := ⟨_, rfl⟩
  have H2 := hid (show Below w1.heap.size w1 w2 by rw [ew2]; exact w1.below_past x0)
  rw [← ew2]
  clear ew2 z0 z1 z2 hlb
  obtain ⟨z0, z1, z2, hlb⟩ := BX.out w2 H2.out
  go_wp2_with fail
  refine (PSM.out w2 H2.out).mono ?_
  rintro _ w3 ⟨b, rfl, hb3, hsm⟩
  have HSM := hid hsm
  have H3 := hid (H2.out.trans (hb3.mono H2.out.size))
  clear hb3 hsm z0 z1 z2 hlb
  obtain ⟨z0, z1, z2, hlb⟩ := BX.out w3 H3.out
  cases b with
  | false =>
    go_wp2_with fail
    go_ret
    exact Gives.mk rfl (HB1.out.trans (H3.out.mono HB1.out.size))
  | true =>
    have hsm := HSM.out rfl
    by_cases hm12 : 12 < m
    · go_wp2_with fail
      go_ret
      exact Gives.mk rfl (HB1.out.trans (H3.out.mono HB1.out.size))
    · have PO := hid (PO.out hsm)
      have PST := hid (PST.out hsm)
      have PA := hid (PA.out hsm (by omega))
      have PG := hid (PG.out hsm (by omega))
      have PRA := hid (PRA.out hsm (by omega))
      have PRG := hid (PRG.out hsm (by omega))
      have PM := hid (PM.out hsm)
      have PRM := hid (PRM.out hsm)
      have hsE : ∀ {y z c}, Eqv y (if c = (0 : Int) then z else nilB) → (c = 0 → z.Sm ∧ z.M.length ≤ 1000000) → y.Sm ∧ y.M.length ≤ 1000000 := fun {y z c} h hz => by
        by_cases hc : c = 0
        · rw [if_pos hc] at h
          exact ⟨h.sm (hz hc).1, by rw [h.ml]; exact (hz hc).2⟩
        · rw [if_neg hc] at h
          exact ⟨h.sm nilB_sm, by rw [h.ml]; simp [nilB]⟩
      have HSA := hid (fun (y : Bk) (h : Eqv y (if askE x who n = 0 then movedB x who.toNat n 1 else nilB)) => hsE h (fun hc => ask_sm hc))
      have HSG := hid (fun (y : Bk) (h : Eqv y (if giveE x who n = 0 then movedB x who.toNat n (-1) else nilB)) => hsE h (fun hc => give_sm hc))
      have HSM2 := hid hsm
      clear HSM hsm hsE PSM
      go_upto_region 6 with (go_at_call 10; refine (PO.out _ H3.out).mono ?_; rw [HORD.out]; rintro _ w4 ⟨rfl, hb4⟩; have HB4 := hid hb4; clear hb4)
      have H4 := hid (H3.out.trans (HB4.out.mono H3.out.size))
      clear z0 z1 z2 hlb
      obtain ⟨z0, z1, z2, hlb⟩ := BX.out w4 H4.out
      go_upto_region 7 with (go_at_call 11; refine (PST.out _ H4.out).mono ?_; rintro _ w5 ⟨As, ds, rfl, hb5, ho5⟩; have HB5 := hid hb5; have HO5 := hid ho5; clear hb5 ho5)
      have H5 := hid (H4.out.trans (HB5.out.mono H4.out.size))
      clear z0 z1 z2 hlb
      obtain ⟨z0, z1, z2, hlb⟩ := BX.out w5 H5.out
      go_upto_region 8 with (go_at_call 12; refine (PA.out _ H5.out).mono ?_; rintro _ v6 ⟨y6, rfl, hb6, hy6, hv6⟩; obtain ⟨A60, n60, d60, A61, n61, d61, A62, n62, d62, ev6⟩ : ∃ A0 n0 d0 A1 n1 d1 A2 n2 d2, y6.cs = #[.slice A0 n0 d0, .slice A1 n1 d1, .slice A2 n2 d2] := ⟨_, _, _, _, _, _, _, _, _, rfl⟩; rw [ev6]; have HV6 := hid hv6; have EV6 := hid ev6; have HB6 := hid hb6; have HY6 := hid hy6; clear hb6 hy6 hv6 ev6)
      obtain ⟨w6, ew6⟩ : ∃ W, W = v6.alloc (.cells #[.slice A60 n60 d60, .slice A61 n61 d61, .slice A62 n62 d62] 25) := ⟨_, rfl⟩
      have HR6 := hid (show Rec w6 v6.heap.size 25 #[.slice A60 n60 d60, .slice A61 n61 d61, .slice A62 n62 d62] by rw [ew6]; exact Rec.new v6 _ _)
      have HQ6 := hid (show Below v6.heap.size v6 w6 by rw [ew6]; exact (Below.refl _ v6).alloc (Nat.le_refl _) _)
      have HP6 := hid (HB6.out.trans (HQ6.out.mono HB6.out.size))
      have H6 := hid (H5.out.trans (HP6.out.mono H5.out.size))
      have HYY6 := hid (HY6.out.below HQ6.out)
      rw [← ew6]
      obtain ⟨b6, eb6⟩ : ∃ b, b = v6.heap.size := ⟨_, rfl⟩
      rw [← eb6] at HR6 ⊢
      clear ew6 eb6 HY6 HQ6 HB6 z0 z1 z2 hlb
      obtain ⟨z0, z1, z2, hlb⟩ := BX.out w6 H6.out
      go_upto_region 9 with (go_at_call 13; refine (PG.out _ H6.out).mono ?_; rintro _ v7 ⟨y7, rfl, hb7, hy7, hv7⟩; obtain ⟨A70, n70, d70, A71, n71, d71, A72, n72, d72, ev7⟩ : ∃ A0 n0 d0 A1 n1 d1 A2 n2 d2, y7.cs = #[.slice A0 n0 d0, .slice A1 n1 d1, .slice A2 n2 d2] := ⟨_, _, _, _, _, _, _, _, _, rfl⟩; rw [ev7]; have HV7 := hid hv7; have EV7 := hid ev7; have HB7 := hid hb7; have HY7 := hid hy7; clear hb7 hy7 hv7 ev7)
      obtain ⟨w7, ew7⟩ : ∃ W, W = v7.alloc (.cells #[.slice A70 n70 d70, .slice A71 n71 d71, .slice A72 n72 d72] 25) := ⟨_, rfl⟩
      have HR7 := hid (show Rec w7 v7.heap.size 25 #[.slice A70 n70 d70, .slice A71 n71 d71, .slice A72 n72 d72] by rw [ew7]; exact Rec.new v7 _ _)
      have HQ7 := hid (show Below v7.heap.size v7 w7 by rw [ew7]; exact (Below.refl _ v7).alloc (Nat.le_refl _) _)
      have HP7 := hid (HB7.out.trans (HQ7.out.mono HB7.out.size))
      have H7 := hid (H6.out.trans (HP7.out.mono H6.out.size))
      have HYY7 := hid (HY7.out.below HQ7.out)
      rw [← ew7]
      obtain ⟨b7, eb7⟩ : ∃ b, b = v7.heap.size := ⟨_, rfl⟩
      rw [← eb7] at HR7 ⊢
      clear ew7 eb7 HY7 HQ7 HB7 z0 z1 z2 hlb
      obtain ⟨z0, z1, z2, hlb⟩ := BX.out w7 H7.out
      go_upto_region 10 with (go_at_call 14; refine (PRA.out _ H7.out).mono ?_; rintro _ v8 ⟨y8, rfl, hb8, hy8, hv8⟩; obtain ⟨A80, n80, d80, A81, n81, d81, A82, n82, d82, ev8⟩ : ∃ A0 n0 d0 A1 n1 d1 A2 n2 d2, y8.cs = #[.slice A0 n0 d0, .slice A1 n1 d1, .slice A2 n2 d2] := ⟨_, _, _, _, _, _, _, _, _, rfl⟩; rw [ev8]; have HV8 := hid hv8; have EV8 := hid ev8; have HB8 := hid hb8; have HY8 := hid hy8; clear hb8 hy8 hv8 ev8)
      obtain ⟨w8, ew8⟩ : ∃ W, W = v8.alloc (.cells #[.slice A80 n80 d80, .slice A81 n81 d81, .slice A82 n82 d82] 25) := ⟨_, rfl⟩
      have HR8 := hid (show Rec w8 v8.heap.size 25 #[.slice A80 n80 d80, .slice A81 n81 d81, .slice A82 n82 d82] by rw [ew8]; exact Rec.new v8 _ _)
      have HQ8 := hid (show Below v8.heap.size v8 w8 by rw [ew8]; exact (Below.refl _ v8).alloc (Nat.le_refl _) _)
      have HP8 := hid (HB8.out.trans (HQ8.out.mono HB8.out.size))
      have H8 := hid (H7.out.trans (HP8.out.mono H7.out.size))
      have HYY8 := hid (HY8.out.below HQ8.out)
      rw [← ew8]
      obtain ⟨b8, eb8⟩ : ∃ b, b = v8.heap.size := ⟨_, rfl⟩
      rw [← eb8] at HR8 ⊢
      clear ew8 eb8 HY8 HQ8 HB8 z0 z1 z2 hlb
      obtain ⟨z0, z1, z2, hlb⟩ := BX.out w8 H8.out
      go_upto_region 11 with (go_at_call 15; refine (PRG.out _ H8.out).mono ?_; rintro _ v9 ⟨y9, rfl, hb9, hy9, hv9⟩; obtain ⟨A90, n90, d90, A91, n91, d91, A92, n92, d92, ev9⟩ : ∃ A0 n0 d0 A1 n1 d1 A2 n2 d2, y9.cs = #[.slice A0 n0 d0, .slice A1 n1 d1, .slice A2 n2 d2] := ⟨_, _, _, _, _, _, _, _, _, rfl⟩; rw [ev9]; have HV9 := hid hv9; have EV9 := hid ev9; have HB9 := hid hb9; have HY9 := hid hy9; clear hb9 hy9 hv9 ev9)
      obtain ⟨w9, ew9⟩ : ∃ W, W = v9.alloc (.cells #[.slice A90 n90 d90, .slice A91 n91 d91, .slice A92 n92 d92] 25) := ⟨_, rfl⟩
      have HR9 := hid (show Rec w9 v9.heap.size 25 #[.slice A90 n90 d90, .slice A91 n91 d91, .slice A92 n92 d92] by rw [ew9]; exact Rec.new v9 _ _)
      have HQ9 := hid (show Below v9.heap.size v9 w9 by rw [ew9]; exact (Below.refl _ v9).alloc (Nat.le_refl _) _)
      have HP9 := hid (HB9.out.trans (HQ9.out.mono HB9.out.size))
      have H9 := hid (H8.out.trans (HP9.out.mono H8.out.size))
      have HYY9 := hid (HY9.out.below HQ9.out)
      rw [← ew9]
      obtain ⟨b9, eb9⟩ : ∃ b, b = v9.heap.size := ⟨_, rfl⟩
      rw [← eb9] at HR9 ⊢
      clear ew9 eb9 HY9 HQ9 HB9 z0 z1 z2 hlb
      obtain ⟨z0, z1, z2, hlb⟩ := BX.out w9 H9.out
      have R6 := HR6.out.below (HP7.out.trans ((HP8.out.trans (HP9.out.mono HP8.out.size)).mono HP7.out.size)) (Nat.le_refl _)
      have R7 := HR7.out.below (HP8.out.trans (HP9.out.mono HP8.out.size)) (Nat.le_refl _)
      have R8 := HR8.out.below HP9.out (Nat.le_refl _)
      have R9 := HR9.out
      have I6 := HYY6.out.below (HP7.out.trans ((HP8.out.trans (HP9.out.mono HP8.out.size)).mono HP7.out.size))
      have I7 := HYY7.out.below (HP8.out.trans (HP9.out.mono HP8.out.size))
      have I8 := HYY8.out.below HP9.out
      have I9 := HYY9.out
      have S1 := hid (fun y : Past => EV6.out ▸ EV8.out ▸ rSame_any y6 y8 (HV6.out.trans HV8.out.symm) (HSA.out _ HV6.out).1 (HSA.out _ HV6.out).2 (w9.past y) (I6.below (w9.below_past y)) (I8.below (w9.below_past y)))
      have S2 := hid (fun y : Past => EV7.out ▸ EV9.out ▸ rSame_any y7 y9 (HV7.out.trans HV9.out.symm) (HSG.out _ HV7.out).1 (HSG.out _ HV7.out).2 (w9.past y) (I7.below (w9.below_past y)) (I9.below (w9.below_past y)))
      have M1 := hid (fun y : Past => PM.out (w9.past y) (H9.out.trans ((w9.below_past y).mono H9.out.size)))
      have M2 := hid (fun y : Past => PRM.out (w9.past y) (H9.out.trans ((w9.below_past y).mono H9.out.size)))
      rw [HMAY.out] at M1 M2
      have p60 := Rec.cell R6 0
      have p61 := Rec.cell R6 1
      have p62 := Rec.cell R6 2
      have p70 := Rec.cell R7 0
      have p71 := Rec.cell R7 1
      have p72 := Rec.cell R7 2
      have p80 := Rec.cell R8 0
      have p81 := Rec.cell R8 1
      have p82 := Rec.cell R8 2
      have p90 := Rec.cell R9 0
      have p91 := Rec.cell R9 1
      have p92 := Rec.cell R9 2
      simp at p60 p61 p62 p70 p71 p72 p80 p81 p82 p90 p91 p92
      clear R6 R7 R8 R9 I6 I7 I8 I9 PA PG PRA PRG PM PRM PO PST
      go_wp2_with fail
      refine wp_region_past (by kernel_rfl) (by kernel_rfl) ?_
      repeat (go_big_quiet_step ((first | (go_at_call 16; first | with_reducible exact Calls.in_past (M1.out _) | with_reducible exact Calls.in_past2 (M1.out _)) | (go_at_call 9; first | with_reducible exact Calls.in_past (M2.out _) | with_reducible exact Calls.in_past2 (M2.out _)) | (go_at_call 17; first | with_reducible exact Calls.in_past (S1.out _) | with_reducible exact Calls.in_past2 (S1.out _)) | (go_at_call 17; first | with_reducible exact Calls.in_past (S2.out _) | with_reducible exact Calls.in_past2 (S2.out _)) | (go_at_call 16; first | exact Calls.in_past (M1.out _) | exact Calls.in_past2 (M1.out _)) | (go_at_call 9; first | exact Calls.in_past (M2.out _) | exact Calls.in_past2 (M2.out _)) | (go_at_call 17; first | exact Calls.in_past (S1.out _) | exact Calls.in_past2 (S1.out _)) | (go_at_call 17; first | exact Calls.in_past (S2.out _) | exact Calls.in_past2 (S2.out _)))))
      refine wpQuiet_nil ?_
      rintro _ ⟨_, rfl⟩
      have H59 := hid (HP6.out.trans ((HP7.out.trans ((HP8.out.trans (HP9.out.mono HP8.out.size)).mono HP7.out.size)).mono HP6.out.size))
      have HCS9 := hid ((Cells.of_own HO5.out).below H59.out)
      obtain ⟨nl, enl⟩ : ∃ k, L.length = k := ⟨_, rfl⟩
      have HP0 := HLP.out
      have hle := HLL.out
      rw [enl] at HP0 hle ⊢
      have ENL := hid enl
      clear enl
      go_upto_region 16 with (first | (go_at_call 9; refine (M2.out _).mono ?_; rintro _ _ ⟨rfl, x9, rfl⟩) | (go_at_call 18; refine (HSV.out _ (H9.out.trans ((w9.below_past _).mono H9.out.size))).mono ?_; rintro _ wS ⟨Aa, da, Al, dl, rfl, hbS, hoa, hol⟩; have HBS := hid ((w9.below_past _).trans (hbS.mono (w9.below_past _).size)); have HOA := hid (Cells.of_own hoa); have HOL := hid (Cells.of_own hol); clear hbS hoa hol; rw [ENL.out]))
      have HS9 := hid (H9.out.trans (HBS.out.mono H9.out.size))
      have PI := hid (ints_same As Al ds dl nl L ENL.out (by omega) wS (HCS9.out.below HBS.out) HOL.out)
      go_wp2_with (go_at_call 19; refine PI.out.mono ?_; rintro _ _ ⟨rfl, x10, rfl⟩)
      go_ret
      refine Gives.mk rfl ?_
      exact HB1.out.trans ((HS9.out.trans ((wS.below_past _).mono HS9.out.size)).mono HB1.out.size)
set_option maxRecDepth 100000 in
set_option maxHeartbeats 8000000 in
theorem tells_all (x : Bk) (who : Int) (A : Option Addr) (ca m : Nat) (n : List Int) (em : n.length = m) (hm : m ≤ maxLen) (hmay : mayB x = true) (hord : (stuckK (servedF x) x.H.length).length = 0) (w : World) (hx : x.In w) (ha : Cells w A (i64s n)) :
    Calls Try.prog 5 #[.agg x.cs, .int .i64 who, .slice A m ca] w (Gives (.bool true) w) := by
  obtain ⟨w1, ew1⟩ : ∃ w1, w1 = w.alloc (.cells x.cs 25) := ⟨_, rfl⟩
  have hb1 : Below w.heap.size w w1 := by rw [ew1]; exact (Below.refl _ w).alloc (Nat.le_refl _) _
  have hrec : Rec w1 w.heap.size 25 x.cs := by rw [ew1]; exact Rec.new w _ _
  obtain ⟨F, eF⟩ : ∃ F, x.F.1 = F := ⟨_, rfl⟩
  obtain ⟨nF, enF⟩ : ∃ F, x.F.2.2.length = F := ⟨_, rfl⟩
  obtain ⟨nh, enh⟩ : ∃ F, x.H.length = F := ⟨_, rfl⟩
  obtain ⟨nm, enm⟩ : ∃ F, x.M.length = F := ⟨_, rfl⟩
  have hcs : x.cs = #[.slice F nF x.F.2.1, .slice x.AH nh x.cH, .slice x.AM nm x.cM] := by unfold Bk.cs; rw [eF, enF, enh, enm]
  have hX := hx.below hb1
  have hA := ha.below hb1
  rw [hcs] at ew1 ⊢
  have BX := hid (fun W (h : Below w1.heap.size w1 W) => (show W.cell? ⟨w.heap.size, 0, none⟩ = some (.slice F nF x.F.2.1) ∧ W.cell? ⟨w.heap.size, 1, none⟩ = some (.slice x.AH nh x.cH) ∧ W.cell? ⟨w.heap.size, 2, none⟩ = some (.slice x.AM nm x.cM) ∧ w.heap.size < W.heap.size by
    have hr := hrec.below h (Nat.le_refl _)
    rw [hcs] at hr
    exact ⟨by rw [Rec.cell hr]; rfl, by rw [Rec.cell hr]; rfl, by rw [Rec.cell hr]; rfl, Rec.lt hr⟩))
  have PSM := hid (fun W (h : Below w1.heap.size w1 W) => hcs ▸ small_any x W (hX.below h))
  have PO := hid (fun (hs : x.Sm) W (h : Below w1.heap.size w1 W) => hcs ▸ Order_any x hs W (hX.below h))
  have PST := hid (fun (hs : x.Sm) W (h : Below w1.heap.size w1 W) => hcs ▸ Stuck_any x hs W (hX.below h))
  have PA := hid (fun (hs : x.Sm) (hm : m ≤ 1000000) W (h : Below w1.heap.size w1 W) => hcs ▸ Ask_any x hs who A ca m n em hm W (hX.below h) (hA.below h))
  have PG := hid (fun (hs : x.Sm) (hm : m ≤ 1000000) W (h : Below w1.heap.size w1 W) => hcs ▸ Give_any x hs who A ca m n em hm W (hX.below h) (hA.below h))
  have PRA := hid (fun (hs : x.Sm) (hm : m ≤ 1000000) W (h : Below w1.heap.size w1 W) => hcs ▸ rAsk_any x hs who A ca m n em hm W (hX.below h) (hA.below h))
  have PRG := hid (fun (hs : x.Sm) (hm : m ≤ 1000000) W (h : Below w1.heap.size w1 W) => hcs ▸ rGive_any x hs who A ca m n em hm W (hX.below h) (hA.below h))
  have PM := hid (fun (hs : x.Sm) W (h : Below w1.heap.size w1 W) => hcs ▸ May_any x hs.1 hs.2.2 W (hX.below h))
  have PRM := hid (fun (hs : x.Sm) W (h : Below w1.heap.size w1 W) => hcs ▸ RMay_any x hs.1 hs.2.2 W (hX.below h))
  have hof : orderF x = some (servedF x) := by
    cases h : orderF x with
    | none => have := (orderF_none hmay).1 h; omega
    | some l => unfold orderF at h; split at h; exact h.symm; cases h
  have hsv : ∀ W (h : Below w1.heap.size w1 W), Calls Try.prog 18 #[.agg x.cs] W (ServeP (servedF x) (stuckK (servedF x) x.H.length) W) := fun W h => rServe_any x _ _ (Bk.Ok.of hmay) W (hX.below h)
  have h8 : x.H.length ≤ 8 := (Bk.Ok.of hmay).h8
  have hsl : (servedF x).length ≤ 8 := Nat.le_trans (served_length x) h8
  have hll : (stuckK (servedF x) x.H.length).length ≤ 8 := Nat.le_trans (stuckK_length _ _) h8
  have hst : stuckF x = stuckK (servedF x) x.H.length := by unfold stuckF; rw [if_pos hmay]; rfl
  obtain ⟨L, eL⟩ : ∃ L, stuckK (servedF x) x.H.length = L := ⟨_, rfl⟩
  obtain ⟨S, eS⟩ : ∃ S, servedF x = S := ⟨_, rfl⟩
  rw [hst, eL] at PST
  rw [eL] at hll
  rw [eS] at hsl
  rw [hcs] at hsv
  simp only [eL] at hsv
  simp only [eS] at hsv
  have HSV := hid hsv
  have HSL := hid hsl
  have HLL := hid hll
  have HMAY := hid hmay
  rw [eL] at hord
  rw [eS] at hof
  have HORD := hid hof
  have HLP := hid hord
  clear hmay hord hsv h8 hsl hll hst eL eS hof
  have EW1 := hid ew1
  have HB1 := hid hb1
  have HCS := hid hcs
  have B0 := BX.out _ (Below.refl _ w1)
  obtain ⟨z0, z1, z2, hlb⟩ := B0
  unfold maxLen at hm
  clear ew1 hb1 hrec hX hA hx ha em eF enF enh enm hcs
  go_enter Try.func5, Try.ntmps5
  go_upto_region 1 with (fail)
  rw [← EW1.out]
  clear EW1
  go_upto_region 3 with (go_at_call 7; refine (awake_any _).mono ?_; rintro _ _ ⟨rfl, x0, rfl⟩)
  obtain ⟨w2, ew2⟩ : ∃ w2, w2 = w1.past x0 := ⟨_, rfl⟩
  have H2 := hid (show Below w1.heap.size w1 w2 by rw [ew2]; exact w1.below_past x0)
  rw [← ew2]
  clear ew2 z0 z1 z2 hlb
  obtain ⟨z0, z1, z2, hlb⟩ := BX.out w2 H2.out
  go_wp2_with fail
  refine (PSM.out w2 H2.out).mono ?_
  rintro _ w3 ⟨b, rfl, hb3, hsm⟩
  have HSM := hid hsm
  have H3 := hid (H2.out.trans (hb3.mono H2.out.size))
  clear hb3 hsm z0 z1 z2 hlb
  obtain ⟨z0, z1, z2, hlb⟩ := BX.out w3 H3.out
  cases b with
  | false =>
    go_wp2_with fail
    go_ret
    exact Gives.mk rfl (HB1.out.trans (H3.out.mono HB1.out.size))
  | true =>
    have hsm := HSM.out rfl
    by_cases hm12 : 12 < m
    · go_wp2_with fail
      go_ret
      exact Gives.mk rfl (HB1.out.trans (H3.out.mono HB1.out.size))
    · have PO := hid (PO.out hsm)
      have PST := hid (PST.out hsm)
      have PA := hid (PA.out hsm (by omega))
      have PG := hid (PG.out hsm (by omega))
      have PRA := hid (PRA.out hsm (by omega))
      have PRG := hid (PRG.out hsm (by omega))
      have PM := hid (PM.out hsm)
      have PRM := hid (PRM.out hsm)
      have hsE : ∀ {y z c}, Eqv y (if c = (0 : Int) then z else nilB) → (c = 0 → z.Sm ∧ z.M.length ≤ 1000000) → y.Sm ∧ y.M.length ≤ 1000000 := fun {y z c} h hz => by
        by_cases hc : c = 0
        · rw [if_pos hc] at h
          exact ⟨h.sm (hz hc).1, by rw [h.ml]; exact (hz hc).2⟩
        · rw [if_neg hc] at h
          exact ⟨h.sm nilB_sm, by rw [h.ml]; simp [nilB]⟩
      have HSA := hid (fun (y : Bk) (h : Eqv y (if askE x who n = 0 then movedB x who.toNat n 1 else nilB)) => hsE h (fun hc => ask_sm hc))
      have HSG := hid (fun (y : Bk) (h : Eqv y (if giveE x who n = 0 then movedB x who.toNat n (-1) else nilB)) => hsE h (fun hc => give_sm hc))
      have HSM2 := hid hsm
      clear HSM hsm hsE PSM
      go_upto_region 6 with (go_at_call 10; refine (PO.out _ H3.out).mono ?_; rw [HORD.out]; rintro _ w4 ⟨Ao, do', rfl, hb4, ho4⟩; have HB4 := hid hb4; have HO4 := hid ho4; clear hb4 ho4)
      have H4 := hid (H3.out.trans (HB4.out.mono H3.out.size))
      clear z0 z1 z2 hlb
      obtain ⟨z0, z1, z2, hlb⟩ := BX.out w4 H4.out
      go_upto_region 7 with (go_at_call 11; refine (PST.out _ H4.out).mono ?_; rintro _ w5 ⟨As, ds, rfl, hb5, ho5⟩; have HB5 := hid hb5; have HO5 := hid ho5; clear hb5 ho5)
      have H5 := hid (H4.out.trans (HB5.out.mono H4.out.size))
      clear z0 z1 z2 hlb
      obtain ⟨z0, z1, z2, hlb⟩ := BX.out w5 H5.out
      go_upto_region 8 with (go_at_call 12; refine (PA.out _ H5.out).mono ?_; rintro _ v6 ⟨y6, rfl, hb6, hy6, hv6⟩; obtain ⟨A60, n60, d60, A61, n61, d61, A62, n62, d62, ev6⟩ : ∃ A0 n0 d0 A1 n1 d1 A2 n2 d2, y6.cs = #[.slice A0 n0 d0, .slice A1 n1 d1, .slice A2 n2 d2] := ⟨_, _, _, _, _, _, _, _, _, rfl⟩; rw [ev6]; have HV6 := hid hv6; have EV6 := hid ev6; have HB6 := hid hb6; have HY6 := hid hy6; clear hb6 hy6 hv6 ev6)
      obtain ⟨w6, ew6⟩ : ∃ W, W = v6.alloc (.cells #[.slice A60 n60 d60, .slice A61 n61 d61, .slice A62 n62 d62] 25) := ⟨_, rfl⟩
      have HR6 := hid (show Rec w6 v6.heap.size 25 #[.slice A60 n60 d60, .slice A61 n61 d61, .slice A62 n62 d62] by rw [ew6]; exact Rec.new v6 _ _)
      have HQ6 := hid (show Below v6.heap.size v6 w6 by rw [ew6]; exact (Below.refl _ v6).alloc (Nat.le_refl _) _)
      have HP6 := hid (HB6.out.trans (HQ6.out.mono HB6.out.size))
      have H6 := hid (H5.out.trans (HP6.out.mono H5.out.size))
      have HYY6 := hid (HY6.out.below HQ6.out)
      rw [← ew6]
      obtain ⟨b6, eb6⟩ : ∃ b, b = v6.heap.size := ⟨_, rfl⟩
      rw [← eb6] at HR6 ⊢
      clear ew6 eb6 HY6 HQ6 HB6 z0 z1 z2 hlb
      obtain ⟨z0, z1, z2, hlb⟩ := BX.out w6 H6.out
      go_upto_region 9 with (go_at_call 13; refine (PG.out _ H6.out).mono ?_; rintro _ v7 ⟨y7, rfl, hb7, hy7, hv7⟩; obtain ⟨A70, n70, d70, A71, n71, d71, A72, n72, d72, ev7⟩ : ∃ A0 n0 d0 A1 n1 d1 A2 n2 d2, y7.cs = #[.slice A0 n0 d0, .slice A1 n1 d1, .slice A2 n2 d2] := ⟨_, _, _, _, _, _, _, _, _, rfl⟩; rw [ev7]; have HV7 := hid hv7; have EV7 := hid ev7; have HB7 := hid hb7; have HY7 := hid hy7; clear hb7 hy7 hv7 ev7)
      obtain ⟨w7, ew7⟩ : ∃ W, W = v7.alloc (.cells #[.slice A70 n70 d70, .slice A71 n71 d71, .slice A72 n72 d72] 25) := ⟨_, rfl⟩
      have HR7 := hid (show Rec w7 v7.heap.size 25 #[.slice A70 n70 d70, .slice A71 n71 d71, .slice A72 n72 d72] by rw [ew7]; exact Rec.new v7 _ _)
      have HQ7 := hid (show Below v7.heap.size v7 w7 by rw [ew7]; exact (Below.refl _ v7).alloc (Nat.le_refl _) _)
      have HP7 := hid (HB7.out.trans (HQ7.out.mono HB7.out.size))
      have H7 := hid (H6.out.trans (HP7.out.mono H6.out.size))
      have HYY7 := hid (HY7.out.below HQ7.out)
      rw [← ew7]
      obtain ⟨b7, eb7⟩ : ∃ b, b = v7.heap.size := ⟨_, rfl⟩
      rw [← eb7] at HR7 ⊢
      clear ew7 eb7 HY7 HQ7 HB7 z0 z1 z2 hlb
      obtain ⟨z0, z1, z2, hlb⟩ := BX.out w7 H7.out
      go_upto_region 10 with (go_at_call 14; refine (PRA.out _ H7.out).mono ?_; rintro _ v8 ⟨y8, rfl, hb8, hy8, hv8⟩; obtain ⟨A80, n80, d80, A81, n81, d81, A82, n82, d82, ev8⟩ : ∃ A0 n0 d0 A1 n1 d1 A2 n2 d2, y8.cs = #[.slice A0 n0 d0, .slice A1 n1 d1, .slice A2 n2 d2] := ⟨_, _, _, _, _, _, _, _, _, rfl⟩; rw [ev8]; have HV8 := hid hv8; have EV8 := hid ev8; have HB8 := hid hb8; have HY8 := hid hy8; clear hb8 hy8 hv8 ev8)
      obtain ⟨w8, ew8⟩ : ∃ W, W = v8.alloc (.cells #[.slice A80 n80 d80, .slice A81 n81 d81, .slice A82 n82 d82] 25) := ⟨_, rfl⟩
      have HR8 := hid (show Rec w8 v8.heap.size 25 #[.slice A80 n80 d80, .slice A81 n81 d81, .slice A82 n82 d82] by rw [ew8]; exact Rec.new v8 _ _)
      have HQ8 := hid (show Below v8.heap.size v8 w8 by rw [ew8]; exact (Below.refl _ v8).alloc (Nat.le_refl _) _)
      have HP8 := hid (HB8.out.trans (HQ8.out.mono HB8.out.size))
      have H8 := hid (H7.out.trans (HP8.out.mono H7.out.size))
      have HYY8 := hid (HY8.out.below HQ8.out)
      rw [← ew8]
      obtain ⟨b8, eb8⟩ : ∃ b, b = v8.heap.size := ⟨_, rfl⟩
      rw [← eb8] at HR8 ⊢
      clear ew8 eb8 HY8 HQ8 HB8 z0 z1 z2 hlb
      obtain ⟨z0, z1, z2, hlb⟩ := BX.out w8 H8.out
      go_upto_region 11 with (go_at_call 15; refine (PRG.out _ H8.out).mono ?_; rintro _ v9 ⟨y9, rfl, hb9, hy9, hv9⟩; obtain ⟨A90, n90, d90, A91, n91, d91, A92, n92, d92, ev9⟩ : ∃ A0 n0 d0 A1 n1 d1 A2 n2 d2, y9.cs = #[.slice A0 n0 d0, .slice A1 n1 d1, .slice A2 n2 d2] := ⟨_, _, _, _, _, _, _, _, _, rfl⟩; rw [ev9]; have HV9 := hid hv9; have EV9 := hid ev9; have HB9 := hid hb9; have HY9 := hid hy9; clear hb9 hy9 hv9 ev9)
      obtain ⟨w9, ew9⟩ : ∃ W, W = v9.alloc (.cells #[.slice A90 n90 d90, .slice A91 n91 d91, .slice A92 n92 d92] 25) := ⟨_, rfl⟩
      have HR9 := hid (show Rec w9 v9.heap.size 25 #[.slice A90 n90 d90, .slice A91 n91 d91, .slice A92 n92 d92] by rw [ew9]; exact Rec.new v9 _ _)
      have HQ9 := hid (show Below v9.heap.size v9 w9 by rw [ew9]; exact (Below.refl _ v9).alloc (Nat.le_refl _) _)
      have HP9 := hid (HB9.out.trans (HQ9.out.mono HB9.out.size))
      have H9 := hid (H8.out.trans (HP9.out.mono H8.out.size))
      have HYY9 := hid (HY9.out.below HQ9.out)
      rw [← ew9]
      obtain ⟨b9, eb9⟩ : ∃ b, b = v9.heap.size := ⟨_, rfl⟩
      rw [← eb9] at HR9 ⊢
      clear ew9 eb9 HY9 HQ9 HB9 z0 z1 z2 hlb
      obtain ⟨z0, z1, z2, hlb⟩ := BX.out w9 H9.out
      have R6 := HR6.out.below (HP7.out.trans ((HP8.out.trans (HP9.out.mono HP8.out.size)).mono HP7.out.size)) (Nat.le_refl _)
      have R7 := HR7.out.below (HP8.out.trans (HP9.out.mono HP8.out.size)) (Nat.le_refl _)
      have R8 := HR8.out.below HP9.out (Nat.le_refl _)
      have R9 := HR9.out
      have I6 := HYY6.out.below (HP7.out.trans ((HP8.out.trans (HP9.out.mono HP8.out.size)).mono HP7.out.size))
      have I7 := HYY7.out.below (HP8.out.trans (HP9.out.mono HP8.out.size))
      have I8 := HYY8.out.below HP9.out
      have I9 := HYY9.out
      have S1 := hid (fun y : Past => EV6.out ▸ EV8.out ▸ rSame_any y6 y8 (HV6.out.trans HV8.out.symm) (HSA.out _ HV6.out).1 (HSA.out _ HV6.out).2 (w9.past y) (I6.below (w9.below_past y)) (I8.below (w9.below_past y)))
      have S2 := hid (fun y : Past => EV7.out ▸ EV9.out ▸ rSame_any y7 y9 (HV7.out.trans HV9.out.symm) (HSG.out _ HV7.out).1 (HSG.out _ HV7.out).2 (w9.past y) (I7.below (w9.below_past y)) (I9.below (w9.below_past y)))
      have M1 := hid (fun y : Past => PM.out (w9.past y) (H9.out.trans ((w9.below_past y).mono H9.out.size)))
      have M2 := hid (fun y : Past => PRM.out (w9.past y) (H9.out.trans ((w9.below_past y).mono H9.out.size)))
      rw [HMAY.out] at M1 M2
      have p60 := Rec.cell R6 0
      have p61 := Rec.cell R6 1
      have p62 := Rec.cell R6 2
      have p70 := Rec.cell R7 0
      have p71 := Rec.cell R7 1
      have p72 := Rec.cell R7 2
      have p80 := Rec.cell R8 0
      have p81 := Rec.cell R8 1
      have p82 := Rec.cell R8 2
      have p90 := Rec.cell R9 0
      have p91 := Rec.cell R9 1
      have p92 := Rec.cell R9 2
      simp at p60 p61 p62 p70 p71 p72 p80 p81 p82 p90 p91 p92
      clear R6 R7 R8 R9 I6 I7 I8 I9 PA PG PRA PRG PM PRM PO PST
      go_wp2_with fail
      refine wp_region_past (by kernel_rfl) (by kernel_rfl) ?_
      repeat (go_big_quiet_step ((first | (go_at_call 16; first | with_reducible exact Calls.in_past (M1.out _) | with_reducible exact Calls.in_past2 (M1.out _)) | (go_at_call 9; first | with_reducible exact Calls.in_past (M2.out _) | with_reducible exact Calls.in_past2 (M2.out _)) | (go_at_call 17; first | with_reducible exact Calls.in_past (S1.out _) | with_reducible exact Calls.in_past2 (S1.out _)) | (go_at_call 17; first | with_reducible exact Calls.in_past (S2.out _) | with_reducible exact Calls.in_past2 (S2.out _)) | (go_at_call 16; first | exact Calls.in_past (M1.out _) | exact Calls.in_past2 (M1.out _)) | (go_at_call 9; first | exact Calls.in_past (M2.out _) | exact Calls.in_past2 (M2.out _)) | (go_at_call 17; first | exact Calls.in_past (S1.out _) | exact Calls.in_past2 (S1.out _)) | (go_at_call 17; first | exact Calls.in_past (S2.out _) | exact Calls.in_past2 (S2.out _)))))
      refine wpQuiet_nil ?_
      rintro _ ⟨_, rfl⟩
      have H59 := hid (HP6.out.trans ((HP7.out.trans ((HP8.out.trans (HP9.out.mono HP8.out.size)).mono HP7.out.size)).mono HP6.out.size))
      have HCS9 := hid (((Cells.of_own HO4.out).below HB5.out).below H59.out)
      obtain ⟨ns, ens⟩ : ∃ k, S.length = k := ⟨_, rfl⟩
      have hle := HSL.out
      rw [ens] at hle ⊢
      have ENS := hid ens
      have HP0 := HLP.out
      rw [HP0]
      clear ens HP0
      go_upto_region 16 with (first | (go_at_call 9; refine (M2.out _).mono ?_; rintro _ _ ⟨rfl, x9, rfl⟩) | (go_at_call 18; refine (HSV.out _ (H9.out.trans ((w9.below_past _).mono H9.out.size))).mono ?_; rintro _ wS ⟨Aa, da, Al, dl, rfl, hbS, hoa, hol⟩; have HBS := hid ((w9.below_past _).trans (hbS.mono (w9.below_past _).size)); have HOA := hid (Cells.of_own hoa); have HOL := hid (Cells.of_own hol); clear hbS hoa hol; rw [ENS.out, HLP.out]))
      have PI := hid (ints_same Ao Aa do' da ns S ENS.out (by omega) wS (HCS9.out.below HBS.out) HOA.out)
      have HS9 := hid (H9.out.trans (HBS.out.mono H9.out.size))
      go_wp2_with (go_at_call 19; refine PI.out.mono ?_; rintro _ _ ⟨rfl, x10, rfl⟩)
      go_ret
      refine Gives.mk rfl ?_
      exact HB1.out.trans ((HS9.out.trans ((wS.below_past _).mono HS9.out.size)).mono HB1.out.size)
theorem BankTells_any (x : Bk) (who : Int) (A : Option Addr) (ca m : Nat) (n : List Int) (em : n.length = m) (hm : m ≤ maxLen) (w : World) (hx : x.In w) (ha : Cells w A (i64s n)) :
    Calls Try.prog 5 #[.agg x.cs, .int .i64 who, .slice A m ca] w (Gives (.bool true) w) := by
  cases h : mayB x with
  | false => exact tells_bad x who A ca m n em hm h w hx ha
  | true =>
    by_cases h2 : 0 < (stuckK (servedF x) x.H.length).length
    · exact tells_left x who A ca m n em hm h h2 w hx ha
    · exact tells_all x who A ca m n em hm h (by omega) w hx ha
theorem bankTells_own : ownKnob Try.prog.godebug = none := by kernel_rfl
theorem bankTells_laidOut : laidOutB Try.prog = true := by kernel_rfl
theorem bankTells_types : ∀ t ∈ Try.f5.params.toList, Try.prog.readableRec t = true ∧ t < Try.prog.types.size := by
  rw [Try.params5]
  intro t ht
  simp only [List.mem_cons, List.not_mem_nil, or_false] at ht
  rcases ht with rfl | rfl | rfl
  · exact ⟨by kernel_rfl, of_decide_eq_true (by kernel_rfl)⟩
  · exact ⟨by kernel_rfl, of_decide_eq_true (by kernel_rfl)⟩
  · exact ⟨by kernel_rfl, of_decide_eq_true (by kernel_rfl)⟩
set_option maxRecDepth 100000 in
theorem bankTells_lifted (os : Os) (started : os.Started) (H : Type) (enc : TypeId × Value → H) :
    ReturnsInHanded {} Try.checked os 5 .any (Rows.bankTellsSpec.pre6 enc Try.prog Try.f5 Rows.bankTellsRow.domain false) (Rows.bankTellsSpec.post enc Try.prog Try.f5 false true false false) := by
  refine returnsInHanded_of_change (C := Try.checked) bankTells_own started (by kernel_rfl) Try.func5
    (ChangeSpec.witness6 (enc := enc) (C := Try.checked) false ⟨#[], #[.agg #[.slice none 0 0, .slice none 0 0, .slice none 0 0], .int .i64 0, .slice none 0 0], []⟩ 8 (by kernel_rfl) (by kernel_rfl) (by kernel_rfl) (by kernel_rfl)) ?_
  intro W base args ds gs before hval0 hW hcnd _
  have hval : ∀ (j : Nat) t v, Try.f5.params[j]? = some t → args[j]? = some v → Value.okWide Try.prog W .any base t v := hval0
  have hW' := hW
  obtain ⟨p, q, hA0, hV, hpq, hfz, hnd⟩ := hW
  have hA : DataW.TrodAll enc Try.prog W 0 (fun _ => true) true Try.f5.params.toList args.toList ds p := hA0
  rw [Try.params5] at hA hval
  obtain ⟨v0, vs0, d0, ds0, p0, q0, hargs, rfl, rfl, h0, r0⟩ := trodAll_cons hA
  obtain ⟨v1, vs1, d1, ds1, p1, q1, rfl, rfl, rfl, h1, r1⟩ := trodAll_cons r0
  obtain ⟨v2, vs2, d2, ds2, p2, q2, rfl, rfl, rfl, h2, r2⟩ := trodAll_cons r1
  obtain ⟨rfl, rfl, rfl⟩ := trodAll_nil r2
  obtain rfl : args = #[v0, v1, v2] := by cases args; simp_all
  have k0 := hval 0 25 v0 rfl rfl
  have k1 := hval 1 3 v1 rfl rfl
  have k2 := hval 2 22 v2 rfl rfl
  clear hA0 hval0 hval hcnd hfz hnd hpq hV hargs r2
  suffices hs : Calls Try.prog 5 #[v0, v1, v2] W (Gives (.bool true) W) from hs.mono fun e W' ⟨he, x, hx⟩ => ⟨_, he, law_post bankTells_laidOut hW' rfl rfl (by kernel_rfl) (by first | exact Try.underlying4 | rfl) bankTells_types (hx ▸ W.below_past x)⟩
  clear hW'
  obtain ⟨c0, rfl, g0⟩ := rd_agg (.inl ⟨_, Try.underlying25⟩) k0 h0
  obtain ⟨x, rfl, hx⟩ := rd_bank g0
  obtain ⟨who, rfl, _, _, _⟩ := open_int Try.underlying3 k1 h1
  obtain ⟨A, ca, n, rfl, ha, _, hl⟩ := rd_i64s (rd_slice Try.underlying22 k2 h2)
  exact BankTells_any x who A ca _ n rfl hl W hx ha
theorem bankTells_holds : Rows.BankTellsSaid :=
  OpenClaim.holds_of_wide 5 Try.f5 rfl rfl rfl rfl rfl rfl rfl ⟨rfl, rfl, rfl, rfl, rfl⟩ rfl rfl rfl rfl rfl (by kernel_rfl) Try.func5 (by kernel_rfl)
    (of_decide_eq_true (by kernel_rfl)) (by unfold Func.isWrapper; first | (rw [if_pos (by decide +kernel)]; kernel_rfl) | (rw [if_neg (by decide +kernel)]; exact ⟨rfl, rfl⟩))
    (fun os started H enc _ => bankTells_lifted os started H enc)
end Go.Proofs.Ytddngloojacceaa
