/-
  Layer 44's BankTells: of any bank the order, who is stuck, and what comes of asking and giving back, is the document's. No condition.
-/
import Derived.Test.YtddngloojacceaaLwC
namespace Go.Proofs.Ytddngloojacceaa
open Go.RowKit Go.Shelf Go.ChangeShapes Go.WideShapes Go.ChangeAt
open Go
attribute [local go_sem] Oper.semAt_some
theorem cs_i64s : Try.prog.cellsOf 3 = 1 := by kernel_rfl
theorem rd_i64s {H : Type} {enc : TypeId × Value → H} {W : World} {v : Value} (h : Rd enc Try.prog W 22 [v]) : ∃ (A : Option Addr) (c : Nat) (l : List Int), v = .slice A l.length c ∧ Cells W A (i64s l) ∧ (∀ x ∈ l, I64 x) ∧ l.length ≤ maxLen :=
  rd_ints_row h Try.underlying22 Try.underlying3 cs_i64s (fun _ hx => i64_of hx)
theorem cs_row : Try.prog.cellsOf 22 = 1 := by kernel_rfl
theorem cs_rows : Try.prog.cellsOf 23 = 1 := by kernel_rfl
theorem cs_bank : Try.prog.cellsOf 25 = 3 := by kernel_rfl
theorem rd_rows {H : Type} {enc : TypeId × Value → H} {W : World} {v : Value} (h : Rd enc Try.prog W 23 [v]) : ∃ (A : Option Addr) (c : Nat) (l : List Rw), v = .slice A l.length c ∧ RowsW W A l ∧ l.length ≤ maxLen := by
  obtain ⟨A, c, l, e, hc, hk, hl⟩ := rd_tab (K := fun r : Rw => Cells W r.1 (i64s r.2.2)) rowV_length (by omega) h Try.underlying23 cs_row (fun cs hr => by
    have hs : ∃ u, cs = [u] := by
      rcases hr.slice Try.underlying22 with h | ⟨a, len, cap, hv, _⟩
      · exact ⟨_, h⟩
      · exact ⟨_, hv⟩
    obtain ⟨u, rfl⟩ := hs
    obtain ⟨A, ca, a, rfl, ha, _, hl⟩ := rd_i64s hr
    exact ⟨(A, ca, a), rfl, ha⟩)
  refine ⟨A, c, l, e, ⟨hc, fun i hi => ?_⟩, hl⟩
  have := hk l[i] (List.getElem_mem hi)
  simpa [rAt, hi] using this
theorem rd_bank {H : Type} {enc : TypeId × Value → H} {W : World} {cs : Array Value} (h : Rd enc Try.prog W 25 cs.toList) : ∃ x : Bk, cs = x.cs ∧ x.In W := by
  obtain ⟨v0, v1, v2, e⟩ := cs_three (h.len_struct Try.underlying25 cs_bank)
  rw [e] at h
  obtain ⟨A0, c0, l0, e0, h0, _, _⟩ := rd_i64s (h.field Try.underlying25 0 22 0 1 rfl cs_row)
  obtain ⟨A1, c1, l1, e1, h1, _⟩ := rd_rows (h.field Try.underlying25 1 23 1 1 rfl cs_rows)
  obtain ⟨A2, c2, l2, e2, h2, _⟩ := rd_rows (h.field Try.underlying25 2 23 2 1 rfl cs_rows)
  subst e0; subst e1; subst e2
  exact ⟨⟨(A0, c0, l0), A1, c1, l1, A2, c2, l2⟩, arr_of e, h0, h1, h2⟩
theorem nilB_sm : nilB.Sm := ⟨by simp [nilB], by simp [nilB], fun i => by simp [nilB, hasR, mostR, rAt]⟩
theorem moved_sm {x : Bk} {who : Int} {n : List Int} {s : Int} (h : fitsF x who n = true) : (movedB x who.toNat n s).Sm ∧ (movedB x who.toNat n s).M.length ≤ 1000000 := by
  obtain ⟨hm, j, rfl, hj, hl, hp⟩ := fits_of h
  have ok := Bk.Ok.of hm
  refine ⟨sm_of_moved ok (j := j) (n := n) (s := s) (Eqv.refl _), ?_⟩
  rw [movedB_ml, ok.em]
  have := ok.h8
  omega
theorem ask_sm {x : Bk} {who : Int} {n : List Int} (h : askE x who n = 0) : (movedB x who.toNat n 1).Sm ∧ (movedB x who.toNat n 1).M.length ≤ 1000000 := by
  apply moved_sm
  cases hf : fitsF x who n with
  | true => rfl
  | false => unfold askE at h; rw [if_pos hf] at h; cases h
theorem give_sm {x : Bk} {who : Int} {n : List Int} (h : giveE x who n = 0) : (movedB x who.toNat n (-1)).Sm ∧ (movedB x who.toNat n (-1)).M.length ≤ 1000000 := by
  apply moved_sm
  cases hf : fitsF x who n with
  | true => rfl
  | false => unfold giveE at h; rw [if_pos hf] at h; cases h
set_option maxRecDepth 100000 in
set_option maxHeartbeats 8000000 in
theorem tells_bad (x : Bk) (who : Int) (A : Option Addr) (ca m : Nat) (n : List Int) (em : n.length = m) (hm : m ≤ maxLen) (hmay : mayB x = false) (w : World) (hx : x.In w) (ha : Cells w A (i64s n)) :
    Calls Try.prog 5 #[.agg x.cs, .int .i64 who, .slice A m ca] w (Gives (.bool true) w) := by
  obtain ⟨w1, ew1⟩ : ∃ w1, w1 = w.alloc (.cells x.cs 25) := ⟨_, rfl⟩
  have hb1 : Below w.heap.size w w1 := by rw [ew1]; exact (Below.refl _ w).alloc (Nat.le_refl _) _
  have hrec : Rec w1 w.heap.size 25 x.cs := by rw [ew1]; exact Rec.new w _ _
  obtain ⟨F, eF⟩ : ∃ F, x.F.1 = F := ⟨_, rfl⟩
  obtain ⟨nF, enF⟩ : ∃ F, x.F.2.2.length = F := ⟨_, rfl⟩
  obtain ⟨nh, enh⟩ : ∃ F, x.H.length = F := ⟨_, rfl⟩
  obtain ⟨nm, enm⟩ : ∃ F, x.M.length = F := ⟨_, rfl⟩
  have hcs : x.cs = #[.slice F nF x.F.2.1, .slice x.AH nh x.cH, .slice x.AM nm x.cM] := by unfold Bk.cs; rw [eF, enF, enh, enm]
  have hX := hx.below hb1
  have hA := ha.below hb1
  rw [hcs] at ew1 ⊢
  have BX := hid (fun W (h : Below w1.heap.size w1 W) => (show W.cell? ⟨w.heap.size, 0, none⟩ = some (.slice F nF x.F.2.1) ∧ W.cell? ⟨w.heap.size, 1, none⟩ = some (.slice x.AH nh x.cH) ∧ W.cell? ⟨w.heap.size, 2, none⟩ = some (.slice x.AM nm x.cM) ∧ w.heap.size < W.heap.size by
    have hr := hrec.below h (Nat.le_refl _)
    rw [hcs] at hr
    exact ⟨by rw [Rec.cell hr]; rfl, by rw [Rec.cell hr]; rfl, by rw [Rec.cell hr]; rfl, Rec.lt hr⟩))
  have PSM := hid (fun W (h : Below w1.heap.size w1 W) => hcs ▸ small_any x W (hX.below h))
  have PO := hid (fun (hs : x.Sm) W (h : Below w1.heap.size w1 W) => hcs ▸ Order_any x hs W (hX.below h))
  have PST := hid (fun (hs : x.Sm) W (h : Below w1.heap.size w1 W) => hcs ▸ Stuck_any x hs W (hX.below h))
  have PA := hid (fun (hs : x.Sm) (hm : m ≤ 1000000) W (h : Below w1.heap.size w1 W) => hcs ▸ Ask_any x hs who A ca m n em hm W (hX.below h) (hA.below h))
  have PG := hid (fun (hs : x.Sm) (hm : m ≤ 1000000) W (h : Below w1.heap.size w1 W) => hcs ▸ Give_any x hs who A ca m n em hm W (hX.below h) (hA.below h))
  have PRA := hid (fun (hs : x.Sm) (hm : m ≤ 1000000) W (h : Below w1.heap.size w1 W) => hcs ▸ rAsk_any x hs who A ca m n em hm W (hX.below h) (hA.below h))
  have PRG := hid (fun (hs : x.Sm) (hm : m ≤ 1000000) W (h : Below w1.heap.size w1 W) => hcs ▸ rGive_any x hs who A ca m n em hm W (hX.below h) (hA.below h))
  have PM := hid (fun (hs : x.Sm) W (h : Below w1.heap.size w1 W) => hcs ▸ May_any x hs.1 hs.2.2 W (hX.below h))
  have PRM := hid (fun (hs : x.Sm) W (h : Below w1.heap.size w1 W) => hcs ▸ RMay_any x hs.1 hs.2.2 W (hX.below h))
  have HMAY := hid hmay
  have HORD := hid (show orderF x = none by unfold orderF; rw [if_neg (fun h => by rw [hmay] at h; cases h.1)])
  have HSTK := hid (show stuckF x = [] by unfold stuckF; rw [if_neg (by rw [hmay]; decide)])
  clear hmay
  have EW1 := hid ew1
  have HB1 := hid hb1
  have HCS := hid hcs
  have B0 := BX.out _ (Below.refl _ w1)
  obtain ⟨z0, z1, z2, hlb⟩ := B0
  unfold maxLen at hm
  clear ew1 hb1 hrec hX hA hx ha em eF enF enh enm hcs
  go_enter Try.func5, Try.ntmps5
  go_upto_region 1 with (fail)
  rw [← EW1.out]
  clear EW1
  go_upto_region 3 with (go_at_call 7; refine (awake_any _).mono ?_; rintro _ _ ⟨rfl, x0, rfl⟩)
  obtain ⟨w2, ew2⟩ : ∃ w2, w2 = w1.past x0 := ⟨_, rfl⟩
  have H2 := hid (show Below w1.heap.size w1 w2 by rw [ew2]; exact w1.below_past x0)
  rw [← ew2]
  clear ew2 z0 z1 z2 hlb
  obtain ⟨z0, z1, z2, hlb⟩ := BX.out w2 H2.out
  go_wp2_with fail
  refine (PSM.out w2 H2.out).mono ?_
  rintro _ w3 ⟨b, rfl, hb3, hsm⟩
  have HSM := hid hsm
  have H3 := hid (H2.out.trans (hb3.mono H2.out.size))
  clear hb3 hsm z0 z1 z2 hlb
  obtain ⟨z0, z1, z2, hlb⟩ := BX.out w3 H3.out
  cases b with
  | false =>
    go_wp2_with fail
    go_ret
    exact Gives.mk rfl (HB1.out.trans (H3.out.mono HB1.out.size))
  | true =>
    have hsm := HSM.out rfl
    by_cases hm12 : 12 < m
    · go_wp2_with fail
      go_ret
      exact Gives.mk rfl (HB1.out.trans (H3.out.mono HB1.out.size))
    · have PO := hid (PO.out hsm)
      have PST := hid (PST.out hsm)
      have PA := hid (PA.out hsm (by omega))
      have PG := hid (PG.out hsm (by omega))
      have PRA := hid (PRA.out hsm (by omega))
      have PRG := hid (PRG.out hsm (by omega))
      have PM := hid (PM.out hsm)
      have PRM := hid (PRM.out hsm)
      have hsE : ∀ {y z c}, Eqv y (if c = (0 : Int) then z else nilB) → (c = 0 → z.Sm ∧ z.M.length ≤ 1000000) → y.Sm ∧ y.M.length ≤ 1000000 := fun {y z c} h hz => by
        by_cases hc : c = 0
        · rw [if_pos hc] at h
          exact ⟨h.sm (hz hc).1, by rw [h.ml]; exact (hz hc).2⟩
        · rw [if_neg hc] at h
          exact ⟨h.sm nilB_sm, by rw [h.ml]; simp [nilB]⟩
      have HSA := hid (fun (y : Bk) (h : Eqv y (if askE x who n = 0 then movedB x who.toNat n 1 else nilB)) => hsE h (fun hc => ask_sm hc))
      have HSG := hid (fun (y : Bk) (h : Eqv y (if giveE x who n = 0 then movedB x who.toNat n (-1) else nilB)) => hsE h (fun hc => give_sm hc))
      have HSM2 := hid hsm
      clear HSM hsm hsE PSM
      go_upto_region 6 with (go_at_call 10; refine (PO.out _ H3.out).mono ?_; rw [HORD.out]; rintro _ w4 ⟨rfl, hb4⟩; have HB4 := hid hb4; clear hb4)
      have H4 := hid (H3.out.trans (HB4.out.mono H3.out.size))
      clear z0 z1 z2 hlb
      obtain ⟨z0, z1, z2, hlb⟩ := BX.out w4 H4.out
      go_upto_region 7 with (go_at_call 11; refine (PST.out _ H4.out).mono ?_; rintro _ w5 ⟨As, ds, rfl, hb5, ho5⟩; have HB5 := hid hb5; have HO5 := hid ho5; clear hb5 ho5)
      have H5 := hid (H4.out.trans (HB5.out.mono H4.out.size))
      clear z0 z1 z2 hlb
      obtain ⟨z0, z1, z2, hlb⟩ := BX.out w5 H5.out
      go_upto_region 8 with (go_at_call 12; refine (PA.out _ H5.out).mono ?_; rintro _ v6 ⟨y6, rfl, hb6, hy6, hv6⟩; obtain ⟨A60, n60, d60, A61, n61, d61, A62, n62, d62, ev6⟩ : ∃ A0 n0 d0 A1 n1 d1 A2 n2 d2, y6.cs = #[.slice A0 n0 d0, .slice A1 n1 d1, .slice A2 n2 d2] := ⟨_, _, _, _, _, _, _, _, _, rfl⟩; rw [ev6]; have HV6 := hid hv6; have EV6 := hid ev6; have HB6 := hid hb6; have HY6 := hid hy6; clear hb6 hy6 hv6 ev6)
      obtain ⟨w6, ew6⟩ : ∃ W, W = v6.alloc (.cells #[.slice A60 n60 d60, .slice A61 n61 d61, .slice A62 n62 d62] 25) := ⟨_, rfl⟩
      have HR6 := hid (show Rec w6 v6.heap.size 25 #[.slice A60 n60 d60, .slice A61 n61 d61, .slice A62 n62 d62] by rw [ew6]; exact Rec.new v6 _ _)
      have HQ6 := hid (show Below v6.heap.size v6 w6 by rw [ew6]; exact (Below.refl _ v6).alloc (Nat.le_refl _) _)
      have HP6 := hid (HB6.out.trans (HQ6.out.mono HB6.out.size))
      have H6 := hid (H5.out.trans (HP6.out.mono H5.out.size))
      have HYY6 := hid (HY6.out.below HQ6.out)
      rw [← ew6]
      obtain ⟨b6, eb6⟩ : ∃ b, b = v6.heap.size := ⟨_, rfl⟩
      rw [← eb6] at HR6 ⊢
      clear ew6 eb6 HY6 HQ6 HB6 z0 z1 z2 hlb
      obtain ⟨z0, z1, z2, hlb⟩ := BX.out w6 H6.out
      go_upto_region 9 with (go_at_call 13; refine (PG.out _ H6.out).mono ?_; rintro _ v7 ⟨y7, rfl, hb7, hy7, hv7⟩; obtain ⟨A70, n70, d70, A71, n71, d71, A72, n72, d72, ev7⟩ : ∃ A0 n0 d0 A1 n1 d1 A2 n2 d2, y7.cs = #[.slice A0 n0 d0, .slice A1 n1 d1, .slice A2 n2 d2] := ⟨_, _, _, _, _, _, _, _, _, rfl⟩; rw [ev7]; have HV7 := hid hv7; have EV7 := hid ev7; have HB7 := hid hb7; have HY7 := hid hy7; clear hb7 hy7 hv7 ev7)
      obtain ⟨w7, ew7⟩ : ∃ W, W = v7.alloc (.cells #[.slice A70 n70 d70, .slice A71 n71 d71, .slice A72 n72 d72] 25) := ⟨_, rfl⟩
      have HR7 := hid (show Rec w7 v7.heap.size 25 #[.slice A70 n70 d70, .slice A71 n71 d71, .slice A72 n72 d72] by rw [ew7]; exact Rec.new v7 _ _)
      have HQ7 := hid (show Below v7.heap.size v7 w7 by rw [ew7]; exact (Below.refl _ v7).alloc (Nat.le_refl _) _)
      have HP7 := hid (HB7.out.trans (HQ7.out.mono HB7.out.size))
      have H7 := hid (H6.out.trans (HP7.out.mono H6.out.size))
      have HYY7 := hid (HY7.out.below HQ7.out)
      rw [← ew7]
      obtain ⟨b7, eb7⟩ : ∃ b, b = v7.heap.size := ⟨_, rfl⟩
      rw [← eb7] at HR7 ⊢
      clear ew7 eb7 HY7 HQ7 HB7 z0 z1 z2 hlb
      obtain ⟨z0, z1, z2, hlb⟩ := BX.out w7 H7.out
      go_upto_region 10 with (go_at_call 14; refine (PRA.out _ H7.out).mono ?_; rintro _ v8 ⟨y8, rfl, hb8, hy8, hv8⟩; obtain ⟨A80, n80, d80, A81, n81, d81, A82, n82, d82, ev8⟩ : ∃ A0 n0 d0 A1 n1 d1 A2 n2 d2, y8.cs = #[.slice A0 n0 d0, .slice A1 n1 d1, .slice A2 n2 d2] := ⟨_, _, _, _, _, _, _, _, _, rfl⟩; rw [ev8]; have HV8 := hid hv8; have EV8 := hid ev8; have HB8 := hid hb8; have HY8 := hid hy8; clear hb8 hy8 hv8 ev8)
      obtain ⟨w8, ew8⟩ : ∃ W, W = v8.alloc (.cells #[.slice A80 n80 d80, .slice A81 n81 d81, .slice A82 n82 d82] 25) := ⟨_, rfl⟩
      have HR8 := hid (show Rec w8 v8.heap.size 25 #[.slice A80 n80 d80, .slice A81 n81 d81, .slice A82 n82 d82] by rw [ew8]; exact Rec.new v8 _ _)
      have HQ8 := hid (show Below v8.heap.size v8 w8 by rw [ew8]; exact (Below.refl _ v8).alloc (Nat.le_refl _) _)
      have HP8 := hid (HB8.out.trans (HQ8.out.mono HB8.out.size))
      have H8 := hid (H7.out.trans (HP8.out.mono H7.out.size))
      have HYY8 := hid (HY8.out.below HQ8.out)
      rw [← ew8]
      obtain ⟨b8, eb8⟩ : ∃ b, b = v8.heap.size := ⟨_, rfl⟩
      rw [← eb8] at HR8 ⊢
      clear ew8 eb8 HY8 HQ8 HB8 z0 z1 z2 hlb
      obtain ⟨z0, z1, z2, hlb⟩ := BX.out w8 H8.out
      go_upto_region 11 with (go_at_call 15; refine (PRG.out _ H8.out).mono ?_; rintro _ v9 ⟨y9, rfl, hb9, hy9, hv9⟩; obtain ⟨A90, n90, d90, A91, n91, d91, A92, n92, d92, ev9⟩ : ∃ A0 n0 d0 A1 n1 d1 A2 n2 d2, y9.cs = #[.slice A0 n0 d0, .slice A1 n1 d1, .slice A2 n2 d2] := ⟨_, _, _, _, _, _, _, _, _, rfl⟩; rw [ev9]; have HV9 := hid hv9; have EV9 := hid ev9; have HB9 := hid hb9; have HY9 := hid hy9; clear hb9 hy9 hv9 ev9)
      obtain ⟨w9, ew9⟩ : ∃ W, W = v9.alloc (.cells #[.slice A90 n90 d90, .slice A91 n91 d91, .slice A92 n92 d92] 25) := ⟨_, rfl⟩
      have HR9 := hid (show Rec w9 v9.heap.size 25 #[.slice A90 n90 d90, .slice A91 n91 d91, .slice A92 n92 d92] by rw [ew9]; exact Rec.new v9 _ _)
      have HQ9 := hid (show Below v9.heap.size v9 w9 by rw [ew9]; exact (Below.refl _ v9).alloc (Nat.le_refl _) _)
      have HP9 := hid (HB9.out.trans (HQ9.out.mono HB9.out.size))
      have H9 := hid (H8.out.trans (HP9.out.mono H8.out.size))
      have HYY9 := hid (HY9.out.below HQ9.out)
      rw [← ew9]
      obtain ⟨b9, eb9⟩ : ∃ b, b = v9.heap.size := ⟨_, rfl⟩
      rw [← eb9] at HR9 ⊢
      clear ew9 eb9 HY9 HQ9 HB9 z0 z1 z2 hlb
      obtain ⟨z0, z1, z2, hlb⟩ := BX.out w9 H9.out
      have R6 := HR6.out.below (HP7.out.trans ((HP8.out.trans (HP9.out.mono HP8.out.size)).mono HP7.out.size)) (Nat.le_refl _)
      have R7 := HR7.out.below (HP8.out.trans (HP9.out.mono HP8.out.size)) (Nat.le_refl _)
      have R8 := HR8.out.below HP9.out (Nat.le_refl _)
      have R9 := HR9.out
      have I6 := HYY6.out.below (HP7.out.trans ((HP8.out.trans (HP9.out.mono HP8.out.size)).mono HP7.out.size))
      have I7 := HYY7.out.below (HP8.out.trans (HP9.out.mono HP8.out.size))
      have I8 := HYY8.out.below HP9.out
      have I9 := HYY9.out
      have S1 := hid (fun y : Past => EV6.out ▸ EV8.out ▸ rSame_any y6 y8 (HV6.out.trans HV8.out.symm) (HSA.out _ HV6.out).1 (HSA.out _ HV6.out).2 (w9.past y) (I6.below (w9.below_past y)) (I8.below (w9.below_past y)))
      have S2 := hid (fun y : Past => EV7.out ▸ EV9.out ▸ rSame_any y7 y9 (HV7.out.trans HV9.out.symm) (HSG.out _ HV7.out).1 (HSG.out _ HV7.out).2 (w9.past y) (I7.below (w9.below_past y)) (I9.below (w9.below_past y)))
      have M1 := hid (fun y : Past => PM.out (w9.past y) (H9.out.trans ((w9.below_past y).mono H9.out.size)))
      have M2 := hid (fun y : Past => PRM.out (w9.past y) (H9.out.trans ((w9.below_past y).mono H9.out.size)))
      rw [HMAY.out] at M1 M2
      have p60 := Rec.cell R6 0
      have p61 := Rec.cell R6 1
      have p62 := Rec.cell R6 2
      have p70 := Rec.cell R7 0
      have p71 := Rec.cell R7 1
      have p72 := Rec.cell R7 2
      have p80 := Rec.cell R8 0
      have p81 := Rec.cell R8 1
      have p82 := Rec.cell R8 2
      have p90 := Rec.cell R9 0
      have p91 := Rec.cell R9 1
      have p92 := Rec.cell R9 2
      simp at p60 p61 p62 p70 p71 p72 p80 p81 p82 p90 p91 p92
      clear R6 R7 R8 R9 I6 I7 I8 I9 PA PG PRA PRG PM PRM PO PST
      go_wp2_with fail
      refine wp_region_past (by kernel_rfl) (by kernel_rfl) ?_
      repeat (go_big_quiet_step ((first | (go_at_call 16; first | with_reducible exact Calls.in_past (M1.out _) | with_reducible exact Calls.in_past2 (M1.out _)) | (go_at_call 9; first | with_reducible exact Calls.in_past (M2.out _) | with_reducible exact Calls.in_past2 (M2.out _)) | (go_at_call 17; first | with_reducible exact Calls.in_past (S1.out _) | with_reducible exact Calls.in_past2 (S1.out _)) | (go_at_call 17; first | with_reducible exact Calls.in_past (S2.out _) | with_reducible exact Calls.in_past2 (S2.out _)) | (go_at_call 16; first | exact Calls.in_past (M1.out _) | exact Calls.in_past2 (M1.out _)) | (go_at_call 9; first | exact Calls.in_past (M2.out _) | exact Calls.in_past2 (M2.out _)) | (go_at_call 17; first | exact Calls.in_past (S1.out _) | exact Calls.in_past2 (S1.out _)) | (go_at_call 17; first | exact Calls.in_past (S2.out _) | exact Calls.in_past2 (S2.out _)))))
      refine wpQuiet_nil ?_
      rintro _ ⟨_, rfl⟩
      have HLS : Hid ((stuckF x).length = 0) := hid (by rw [HSTK.out]; rfl)
      rw [HLS.out]
      go_wp2_with (go_at_call 9; refine (M2.out _).mono ?_; rintro _ _ ⟨rfl, x9, rfl⟩)
      go_ret
      refine Gives.mk rfl (HB1.out.trans ((H9.out.trans (Below.mono ?_ H9.out.size)).mono HB1.out.size))
      (repeat (first | exact Below.refl _ _ | refine RowKit.Below.past ?_ _ | refine RowKit.Below.alloc' ?_ _ | refine RowKit.Below.drew' ?_ | refine RowKit.Below.drewN' ?_ _ | refine RowKit.Below.setCell' ?_ (by simp [go_sem]) _))
end Go.Proofs.Ytddngloojacceaa
