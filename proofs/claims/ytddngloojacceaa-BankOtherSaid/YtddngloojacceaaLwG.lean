/-
  Layer 44's BankOther: a bank whose clients stand in another order is safe just if it was; the same ones are stuck. No condition.
-/
import Derived.Test.YtddngloojacceaaLwF
namespace Go.Proofs.Ytddngloojacceaa
open Go.RowKit Go.Shelf Go.ChangeShapes Go.WideShapes Go.ChangeAt
open Go
attribute [local go_sem] Oper.semAt_some
theorem drewM {B : Nat} {w : World} (h : B ≤ w.heap.size) : Below B w w.drew := (Below.refl w.heap.size w).drew.mono h
set_option maxRecDepth 100000 in
set_option maxHeartbeats 8000000 in
theorem BankOther_any (x : Bk) (w : World) (hx : x.In w) :
    Calls Try.prog 4 #[.agg x.cs] w (Gives (.bool true) w) := by
  obtain ⟨i1, gi, gz0, gz1, gz2⟩ := info_parts info_row
  obtain ⟨w1, ew1⟩ : ∃ w1, w1 = w.alloc (.cells x.cs 25) := ⟨_, rfl⟩
  have hb1 : Below w.heap.size w w1 := by rw [ew1]; exact (Below.refl _ w).alloc (Nat.le_refl _) _
  have hrec : Rec w1 w.heap.size 25 x.cs := by rw [ew1]; exact Rec.new w _ _
  obtain ⟨F, eF⟩ : ∃ F, x.F.1 = F := ⟨_, rfl⟩
  obtain ⟨nF, enF⟩ : ∃ F, x.F.2.2.length = F := ⟨_, rfl⟩
  obtain ⟨nh, enh⟩ : ∃ F, x.H.length = F := ⟨_, rfl⟩
  obtain ⟨nm, enm⟩ : ∃ F, x.M.length = F := ⟨_, rfl⟩
  obtain ⟨AH, eAH⟩ : ∃ F, x.AH = F := ⟨_, rfl⟩
  obtain ⟨AM, eAM⟩ : ∃ F, x.AM = F := ⟨_, rfl⟩
  have hcs : x.cs = #[.slice F nF x.F.2.1, .slice AH nh x.cH, .slice AM nm x.cM] := by unfold Bk.cs; rw [eF, enF, enh, enm, eAH, eAM]
  have hX := hx.below hb1
  rw [hcs] at ew1 ⊢
  have BX := hid (fun W (h : Below w1.heap.size w1 W) => (show W.cell? ⟨w.heap.size, 0, none⟩ = some (.slice F nF x.F.2.1) ∧ W.cell? ⟨w.heap.size, 1, none⟩ = some (.slice AH nh x.cH) ∧ W.cell? ⟨w.heap.size, 2, none⟩ = some (.slice AM nm x.cM) ∧ w.heap.size < W.heap.size by
    have hr := hrec.below h (Nat.le_refl _)
    rw [hcs] at hr
    exact ⟨by rw [Rec.cell hr]; rfl, by rw [Rec.cell hr]; rfl, by rw [Rec.cell hr]; rfl, Rec.lt hr⟩))
  have PSM := hid (fun W (h : Below w1.heap.size w1 W) => hcs ▸ small_any x W (hX.below h))
  have PRM := hid (fun (hs : x.Sm) W (h : Below w1.heap.size w1 W) => hcs ▸ RMay_any x hs.1 hs.2.2 W (hX.below h))
  have PO := hid (fun (hs : x.Sm) W (h : Below w1.heap.size w1 W) => hcs ▸ Order_any x hs W (hX.below h))
  have PST := hid (fun (hs : x.Sm) W (h : Below w1.heap.size w1 W) => hcs ▸ Stuck_any x hs W (hX.below h))
  have EW1 := hid ew1
  have HB1 := hid hb1
  have HREC := hid hrec
  have HX1 := hid hX
  have HCS := hid hcs
  have ENH := hid enh
  have ENM := hid enm
  have EAH := hid eAH
  have EAM := hid eAM
  have EFF := hid (And.intro eF enF)
  have B0 := BX.out _ (Below.refl _ w1)
  obtain ⟨z0, z1, z2, hlb⟩ := B0
  clear ew1 hb1 hrec hX hx eF enF enh enm hcs eAH eAM
  go_enter Try.func4, Try.ntmps4
  go_upto_region 1 with (fail)
  rw [← EW1.out]
  clear EW1
  go_upto_region 3 with (go_at_call 7; refine (awake_any _).mono ?_; rintro _ _ ⟨rfl, x0, rfl⟩)
  obtain ⟨w2, ew2⟩ : ∃ w2, w2 = w1.past x0 := ⟨_, rfl⟩
  have H2 := hid (show Below w1.heap.size w1 w2 by rw [ew2]; exact w1.below_past x0)
  rw [← ew2]
  clear ew2 z0 z1 z2 hlb
  obtain ⟨z0, z1, z2, hlb⟩ := BX.out w2 H2.out
  go_wp2_with fail
  refine (PSM.out w2 H2.out).mono ?_
  rintro _ w3 ⟨b, rfl, hb3, hsm⟩
  have HSM := hid hsm
  have H3 := hid (H2.out.trans (hb3.mono H2.out.size))
  clear hb3 hsm z0 z1 z2 hlb
  obtain ⟨z0, z1, z2, hlb⟩ := BX.out w3 H3.out
  cases b with
  | false =>
    go_wp2_with fail
    go_ret
    exact Gives.mk rfl (HB1.out.trans (H3.out.mono HB1.out.size))
  | true =>
    have hsm := HSM.out rfl
    have PRM := hid (PRM.out hsm _ H3.out)
    have PO := hid (PO.out hsm)
    have PST := hid (PST.out hsm)
    have HSMX := hid hsm
    clear hsm HSM PSM
    obtain ⟨r, er⟩ : ∃ r, mayB x = r := ⟨_, rfl⟩
    rw [er] at PRM
    have ER := hid er
    clear er
    cases r with
    | false =>
      go_wp2_with (go_at_call 9; refine PRM.out.mono ?_; rintro _ _ ⟨rfl, x4, rfl⟩)
      go_ret
      exact Gives.mk rfl (HB1.out.trans ((RowKit.Below.past H3.out x4).mono HB1.out.size))
    | true =>
      have hok := Bk.Ok.of ER.out
      have h8 : nh ≤ 8 := by have := hok.h8; have h2 := ENH.out; omega
      obtain rfl : nm = nh := by have h1 := hok.em; have h2 := ENH.out; have h3 := ENM.out; omega
      clear hok
      go_upto_region 5 with (go_at_call 9; refine PRM.out.mono ?_; rintro _ _ ⟨rfl, x4, rfl⟩)
      obtain ⟨w4, ew4⟩ : ∃ W, W = w3.past x4 := ⟨_, rfl⟩
      have H4 := hid (show Below w1.heap.size w1 w4 by rw [ew4]; exact RowKit.Below.past H3.out x4)
      rw [← ew4]
      clear ew4 z0 z1 z2 hlb
      obtain ⟨z0, z1, z2, hlb⟩ := BX.out w4 H4.out
      go_upto_region 6 with (fail)
      obtain ⟨w5, ew5⟩ : ∃ W, W = w4.alloc (.cells #[.slice F nF x.F.2.1, .slice none 0 0, .slice none 0 0] 25) := ⟨_, rfl⟩
      rw [← ew5]
      obtain ⟨bc, ebc⟩ : ∃ b, b = w4.heap.size := ⟨_, rfl⟩
      rw [← ebc]
      have HW0 : Hid (OtW w1 w5 w.heap.size bc x.cs (.slice F nF x.F.2.1) (.slice none 0 0) (.slice none 0 0) (.slice none 0 0) (.slice none 0 0) (revK x.H 0) (revK x.M 0)) := hid (by
        have h45 : Below w4.heap.size w4 w5 := by rw [ew5]; exact (Below.refl _ w4).alloc (Nat.le_refl _) _
        have h4 := H4.out
        refine ⟨h4.trans (h45.mono h4.size), (HREC.out.below H4.out (Nat.le_refl _)).below h45 (Nat.le_refl _), by rw [ew5, ebc]; exact Rec.new w4 _ _, ⟨by simp [revK, tab], .inl ⟨rfl, rfl⟩⟩, ⟨by simp [revK, tab], .inl ⟨rfl, rfl⟩⟩, .inl rfl, by have := Rec.lt (HREC.out.below H4.out (Nat.le_refl _)); omega, by rw [ebc]; exact h4.size⟩)
      have H5 := hid (show Below w1.heap.size w1 w5 by rw [ew5]; exact H4.out.alloc H4.out.size _)
      clear ew5 ebc z0 z1 z2 hlb
      obtain ⟨z0, z1, z2, hlb⟩ := BX.out w5 H5.out
      go_wp2_with fail
      go_loopw [4] (fun i wr => ∃ (q : Nat) (v : Int) (h m : Option Addr) (ch cm : Nat), i = .int .i64 v ∧ Hid (v = (nm : Int) - 1 - q) ∧ q ≤ nm ∧ Hid (OtW w1 wr w.heap.size bc x.cs (.slice F nF x.F.2.1) (.slice h q ch) (.slice m q cm) (.slice h q ch) (.slice m q cm) (revK x.H q) (revK x.M q))) (fun i _ => mI i)
      case atStart => exact ⟨0, _, none, none, 0, 0, rfl, hid (by omega), by omega, HW0⟩
      case round =>
        clear HW0 H5 z0 z1 z2 hlb
        obtain ⟨q, v, h, m, ch, cm, rfl, HV, hq, HW⟩ := hrel
        obtain ⟨wo, rfl⟩ : ∃ wo : World, wo = wr := ⟨_, rfl⟩
        obtain ⟨z0, z1, z2, hlb⟩ := BX.out wo HW.out.below
        by_cases hlt : q < nm
        · obtain ⟨p, rfl⟩ := Int.eq_ofNat_of_zero_le (show 0 ≤ v by have := HV.out; omega)
          have hp : p = nm - 1 - q := by have := HV.out; omega
          have hpl : p < nm := by omega
          have HPE := hid hp
          clear hp
          obtain ⟨bh, oh, eh, q1⟩ := HX1.out.h.cellR (i := p) (by rw [ENH.out]; exact hpl)
          obtain ⟨bm, om, em, q2⟩ := HX1.out.m.cellR (i := p) (by rw [ENM.out]; exact hpl)
          rw [EAH.out] at eh
          rw [EAM.out] at em
          subst eh
          subst em
          obtain ⟨R1, k1, l1, er1⟩ : ∃ R k l, rAt x.H p = (R, k, l) := ⟨_, _, _, rfl⟩
          obtain ⟨R2, k2, l2, er2⟩ : ∃ R k l, rAt x.M p = (R, k, l) := ⟨_, _, _, rfl⟩
          rw [er1] at q1
          rw [er2] at q2
          simp only [rowC] at q1 q2
          obtain ⟨n1, en1⟩ : ∃ n, l1.length = n := ⟨_, rfl⟩
          obtain ⟨n2, en2⟩ : ∃ n, l2.length = n := ⟨_, rfl⟩
          rw [en1] at q1
          rw [en2] at q2
          have hs1 := revK_succ (l := x.H) (q := q) (by rw [ENH.out]; exact hlt)
          have hs2 := revK_succ (l := x.M) (q := q) (by rw [ENM.out]; exact hlt)
          rw [show x.H.length - 1 - q = p by rw [ENH.out]; have := HPE.out; omega, er1] at hs1
          rw [show x.M.length - 1 - q = p by rw [ENM.out]; have := HPE.out; omega, er2] at hs2
          have hl1 : (revK x.H q).length = q := revK_length (by rw [ENH.out]; omega)
          have hl2 : (revK x.M q).length = q := revK_length (by rw [ENM.out]; omega)
          have HO1 := hid HW.out.ho
          have HO2 := hid HW.out.mo
          rw [hl1] at HO1
          rw [hl2] at HO2
          have HS1 := hid hs1
          have HS2 := hid hs2
          have HL := hid (And.intro hl1 hl2)
          have EN := hid (And.intro en1 en2)
          have hle := HW.out.below.size
          -- what all worlds from here on have
          have FF := hid (fun (W : World) {h0 m0 hv mv : Value} {LH LM : List Rw} (hw : OtW w1 W w.heap.size bc x.cs (.slice F nF x.F.2.1) h0 m0 hv mv LH LM) => (show (W.cell? ⟨w.heap.size, 1, none⟩ = some (.slice (some ⟨bh, oh, none⟩) nm x.cH) ∧ W.cell? ⟨w.heap.size, 2, none⟩ = some (.slice (some ⟨bm, om, none⟩) nm x.cM) ∧ W.cell? ⟨bh, oh + p, none⟩ = some (.slice R1 n1 k1) ∧ W.cell? ⟨bm, om + p, none⟩ = some (.slice R2 n2 k2)) ∧ W.cell? ⟨bc, 1, none⟩ = some h0 ∧ W.cell? ⟨bc, 2, none⟩ = some m0 ∧ W.frozen? ⟨bc, 1, none⟩ = false ∧ W.frozen? ⟨bc, 2, none⟩ = false ∧ bc < W.heap.size by
            have hb := hw.below
            have hbx := BX.out W hb
            refine ⟨⟨hbx.2.1, hbx.2.2.1, (hb.cell (lt_of_cell q1)).trans q1, (hb.cell (lt_of_cell q2)).trans q2⟩, by rw [Rec.cell hw.box]; rfl, by rw [Rec.cell hw.box]; rfl, Rec.frozen hw.box 1, Rec.frozen hw.box 2, Rec.lt hw.box⟩))
          have f0 := FF.out wo HW.out
          obtain ⟨⟨y1, y2, y3, y4⟩, y5, y6, y7, y8, y9⟩ := f0
          clear er1 er2 hs1 hs2 hl1 hl2 en1 en2 q1 q2 z1 z2
          go_wp2_with fail
          refine wp_region_split (S := (fun W => W.cell? ⟨w.heap.size, 1, none⟩ = some (.slice (some ⟨bh, oh, none⟩) nm x.cH) ∧ W.cell? ⟨w.heap.size, 2, none⟩ = some (.slice (some ⟨bm, om, none⟩) nm x.cM) ∧ W.cell? ⟨bh, oh + p, none⟩ = some (.slice R1 n1 k1) ∧ W.cell? ⟨bm, om + p, none⟩ = some (.slice R2 n2 k2) ∧ W.cell? ⟨bc, 1, none⟩ = some (.slice h q ch) ∧ W.cell? ⟨bc, 2, none⟩ = some (.slice m q cm))) 19 (by kernel_rfl) (by kernel_rfl) ?_ (fun hHeld => ?_)
          · (first | (simp [go_sem, *]; done) | (simp [go_sem, *, World.cell?_alloc_some]; done))
          simp only [List.take_succ_cons, List.take_zero, List.drop_succ_cons, List.drop_zero]
          refine wpAnyH_take (i := 0) (v := ?_) rfl (by kernel_rfl) (by kernel_rfl) (by kernel_rfl) (fun _ _ _ h => h) (Or.inl ⟨by rfl, ?_⟩) (by assumption) ?_
          rotate_left
          · intro w hSw; (try dsimp only at hSw); go_simp; try with_reducible rfl
          try simp only [Act.put, List.setIfInBounds_toArray, List.set_cons_zero, List.set_cons_succ]
          refine wpAnyH_take (i := 1) (v := ?_) rfl (by kernel_rfl) (by kernel_rfl) (by kernel_rfl) (fun _ _ _ h => h) (Or.inl ⟨by rfl, ?_⟩) (by assumption) ?_
          rotate_left
          · intro w hSw; (try dsimp only at hSw); go_simp; try with_reducible rfl
          try simp only [Act.put, List.setIfInBounds_toArray, List.set_cons_zero, List.set_cons_succ]
          refine wpAnyH_take (i := 2) (v := ?_) rfl (by kernel_rfl) (by kernel_rfl) (by kernel_rfl) (fun _ _ _ h => h) (Or.inl ⟨by rfl, ?_⟩) (by assumption) ?_
          rotate_left
          · intro w hSw; (try dsimp only at hSw); go_simp; try with_reducible rfl
          try simp only [Act.put, List.setIfInBounds_toArray, List.set_cons_zero, List.set_cons_succ]
          refine wpAnyH_take (i := 3) (v := ?_) rfl (by kernel_rfl) (by kernel_rfl) (by kernel_rfl) (fun _ _ _ h => h) (Or.inl ⟨by rfl, ?_⟩) (by assumption) ?_
          rotate_left
          · intro w hSw; (try dsimp only at hSw); go_simp; try with_reducible rfl
          try simp only [Act.put, List.setIfInBounds_toArray, List.set_cons_zero, List.set_cons_succ]
          refine wpAnyH_take (i := 4) (v := ?_) rfl (by kernel_rfl) (by kernel_rfl) (by kernel_rfl) (fun _ _ _ h => h) (Or.inl ⟨by rfl, ?_⟩) (by assumption) ?_
          rotate_left
          · intro w hSw; (try dsimp only at hSw); go_simp; try with_reducible rfl
          try simp only [Act.put, List.setIfInBounds_toArray, List.set_cons_zero, List.set_cons_succ]
          refine wpAnyH_take (i := 5) (v := ?_) rfl (by kernel_rfl) (by kernel_rfl) (by kernel_rfl) (fun _ _ _ h => h) (Or.inl ⟨by rfl, ?_⟩) (by assumption) ?_
          rotate_left
          · intro w hSw; (try dsimp only at hSw); go_simp; try with_reducible rfl
          try simp only [Act.put, List.setIfInBounds_toArray, List.set_cons_zero, List.set_cons_succ]
          refine wpAnyH_take (i := 6) (v := ?_) rfl (by kernel_rfl) (by kernel_rfl) (by kernel_rfl) (fun _ _ _ h => h) (Or.inl ⟨by rfl, ?_⟩) (by assumption) ?_
          rotate_left
          · intro w hSw; (try dsimp only at hSw); go_simp; try with_reducible rfl
          try simp only [Act.put, List.setIfInBounds_toArray, List.set_cons_zero, List.set_cons_succ]
          refine wpAnyH_take (i := 9) (v := ?_) rfl (by kernel_rfl) (by kernel_rfl) (by kernel_rfl) (fun _ _ _ h => h) (Or.inl ⟨by rfl, ?_⟩) (by assumption) ?_
          rotate_left
          · intro w hSw; (try dsimp only at hSw); go_simp; try with_reducible rfl
          try simp only [Act.put, List.setIfInBounds_toArray, List.set_cons_zero, List.set_cons_succ]
          refine wpAnyH_take (i := 10) (v := ?_) rfl (by kernel_rfl) (by kernel_rfl) (by kernel_rfl) (fun _ _ _ h => h) (Or.inl ⟨by rfl, ?_⟩) (by assumption) ?_
          rotate_left
          · intro w hSw; (try dsimp only at hSw); go_simp; try with_reducible rfl
          try simp only [Act.put, List.setIfInBounds_toArray, List.set_cons_zero, List.set_cons_succ]
          refine wpAnyH_take (i := 11) (v := ?_) rfl (by kernel_rfl) (by kernel_rfl) (by kernel_rfl) (fun _ _ _ h => h) (Or.inl ⟨by rfl, ?_⟩) (by assumption) ?_
          rotate_left
          · intro w hSw; (try dsimp only at hSw); go_simp; try with_reducible rfl
          try simp only [Act.put, List.setIfInBounds_toArray, List.set_cons_zero, List.set_cons_succ]
          refine wpAnyH_take (i := 12) (v := ?_) rfl (by kernel_rfl) (by kernel_rfl) (by kernel_rfl) (fun _ _ _ h => h) (Or.inl ⟨by rfl, ?_⟩) (by assumption) ?_
          rotate_left
          · intro w hSw; (try dsimp only at hSw); go_simp; try with_reducible rfl
          try simp only [Act.put, List.setIfInBounds_toArray, List.set_cons_zero, List.set_cons_succ]
          refine wpAnyH_take (i := 13) (v := ?_) rfl (by kernel_rfl) (by kernel_rfl) (by kernel_rfl) (fun _ _ _ h => h) (Or.inl ⟨by rfl, ?_⟩) (by assumption) ?_
          rotate_left
          · intro w hSw; (try dsimp only at hSw); go_simp; try with_reducible rfl
          try simp only [Act.put, List.setIfInBounds_toArray, List.set_cons_zero, List.set_cons_succ]
          refine wpAnyH_take (i := 14) (v := ?_) rfl (by kernel_rfl) (by kernel_rfl) (by kernel_rfl) (fun _ _ _ h => h) (Or.inl ⟨by rfl, ?_⟩) (by assumption) ?_
          rotate_left
          · intro w hSw; (try dsimp only at hSw); go_simp; try with_reducible rfl
          try simp only [Act.put, List.setIfInBounds_toArray, List.set_cons_zero, List.set_cons_succ]
          refine wpAnyH_take (i := 15) (v := ?_) rfl (by kernel_rfl) (by kernel_rfl) (by kernel_rfl) (fun _ _ _ h => h) (Or.inl ⟨by rfl, ?_⟩) (by assumption) ?_
          rotate_left
          · intro w hSw; (try dsimp only at hSw); go_simp; try with_reducible rfl
          try simp only [Act.put, List.setIfInBounds_toArray, List.set_cons_zero, List.set_cons_succ]
          refine wpAnyH_ready (rs := [7, 16]) (by kernel_rfl) (by simp) ?_
          refine AllReadyH.cons rfl (fun K hK => ?_) ?_
          · go_simp
            refine hK.out _ _ ?_ (fun hHeld => ?_)
            · (first | (simp [go_sem, *]; done) | (simp [go_sem, *, World.cell?_alloc_some]; done))
            clear hK K
            try simp only [Act.put, List.setIfInBounds_toArray, List.set_cons_zero, List.set_cons_succ]
            refine wpAnyH_ready (rs := [8, 16]) (by kernel_rfl) (by simp) ?_
            refine AllReadyH.cons rfl (fun K hK => ?_) ?_
            · (first | (refine step_appB rfl (.tmp 34) (.tmp 40) 23 rfl 22 i1 (.slice none 0 0) 1 24 Try.underlying23 gi gz0 gz1 gz2 rfl (by decide) w1.heap.size ?_ (.slice h q ch) q (tab rowV (revK x.H q)) ?_ (own_below HO1.out (by (repeat (first | exact Below.refl _ _ | refine RowKit.Below.past ?_ _ | refine RowKit.Below.alloc' ?_ _ | refine RowKit.Below.drew' ?_ | refine RowKit.Below.drewN' ?_ _ | refine RowKit.Below.setCell' ?_ (by simp [go_sem]) _))) (Nat.le_refl _)) (some ⟨wo.heap.size, 0, none⟩) 1 1 [.slice R1 n1 k1] ?_ ?_ ?_ ?_ ?_ ?_ ?_; (· exact le_below (w := wo) hle (by (repeat (first | exact Below.refl _ _ | refine RowKit.Below.past ?_ _ | refine RowKit.Below.alloc' ?_ _ | refine RowKit.Below.drew' ?_ | refine RowKit.Below.drewN' ?_ _ | refine RowKit.Below.setCell' ?_ (by simp [go_sem]) _)))); (· rfl); (· rfl); (· rfl); (· refine cells_1 ?_; simp [go_sem, *]; done); (· intro u hu; simp at hu; subst hu; rfl); (· unfold maxLen; omega); (· omega)) | (refine step_appB rfl (.tmp 34) (.tmp 40) 23 rfl 22 i1 (.slice none 0 0) 1 24 Try.underlying23 gi gz0 gz1 gz2 rfl (by decide) w1.heap.size ?_ (.slice h q ch) q (tab rowV (revK x.H q)) ?_ (own_below HO1.out (by (repeat (first | exact Below.refl _ _ | refine RowKit.Below.past ?_ _ | refine RowKit.Below.alloc' ?_ _ | refine RowKit.Below.drew' ?_ | refine RowKit.Below.drewN' ?_ _ | refine RowKit.Below.setCell' ?_ (by simp [go_sem]) _))) (Nat.le_refl _)) (some ⟨wo.heap.size + 1, 0, none⟩) 1 1 [.slice R1 n1 k1] ?_ ?_ ?_ ?_ ?_ ?_ ?_; (· exact le_below (w := wo) hle (by (repeat (first | exact Below.refl _ _ | refine RowKit.Below.past ?_ _ | refine RowKit.Below.alloc' ?_ _ | refine RowKit.Below.drew' ?_ | refine RowKit.Below.drewN' ?_ _ | refine RowKit.Below.setCell' ?_ (by simp [go_sem]) _)))); (· rfl); (· rfl); (· rfl); (· refine cells_1 ?_; simp [go_sem, *]; done); (· intro u hu; simp at hu; subst hu; rfl); (· unfold maxLen; omega); (· omega))); intro w6 A6 c6 ho6 hg6 hap6; have HW6 := hid (OtW.pushH (r := (R1, k1, l1)) (HW.out.far (by (repeat (first | exact Below.refl _ _ | refine RowKit.Below.past ?_ _ | refine RowKit.Below.alloc' ?_ _ | refine RowKit.Below.drew' ?_ | refine RowKit.Below.drewN' ?_ _ | refine RowKit.Below.setCell' ?_ (by simp [go_sem]) _)))) (by rw [HL.out.1]; simp only [rowC, EN.out.1]; exact ho6) hg6 hap6); have HO3 := hid (show w6.ownsRow w1.heap.size 22 1 (.slice m q cm) q (tab rowV (revK x.M q)) by have := HW6.out.mo; rw [HL.out.2] at this; exact this); have GN := hid (grown_new hg6 HO1.out); clear ho6 hg6 hap6; have g0 := FF.out w6 HW6.out; obtain ⟨⟨g1, g2, g3, g4⟩, g5, g6, g7, g8, g9⟩ := g0
              refine hK.out _ _ ?_ (fun hHeld => ?_)
              · (first | (simp [go_sem, *]; done) | (simp [go_sem, *, World.cell?_alloc_some]; done))
              clear hK K
              try simp only [Act.put, List.setIfInBounds_toArray, List.set_cons_zero, List.set_cons_succ]
              refine wpAnyH_take (i := 18) (v := ?_) rfl (by kernel_rfl) (by kernel_rfl) (by kernel_rfl) (fun _ _ _ h => h) (Or.inl ⟨by rfl, ?_⟩) (by assumption) ?_
              rotate_left
              · intro w hSw; (try dsimp only at hSw); go_simp; try with_reducible rfl
              try simp only [Act.put, List.setIfInBounds_toArray, List.set_cons_zero, List.set_cons_succ]
              refine wpAnyH_ready (rs := [16]) (by kernel_rfl) (by simp) ?_
              refine AllReadyH.cons rfl (fun K hK => ?_) ?_
              · go_simp
                refine hK.out _ _ ?_ (fun hHeld => ?_)
                · (first | (simp [go_sem, *]; done) | (simp [go_sem, *, World.cell?_alloc_some]; done))
                clear hK K
                try simp only [Act.put, List.setIfInBounds_toArray, List.set_cons_zero, List.set_cons_succ]
                refine wpAnyH_ready (rs := [17]) (by kernel_rfl) (by simp) ?_
                refine AllReadyH.cons rfl (fun K hK => ?_) ?_
                · (first | (refine step_appB rfl (.tmp 43) (.tmp 49) 23 rfl 22 i1 (.slice none 0 0) 1 24 Try.underlying23 gi gz0 gz1 gz2 rfl (by decide) w1.heap.size ?_ (.slice m q cm) q (tab rowV (revK x.M q)) ?_ (own_below HO3.out (by (repeat (first | exact Below.refl _ _ | refine RowKit.Below.past ?_ _ | refine RowKit.Below.alloc' ?_ _ | refine RowKit.Below.drew' ?_ | refine RowKit.Below.drewN' ?_ _ | refine RowKit.Below.setCell' ?_ (by simp [go_sem]) _))) (Nat.le_refl _)) (some ⟨w6.heap.size, 0, none⟩) 1 1 [.slice R2 n2 k2] ?_ ?_ ?_ ?_ ?_ ?_ ?_; (· exact le_below (w := w6) HW6.out.below.size (by (repeat (first | exact Below.refl _ _ | refine RowKit.Below.past ?_ _ | refine RowKit.Below.alloc' ?_ _ | refine RowKit.Below.drew' ?_ | refine RowKit.Below.drewN' ?_ _ | refine RowKit.Below.setCell' ?_ (by simp [go_sem]) _)))); (· rfl); (· rfl); (· rfl); (· refine cells_1 ?_; first | (refine GN.out _ _ ?_ ?_; (· omega); (simp [go_sem, *]; done)) | (simp [go_sem, *]; done)); (· intro u hu; simp at hu; subst hu; rfl); (· unfold maxLen; omega); (· omega)) | (refine step_appB rfl (.tmp 43) (.tmp 49) 23 rfl 22 i1 (.slice none 0 0) 1 24 Try.underlying23 gi gz0 gz1 gz2 rfl (by decide) w1.heap.size ?_ (.slice m q cm) q (tab rowV (revK x.M q)) ?_ (own_below HO3.out (by (repeat (first | exact Below.refl _ _ | refine RowKit.Below.past ?_ _ | refine RowKit.Below.alloc' ?_ _ | refine RowKit.Below.drew' ?_ | refine RowKit.Below.drewN' ?_ _ | refine RowKit.Below.setCell' ?_ (by simp [go_sem]) _))) (Nat.le_refl _)) (some ⟨wo.heap.size, 0, none⟩) 1 1 [.slice R2 n2 k2] ?_ ?_ ?_ ?_ ?_ ?_ ?_; (· exact le_below (w := w6) HW6.out.below.size (by (repeat (first | exact Below.refl _ _ | refine RowKit.Below.past ?_ _ | refine RowKit.Below.alloc' ?_ _ | refine RowKit.Below.drew' ?_ | refine RowKit.Below.drewN' ?_ _ | refine RowKit.Below.setCell' ?_ (by simp [go_sem]) _)))); (· rfl); (· rfl); (· rfl); (· refine cells_1 ?_; first | (refine GN.out _ _ ?_ ?_; (· omega); (simp [go_sem, *]; done)) | (simp [go_sem, *]; done)); (· intro u hu; simp at hu; subst hu; rfl); (· unfold maxLen; omega); (· omega)) | (refine step_appB rfl (.tmp 43) (.tmp 49) 23 rfl 22 i1 (.slice none 0 0) 1 24 Try.underlying23 gi gz0 gz1 gz2 rfl (by decide) w1.heap.size ?_ (.slice m q cm) q (tab rowV (revK x.M q)) ?_ (own_below HO3.out (by (repeat (first | exact Below.refl _ _ | refine RowKit.Below.past ?_ _ | refine RowKit.Below.alloc' ?_ _ | refine RowKit.Below.drew' ?_ | refine RowKit.Below.drewN' ?_ _ | refine RowKit.Below.setCell' ?_ (by simp [go_sem]) _))) (Nat.le_refl _)) (some ⟨wo.heap.size + 1, 0, none⟩) 1 1 [.slice R2 n2 k2] ?_ ?_ ?_ ?_ ?_ ?_ ?_; (· exact le_below (w := w6) HW6.out.below.size (by (repeat (first | exact Below.refl _ _ | refine RowKit.Below.past ?_ _ | refine RowKit.Below.alloc' ?_ _ | refine RowKit.Below.drew' ?_ | refine RowKit.Below.drewN' ?_ _ | refine RowKit.Below.setCell' ?_ (by simp [go_sem]) _)))); (· rfl); (· rfl); (· rfl); (· refine cells_1 ?_; first | (refine GN.out _ _ ?_ ?_; (· omega); (simp [go_sem, *]; done)) | (simp [go_sem, *]; done)); (· intro u hu; simp at hu; subst hu; rfl); (· unfold maxLen; omega); (· omega))); intro w7 A7 c7 ho7 hg7 hap7; have HW7 := hid (OtW.pushM (r := (R2, k2, l2)) (HW6.out.far (by (repeat (first | exact Below.refl _ _ | refine RowKit.Below.past ?_ _ | refine RowKit.Below.alloc' ?_ _ | refine RowKit.Below.drew' ?_ | refine RowKit.Below.drewN' ?_ _ | refine RowKit.Below.setCell' ?_ (by simp [go_sem]) _)))) (by rw [HL.out.2]; simp only [rowC, EN.out.2]; exact ho7) hg7 hap7); clear ho7 hg7 hap7; have g0 := FF.out w7 HW7.out; clear g1 g2 g3 g4 g5 g6 g7 g8 g9; obtain ⟨⟨g1, g2, g3, g4⟩, g5, g6, g7, g8, g9⟩ := g0
                  refine hK.out _ _ ?_ (fun hHeld => ?_)
                  · (first | (simp [go_sem, *]; done) | (simp [go_sem, *, World.cell?_alloc_some]; done))
                  clear hK K
                  try simp only [Act.put, List.setIfInBounds_toArray, List.set_cons_zero, List.set_cons_succ]
                  refine wpAnyH_done (by kernel_rfl) ?_ _
                  change wpList _ _ _ _ _ _
                  have HN1 := hid (HW7.out.set1 (.slice A6 (q + 1) c6))
                  have HN := hid (HN1.out.set2 (.slice A7 (q + 1) c7))
                  rw [← HS1.out, ← HS2.out] at HN
                  clear g1 g2 g3 g4 y1 y2 y3 y4 y5 y6 y7 y8 y9 hHeld HW6 HW7 HO3 GN HN1
                  go_wp2_with fail
                  refine ⟨⟨q + 1, _, A6, A7, c6, c7, rfl, hid (by have := HV.out; omega), by omega, HN⟩, ?_⟩
                  simp only [mI]
                  omega
                exact AllReadyH.nil
              exact AllReadyH.nil
            refine AllReadyH.cons rfl (fun K hK => ?_) ?_
            · go_simp
              refine hK.out _ _ ?_ (fun hHeld => ?_)
              · (first | (simp [go_sem, *]; done) | (simp [go_sem, *, World.cell?_alloc_some]; done))
              clear hK K
              try simp only [Act.put, List.setIfInBounds_toArray, List.set_cons_zero, List.set_cons_succ]
              refine wpAnyH_ready (rs := [8]) (by kernel_rfl) (by simp) ?_
              refine AllReadyH.cons rfl (fun K hK => ?_) ?_
              · (first | (refine step_appB rfl (.tmp 34) (.tmp 40) 23 rfl 22 i1 (.slice none 0 0) 1 24 Try.underlying23 gi gz0 gz1 gz2 rfl (by decide) w1.heap.size ?_ (.slice h q ch) q (tab rowV (revK x.H q)) ?_ (own_below HO1.out (by (repeat (first | exact Below.refl _ _ | refine RowKit.Below.past ?_ _ | refine RowKit.Below.alloc' ?_ _ | refine RowKit.Below.drew' ?_ | refine RowKit.Below.drewN' ?_ _ | refine RowKit.Below.setCell' ?_ (by simp [go_sem]) _))) (Nat.le_refl _)) (some ⟨wo.heap.size, 0, none⟩) 1 1 [.slice R1 n1 k1] ?_ ?_ ?_ ?_ ?_ ?_ ?_; (· exact le_below (w := wo) hle (by (repeat (first | exact Below.refl _ _ | refine RowKit.Below.past ?_ _ | refine RowKit.Below.alloc' ?_ _ | refine RowKit.Below.drew' ?_ | refine RowKit.Below.drewN' ?_ _ | refine RowKit.Below.setCell' ?_ (by simp [go_sem]) _)))); (· rfl); (· rfl); (· rfl); (· refine cells_1 ?_; simp [go_sem, *]; done); (· intro u hu; simp at hu; subst hu; rfl); (· unfold maxLen; omega); (· omega)) | (refine step_appB rfl (.tmp 34) (.tmp 40) 23 rfl 22 i1 (.slice none 0 0) 1 24 Try.underlying23 gi gz0 gz1 gz2 rfl (by decide) w1.heap.size ?_ (.slice h q ch) q (tab rowV (revK x.H q)) ?_ (own_below HO1.out (by (repeat (first | exact Below.refl _ _ | refine RowKit.Below.past ?_ _ | refine RowKit.Below.alloc' ?_ _ | refine RowKit.Below.drew' ?_ | refine RowKit.Below.drewN' ?_ _ | refine RowKit.Below.setCell' ?_ (by simp [go_sem]) _))) (Nat.le_refl _)) (some ⟨wo.heap.size + 1, 0, none⟩) 1 1 [.slice R1 n1 k1] ?_ ?_ ?_ ?_ ?_ ?_ ?_; (· exact le_below (w := wo) hle (by (repeat (first | exact Below.refl _ _ | refine RowKit.Below.past ?_ _ | refine RowKit.Below.alloc' ?_ _ | refine RowKit.Below.drew' ?_ | refine RowKit.Below.drewN' ?_ _ | refine RowKit.Below.setCell' ?_ (by simp [go_sem]) _)))); (· rfl); (· rfl); (· rfl); (· refine cells_1 ?_; simp [go_sem, *]; done); (· intro u hu; simp at hu; subst hu; rfl); (· unfold maxLen; omega); (· omega))); intro w6 A6 c6 ho6 hg6 hap6; have HW6 := hid (OtW.pushH (r := (R1, k1, l1)) (HW.out.far (by (repeat (first | exact Below.refl _ _ | refine RowKit.Below.past ?_ _ | refine RowKit.Below.alloc' ?_ _ | refine RowKit.Below.drew' ?_ | refine RowKit.Below.drewN' ?_ _ | refine RowKit.Below.setCell' ?_ (by simp [go_sem]) _)))) (by rw [HL.out.1]; simp only [rowC, EN.out.1]; exact ho6) hg6 hap6); have HO3 := hid (show w6.ownsRow w1.heap.size 22 1 (.slice m q cm) q (tab rowV (revK x.M q)) by have := HW6.out.mo; rw [HL.out.2] at this; exact this); have GN := hid (grown_new hg6 HO1.out); clear ho6 hg6 hap6; have g0 := FF.out w6 HW6.out; obtain ⟨⟨g1, g2, g3, g4⟩, g5, g6, g7, g8, g9⟩ := g0
                refine hK.out _ _ ?_ (fun hHeld => ?_)
                · (first | (simp [go_sem, *]; done) | (simp [go_sem, *, World.cell?_alloc_some]; done))
                clear hK K
                try simp only [Act.put, List.setIfInBounds_toArray, List.set_cons_zero, List.set_cons_succ]
                refine wpAnyH_take (i := 18) (v := ?_) rfl (by kernel_rfl) (by kernel_rfl) (by kernel_rfl) (fun _ _ _ h => h) (Or.inl ⟨by rfl, ?_⟩) (by assumption) ?_
                rotate_left
                · intro w hSw; (try dsimp only at hSw); go_simp; try with_reducible rfl
                try simp only [Act.put, List.setIfInBounds_toArray, List.set_cons_zero, List.set_cons_succ]
                refine wpAnyH_ready (rs := [17]) (by kernel_rfl) (by simp) ?_
                refine AllReadyH.cons rfl (fun K hK => ?_) ?_
                · (first | (refine step_appB rfl (.tmp 43) (.tmp 49) 23 rfl 22 i1 (.slice none 0 0) 1 24 Try.underlying23 gi gz0 gz1 gz2 rfl (by decide) w1.heap.size ?_ (.slice m q cm) q (tab rowV (revK x.M q)) ?_ (own_below HO3.out (by (repeat (first | exact Below.refl _ _ | refine RowKit.Below.past ?_ _ | refine RowKit.Below.alloc' ?_ _ | refine RowKit.Below.drew' ?_ | refine RowKit.Below.drewN' ?_ _ | refine RowKit.Below.setCell' ?_ (by simp [go_sem]) _))) (Nat.le_refl _)) (some ⟨w6.heap.size, 0, none⟩) 1 1 [.slice R2 n2 k2] ?_ ?_ ?_ ?_ ?_ ?_ ?_; (· exact le_below (w := w6) HW6.out.below.size (by (repeat (first | exact Below.refl _ _ | refine RowKit.Below.past ?_ _ | refine RowKit.Below.alloc' ?_ _ | refine RowKit.Below.drew' ?_ | refine RowKit.Below.drewN' ?_ _ | refine RowKit.Below.setCell' ?_ (by simp [go_sem]) _)))); (· rfl); (· rfl); (· rfl); (· refine cells_1 ?_; first | (refine GN.out _ _ ?_ ?_; (· omega); (simp [go_sem, *]; done)) | (simp [go_sem, *]; done)); (· intro u hu; simp at hu; subst hu; rfl); (· unfold maxLen; omega); (· omega)) | (refine step_appB rfl (.tmp 43) (.tmp 49) 23 rfl 22 i1 (.slice none 0 0) 1 24 Try.underlying23 gi gz0 gz1 gz2 rfl (by decide) w1.heap.size ?_ (.slice m q cm) q (tab rowV (revK x.M q)) ?_ (own_below HO3.out (by (repeat (first | exact Below.refl _ _ | refine RowKit.Below.past ?_ _ | refine RowKit.Below.alloc' ?_ _ | refine RowKit.Below.drew' ?_ | refine RowKit.Below.drewN' ?_ _ | refine RowKit.Below.setCell' ?_ (by simp [go_sem]) _))) (Nat.le_refl _)) (some ⟨wo.heap.size, 0, none⟩) 1 1 [.slice R2 n2 k2] ?_ ?_ ?_ ?_ ?_ ?_ ?_; (· exact le_below (w := w6) HW6.out.below.size (by (repeat (first | exact Below.refl _ _ | refine RowKit.Below.past ?_ _ | refine RowKit.Below.alloc' ?_ _ | refine RowKit.Below.drew' ?_ | refine RowKit.Below.drewN' ?_ _ | refine RowKit.Below.setCell' ?_ (by simp [go_sem]) _)))); (· rfl); (· rfl); (· rfl); (· refine cells_1 ?_; first | (refine GN.out _ _ ?_ ?_; (· omega); (simp [go_sem, *]; done)) | (simp [go_sem, *]; done)); (· intro u hu; simp at hu; subst hu; rfl); (· unfold maxLen; omega); (· omega)) | (refine step_appB rfl (.tmp 43) (.tmp 49) 23 rfl 22 i1 (.slice none 0 0) 1 24 Try.underlying23 gi gz0 gz1 gz2 rfl (by decide) w1.heap.size ?_ (.slice m q cm) q (tab rowV (revK x.M q)) ?_ (own_below HO3.out (by (repeat (first | exact Below.refl _ _ | refine RowKit.Below.past ?_ _ | refine RowKit.Below.alloc' ?_ _ | refine RowKit.Below.drew' ?_ | refine RowKit.Below.drewN' ?_ _ | refine RowKit.Below.setCell' ?_ (by simp [go_sem]) _))) (Nat.le_refl _)) (some ⟨wo.heap.size + 1, 0, none⟩) 1 1 [.slice R2 n2 k2] ?_ ?_ ?_ ?_ ?_ ?_ ?_; (· exact le_below (w := w6) HW6.out.below.size (by (repeat (first | exact Below.refl _ _ | refine RowKit.Below.past ?_ _ | refine RowKit.Below.alloc' ?_ _ | refine RowKit.Below.drew' ?_ | refine RowKit.Below.drewN' ?_ _ | refine RowKit.Below.setCell' ?_ (by simp [go_sem]) _)))); (· rfl); (· rfl); (· rfl); (· refine cells_1 ?_; first | (refine GN.out _ _ ?_ ?_; (· omega); (simp [go_sem, *]; done)) | (simp [go_sem, *]; done)); (· intro u hu; simp at hu; subst hu; rfl); (· unfold maxLen; omega); (· omega))); intro w7 A7 c7 ho7 hg7 hap7; have HW7 := hid (OtW.pushM (r := (R2, k2, l2)) (HW6.out.far (by (repeat (first | exact Below.refl _ _ | refine RowKit.Below.past ?_ _ | refine RowKit.Below.alloc' ?_ _ | refine RowKit.Below.drew' ?_ | refine RowKit.Below.drewN' ?_ _ | refine RowKit.Below.setCell' ?_ (by simp [go_sem]) _)))) (by rw [HL.out.2]; simp only [rowC, EN.out.2]; exact ho7) hg7 hap7); clear ho7 hg7 hap7; have g0 := FF.out w7 HW7.out; clear g1 g2 g3 g4 g5 g6 g7 g8 g9; obtain ⟨⟨g1, g2, g3, g4⟩, g5, g6, g7, g8, g9⟩ := g0
                  refine hK.out _ _ ?_ (fun hHeld => ?_)
                  · (first | (simp [go_sem, *]; done) | (simp [go_sem, *, World.cell?_alloc_some]; done))
                  clear hK K
                  try simp only [Act.put, List.setIfInBounds_toArray, List.set_cons_zero, List.set_cons_succ]
                  refine wpAnyH_done (by kernel_rfl) ?_ _
                  change wpList _ _ _ _ _ _
                  have HN1 := hid (HW7.out.set1 (.slice A6 (q + 1) c6))
                  have HN := hid (HN1.out.set2 (.slice A7 (q + 1) c7))
                  rw [← HS1.out, ← HS2.out] at HN
                  clear g1 g2 g3 g4 y1 y2 y3 y4 y5 y6 y7 y8 y9 hHeld HW6 HW7 HO3 GN HN1
                  go_wp2_with fail
                  refine ⟨⟨q + 1, _, A6, A7, c6, c7, rfl, hid (by have := HV.out; omega), by omega, HN⟩, ?_⟩
                  simp only [mI]
                  omega
                exact AllReadyH.nil
              exact AllReadyH.nil
            exact AllReadyH.nil
          refine AllReadyH.cons rfl (fun K hK => ?_) ?_
          · go_simp
            refine hK.out _ _ ?_ (fun hHeld => ?_)
            · (first | (simp [go_sem, *]; done) | (simp [go_sem, *, World.cell?_alloc_some]; done))
            clear hK K
            try simp only [Act.put, List.setIfInBounds_toArray, List.set_cons_zero, List.set_cons_succ]
            refine wpAnyH_ready (rs := [7]) (by kernel_rfl) (by simp) ?_
            refine AllReadyH.cons rfl (fun K hK => ?_) ?_
            · go_simp
              refine hK.out _ _ ?_ (fun hHeld => ?_)
              · (first | (simp [go_sem, *]; done) | (simp [go_sem, *, World.cell?_alloc_some]; done))
              clear hK K
              try simp only [Act.put, List.setIfInBounds_toArray, List.set_cons_zero, List.set_cons_succ]
              refine wpAnyH_ready (rs := [8]) (by kernel_rfl) (by simp) ?_
              refine AllReadyH.cons rfl (fun K hK => ?_) ?_
              · (first | (refine step_appB rfl (.tmp 34) (.tmp 40) 23 rfl 22 i1 (.slice none 0 0) 1 24 Try.underlying23 gi gz0 gz1 gz2 rfl (by decide) w1.heap.size ?_ (.slice h q ch) q (tab rowV (revK x.H q)) ?_ (own_below HO1.out (by (repeat (first | exact Below.refl _ _ | refine RowKit.Below.past ?_ _ | refine RowKit.Below.alloc' ?_ _ | refine RowKit.Below.drew' ?_ | refine RowKit.Below.drewN' ?_ _ | refine RowKit.Below.setCell' ?_ (by simp [go_sem]) _))) (Nat.le_refl _)) (some ⟨wo.heap.size, 0, none⟩) 1 1 [.slice R1 n1 k1] ?_ ?_ ?_ ?_ ?_ ?_ ?_; (· exact le_below (w := wo) hle (by (repeat (first | exact Below.refl _ _ | refine RowKit.Below.past ?_ _ | refine RowKit.Below.alloc' ?_ _ | refine RowKit.Below.drew' ?_ | refine RowKit.Below.drewN' ?_ _ | refine RowKit.Below.setCell' ?_ (by simp [go_sem]) _)))); (· rfl); (· rfl); (· rfl); (· refine cells_1 ?_; simp [go_sem, *]; done); (· intro u hu; simp at hu; subst hu; rfl); (· unfold maxLen; omega); (· omega)) | (refine step_appB rfl (.tmp 34) (.tmp 40) 23 rfl 22 i1 (.slice none 0 0) 1 24 Try.underlying23 gi gz0 gz1 gz2 rfl (by decide) w1.heap.size ?_ (.slice h q ch) q (tab rowV (revK x.H q)) ?_ (own_below HO1.out (by (repeat (first | exact Below.refl _ _ | refine RowKit.Below.past ?_ _ | refine RowKit.Below.alloc' ?_ _ | refine RowKit.Below.drew' ?_ | refine RowKit.Below.drewN' ?_ _ | refine RowKit.Below.setCell' ?_ (by simp [go_sem]) _))) (Nat.le_refl _)) (some ⟨wo.heap.size + 1, 0, none⟩) 1 1 [.slice R1 n1 k1] ?_ ?_ ?_ ?_ ?_ ?_ ?_; (· exact le_below (w := wo) hle (by (repeat (first | exact Below.refl _ _ | refine RowKit.Below.past ?_ _ | refine RowKit.Below.alloc' ?_ _ | refine RowKit.Below.drew' ?_ | refine RowKit.Below.drewN' ?_ _ | refine RowKit.Below.setCell' ?_ (by simp [go_sem]) _)))); (· rfl); (· rfl); (· rfl); (· refine cells_1 ?_; simp [go_sem, *]; done); (· intro u hu; simp at hu; subst hu; rfl); (· unfold maxLen; omega); (· omega))); intro w6 A6 c6 ho6 hg6 hap6; have HW6 := hid (OtW.pushH (r := (R1, k1, l1)) (HW.out.far (by (repeat (first | exact Below.refl _ _ | refine RowKit.Below.past ?_ _ | refine RowKit.Below.alloc' ?_ _ | refine RowKit.Below.drew' ?_ | refine RowKit.Below.drewN' ?_ _ | refine RowKit.Below.setCell' ?_ (by simp [go_sem]) _)))) (by rw [HL.out.1]; simp only [rowC, EN.out.1]; exact ho6) hg6 hap6); have HO3 := hid (show w6.ownsRow w1.heap.size 22 1 (.slice m q cm) q (tab rowV (revK x.M q)) by have := HW6.out.mo; rw [HL.out.2] at this; exact this); have GN := hid (grown_new hg6 HO1.out); clear ho6 hg6 hap6; have g0 := FF.out w6 HW6.out; obtain ⟨⟨g1, g2, g3, g4⟩, g5, g6, g7, g8, g9⟩ := g0
                refine hK.out _ _ ?_ (fun hHeld => ?_)
                · (first | (simp [go_sem, *]; done) | (simp [go_sem, *, World.cell?_alloc_some]; done))
                clear hK K
                try simp only [Act.put, List.setIfInBounds_toArray, List.set_cons_zero, List.set_cons_succ]
                refine wpAnyH_take (i := 18) (v := ?_) rfl (by kernel_rfl) (by kernel_rfl) (by kernel_rfl) (fun _ _ _ h => h) (Or.inl ⟨by rfl, ?_⟩) (by assumption) ?_
                rotate_left
                · intro w hSw; (try dsimp only at hSw); go_simp; try with_reducible rfl
                try simp only [Act.put, List.setIfInBounds_toArray, List.set_cons_zero, List.set_cons_succ]
                refine wpAnyH_ready (rs := [17]) (by kernel_rfl) (by simp) ?_
                refine AllReadyH.cons rfl (fun K hK => ?_) ?_
                · (first | (refine step_appB rfl (.tmp 43) (.tmp 49) 23 rfl 22 i1 (.slice none 0 0) 1 24 Try.underlying23 gi gz0 gz1 gz2 rfl (by decide) w1.heap.size ?_ (.slice m q cm) q (tab rowV (revK x.M q)) ?_ (own_below HO3.out (by (repeat (first | exact Below.refl _ _ | refine RowKit.Below.past ?_ _ | refine RowKit.Below.alloc' ?_ _ | refine RowKit.Below.drew' ?_ | refine RowKit.Below.drewN' ?_ _ | refine RowKit.Below.setCell' ?_ (by simp [go_sem]) _))) (Nat.le_refl _)) (some ⟨w6.heap.size, 0, none⟩) 1 1 [.slice R2 n2 k2] ?_ ?_ ?_ ?_ ?_ ?_ ?_; (· exact le_below (w := w6) HW6.out.below.size (by (repeat (first | exact Below.refl _ _ | refine RowKit.Below.past ?_ _ | refine RowKit.Below.alloc' ?_ _ | refine RowKit.Below.drew' ?_ | refine RowKit.Below.drewN' ?_ _ | refine RowKit.Below.setCell' ?_ (by simp [go_sem]) _)))); (· rfl); (· rfl); (· rfl); (· refine cells_1 ?_; first | (refine GN.out _ _ ?_ ?_; (· omega); (simp [go_sem, *]; done)) | (simp [go_sem, *]; done)); (· intro u hu; simp at hu; subst hu; rfl); (· unfold maxLen; omega); (· omega)) | (refine step_appB rfl (.tmp 43) (.tmp 49) 23 rfl 22 i1 (.slice none 0 0) 1 24 Try.underlying23 gi gz0 gz1 gz2 rfl (by decide) w1.heap.size ?_ (.slice m q cm) q (tab rowV (revK x.M q)) ?_ (own_below HO3.out (by (repeat (first | exact Below.refl _ _ | refine RowKit.Below.past ?_ _ | refine RowKit.Below.alloc' ?_ _ | refine RowKit.Below.drew' ?_ | refine RowKit.Below.drewN' ?_ _ | refine RowKit.Below.setCell' ?_ (by simp [go_sem]) _))) (Nat.le_refl _)) (some ⟨wo.heap.size, 0, none⟩) 1 1 [.slice R2 n2 k2] ?_ ?_ ?_ ?_ ?_ ?_ ?_; (· exact le_below (w := w6) HW6.out.below.size (by (repeat (first | exact Below.refl _ _ | refine RowKit.Below.past ?_ _ | refine RowKit.Below.alloc' ?_ _ | refine RowKit.Below.drew' ?_ | refine RowKit.Below.drewN' ?_ _ | refine RowKit.Below.setCell' ?_ (by simp [go_sem]) _)))); (· rfl); (· rfl); (· rfl); (· refine cells_1 ?_; first | (refine GN.out _ _ ?_ ?_; (· omega); (simp [go_sem, *]; done)) | (simp [go_sem, *]; done)); (· intro u hu; simp at hu; subst hu; rfl); (· unfold maxLen; omega); (· omega)) | (refine step_appB rfl (.tmp 43) (.tmp 49) 23 rfl 22 i1 (.slice none 0 0) 1 24 Try.underlying23 gi gz0 gz1 gz2 rfl (by decide) w1.heap.size ?_ (.slice m q cm) q (tab rowV (revK x.M q)) ?_ (own_below HO3.out (by (repeat (first | exact Below.refl _ _ | refine RowKit.Below.past ?_ _ | refine RowKit.Below.alloc' ?_ _ | refine RowKit.Below.drew' ?_ | refine RowKit.Below.drewN' ?_ _ | refine RowKit.Below.setCell' ?_ (by simp [go_sem]) _))) (Nat.le_refl _)) (some ⟨wo.heap.size + 1, 0, none⟩) 1 1 [.slice R2 n2 k2] ?_ ?_ ?_ ?_ ?_ ?_ ?_; (· exact le_below (w := w6) HW6.out.below.size (by (repeat (first | exact Below.refl _ _ | refine RowKit.Below.past ?_ _ | refine RowKit.Below.alloc' ?_ _ | refine RowKit.Below.drew' ?_ | refine RowKit.Below.drewN' ?_ _ | refine RowKit.Below.setCell' ?_ (by simp [go_sem]) _)))); (· rfl); (· rfl); (· rfl); (· refine cells_1 ?_; first | (refine GN.out _ _ ?_ ?_; (· omega); (simp [go_sem, *]; done)) | (simp [go_sem, *]; done)); (· intro u hu; simp at hu; subst hu; rfl); (· unfold maxLen; omega); (· omega))); intro w7 A7 c7 ho7 hg7 hap7; have HW7 := hid (OtW.pushM (r := (R2, k2, l2)) (HW6.out.far (by (repeat (first | exact Below.refl _ _ | refine RowKit.Below.past ?_ _ | refine RowKit.Below.alloc' ?_ _ | refine RowKit.Below.drew' ?_ | refine RowKit.Below.drewN' ?_ _ | refine RowKit.Below.setCell' ?_ (by simp [go_sem]) _)))) (by rw [HL.out.2]; simp only [rowC, EN.out.2]; exact ho7) hg7 hap7); clear ho7 hg7 hap7; have g0 := FF.out w7 HW7.out; clear g1 g2 g3 g4 g5 g6 g7 g8 g9; obtain ⟨⟨g1, g2, g3, g4⟩, g5, g6, g7, g8, g9⟩ := g0
                  refine hK.out _ _ ?_ (fun hHeld => ?_)
                  · (first | (simp [go_sem, *]; done) | (simp [go_sem, *, World.cell?_alloc_some]; done))
                  clear hK K
                  try simp only [Act.put, List.setIfInBounds_toArray, List.set_cons_zero, List.set_cons_succ]
                  refine wpAnyH_done (by kernel_rfl) ?_ _
                  change wpList _ _ _ _ _ _
                  have HN1 := hid (HW7.out.set1 (.slice A6 (q + 1) c6))
                  have HN := hid (HN1.out.set2 (.slice A7 (q + 1) c7))
                  rw [← HS1.out, ← HS2.out] at HN
                  clear g1 g2 g3 g4 y1 y2 y3 y4 y5 y6 y7 y8 y9 hHeld HW6 HW7 HO3 GN HN1
                  go_wp2_with fail
                  refine ⟨⟨q + 1, _, A6, A7, c6, c7, rfl, hid (by have := HV.out; omega), by omega, HN⟩, ?_⟩
                  simp only [mI]
                  omega
                exact AllReadyH.nil
              exact AllReadyH.nil
            exact AllReadyH.nil
          exact AllReadyH.nil
        · obtain rfl : nm = q := by omega
          obtain rfl : v = -1 := by have := HV.out; omega
          have hho := HW.out.ho
          have hmo := HW.out.mo
          have e1 : revK x.H nm = x.H.reverse := by rw [← revK_all, ENH.out]
          have e2 : revK x.M nm = x.M.reverse := by rw [← revK_all, ENM.out]
          have hl1 : x.H.reverse.length = nm := by simp [ENH.out]
          have hl2 : x.M.reverse.length = nm := by simp [ENM.out]
          rw [e1, hl1] at hho
          rw [e2, hl2] at hmo
          have HBW := hid HW.out.below
          have hyI : (revBk x h m ch cm).In wo := ⟨(HX1.out.below HBW.out).f, rows_rev HX1.out.h HBW.out (Cells.of_own hho), rows_rev HX1.out.m HBW.out (Cells.of_own hmo)⟩
          have hycs : (revBk x h m ch cm).cs = #[.slice F nF x.F.2.1, .slice h nm ch, .slice m nm cm] := by unfold Bk.cs revBk; simp only [hl1, hl2, EFF.out.1, EFF.out.2]
          obtain ⟨hmy, hst, hor, hs8⟩ := rev_all (revBk_is ENH.out ENM.out h m ch cm) ER.out
          have hysm : (revBk x h m ch cm).Sm := sm_rev HSMX.out
          obtain ⟨y, ey⟩ : ∃ y, revBk x h m ch cm = y := ⟨_, rfl⟩
          rw [ey] at hyI hycs hmy hst hor hysm
          have hbx := HW.out.box
          have BC := hid (fun W (hb : Below wo.heap.size wo W) => (show W.cell? ⟨bc, 0, none⟩ = some (.slice F nF x.F.2.1) ∧ W.cell? ⟨bc, 1, none⟩ = some (.slice h nm ch) ∧ W.cell? ⟨bc, 2, none⟩ = some (.slice m nm cm) by
            have hr := hbx.below hb (Nat.le_refl _)
            exact ⟨by rw [Rec.cell hr]; rfl, by rw [Rec.cell hr]; rfl, by rw [Rec.cell hr]; rfl⟩))
          have PO2 := hid (fun W (hb : Below wo.heap.size wo W) => hycs ▸ Order_any y hysm W (hyI.below hb))
          have PST2 := hid (fun W (hb : Below wo.heap.size wo W) => hycs ▸ Stuck_any y hysm W (hyI.below hb))
          obtain ⟨st, est⟩ : ∃ s, stuckF x = s := ⟨_, rfl⟩
          rw [est] at hst hs8 PST
          rw [hst] at PST2
          obtain ⟨ns, ens⟩ : ∃ k, st.length = k := ⟨_, rfl⟩
          have hlr : ((st.map (rho nm)).reverse).length = ns := by simp [ens]
          rw [ens] at hs8 PST
          rw [hlr] at PST2
          have hmem : ∀ k, k < ns → ∃ t : Nat, atL st k = t ∧ t < nm := fun k hk => by
            have h1 : atL st k ∈ st := by simp [atL, show k < st.length by omega]
            obtain ⟨v, hv⟩ : ∃ v, atL st k = v := ⟨_, rfl⟩
            rw [hv] at h1 ⊢
            rw [← est] at h1
            unfold stuckF at h1
            rw [if_pos ER.out] at h1
            obtain ⟨t, e, ht⟩ := mem_iota.1 (List.mem_filter.1 h1).1
            exact ⟨t, e, by rw [← ENH.out]; exact ht⟩
          have HMEM := hid hmem
          have ENS := hid ens
          have HOR := hid hor
          clear hho hmo e1 e2 hl1 hl2 hyI hycs hmy hst hor hysm ey hbx est ens hlr hmem z0 z1 z2 HW
          obtain ⟨z0, z1, z2, -⟩ := BX.out wo HBW.out
          have FIN := hid (fun (W : World) (hb : Below wo.heap.size wo W) => HB1.out.trans ((HBW.out.trans (hb.mono HBW.out.size)).mono HB1.out.size))
          cases hox : orderF x with
          | none =>
            have hoy := HOR.out.2 hox
            rw [hox] at PO
            rw [hoy] at PO2
            clear hox hoy HOR
            go_upto_region 11 with (go_at_call 10; refine (PO.out _ HBW.out).mono ?_; rintro _ w6 ⟨rfl, hb6⟩; have HB6 := hid hb6; clear hb6)
            have H6 := hid (HBW.out.trans (HB6.out.mono HBW.out.size))
            clear z0 z1 z2
            obtain ⟨z0, z1, z2⟩ := BC.out w6 HB6.out
            go_upto_region 12 with (go_at_call 10; refine (PO2.out _ HB6.out).mono ?_; rintro _ w7 ⟨rfl, hb7⟩; have HB7 := hid hb7; clear hb7)
            have H7 := hid (HB6.out.trans (HB7.out.mono HB6.out.size))
            have H17 := hid (HBW.out.trans (H7.out.mono HBW.out.size))
            clear z0 z1 z2
            have SS := hid (fun W (hb : Below w7.heap.size w7 W) => And.intro (BX.out W (H17.out.trans (hb.mono H17.out.size))) (BC.out W (H7.out.trans (hb.mono H7.out.size))))
            have s0 := SS.out w7 (Below.refl _ _)
            obtain ⟨⟨z0, z1, z2, z3⟩, z4, z5, z6⟩ := s0
            go_region_held3 (fun W => W.cell? ⟨w.heap.size, 0, none⟩ = some (.slice F nF x.F.2.1) ∧ W.cell? ⟨w.heap.size, 1, none⟩ = some (.slice AH nm x.cH) ∧ W.cell? ⟨w.heap.size, 2, none⟩ = some (.slice AM nm x.cM) ∧ W.cell? ⟨bc, 0, none⟩ = some (.slice F nF x.F.2.1) ∧ W.cell? ⟨bc, 1, none⟩ = some (.slice h nm ch) ∧ W.cell? ⟨bc, 2, none⟩ = some (.slice m nm cm)) (simp [go_sem, *]) (first | (go_at_call 11; (with_reducible refine (PST.out _ (H17.out.trans (drewM H17.out.size))).mono ?_); rintro _ w8 ⟨A8, c8, rfl, hb8, ho8⟩; have HB8 := hid (drew_trans hb8); have HO8 := hid ho8; clear hb8 ho8; have s8 := SS.out w8 HB8.out; obtain ⟨⟨r0, r1, r2, r3⟩, r4, r5, r6⟩ := s8) | (go_at_call 11; (with_reducible refine (PST2.out _ (H7.out.trans (HB8.out.mono H7.out.size))).mono ?_); rintro _ w9 ⟨A9, c9, rfl, hb9, ho9⟩; have HB9 := hid hb9; have HO9 := hid ho9; clear hb9 ho9; have s9 := SS.out w9 (HB8.out.trans (HB9.out.mono HB8.out.size)); obtain ⟨⟨v0, v1, v2, v3⟩, v4, v5, v6⟩ := s9))
            have HS9 := hid (Cells.of_own (own_below HO8.out HB9.out (Nat.le_refl _)))
            have HT9 := hid (Cells.of_own HO9.out)
            have FIN9 := hid (FIN.out w9 (H7.out.trans ((HB8.out.trans (HB9.out.mono HB8.out.size)).mono H7.out.size)))
            clear HO8 HO9 HB8 HB9 SS PST PST2 PO PO2 PRM
            go_wp2_with fail
            go_loopw [79] (fun i wr => ∃ (k : Nat) (z : Past), i = .int .i64 k ∧ k ≤ ns ∧ wr = w9.past z) (fun i _ => ns - (intOf i).toNat)
            case atStart => exact ⟨0, _, rfl, by omega, World.past_refl w9⟩
            case round =>
              obtain ⟨k, z, rfl, hk, rfl⟩ := hrel
              by_cases hlk : k < ns
              · obtain ⟨t, et, ht⟩ := HMEM.out k hlk
                obtain ⟨b1, o1, e1, d1⟩ := i64_at HS9.out (k := k) (by rw [ENS.out]; exact hlk)
                obtain ⟨j, hj⟩ : ∃ j : Nat, j = ns - 1 - k := ⟨_, rfl⟩
                obtain ⟨b2, o2, e2, d2⟩ := i64_at HT9.out (k := j) (by simp [ENS.out]; omega)
                have e3 : atL (st.map (rho nm)).reverse j = (nm : Int) - 1 - t := by
                  unfold atL
                  rw [List.getElem?_reverse (by simp [ENS.out]; omega)]
                  simp only [List.length_map, ENS.out, List.getElem?_map]
                  rw [show ns - 1 - j = k by omega]
                  have h5 : k < st.length := by rw [ENS.out]; exact hlk
                  rw [List.getElem?_eq_getElem h5]
                  have h6 : st[k] = (t : Int) := by rw [← et]; simp [atL, h5]
                  simp [rho, h6]
                rw [e3] at d2
                rw [et] at d1
                obtain ⟨u, eu⟩ : ∃ u : Int, (nm : Int) - 1 - t = u := ⟨_, rfl⟩
                rw [eu] at d2
                subst e1
                subst e2
                have hj1 : j < ns := by omega
                have w1' : IntKind.i64.wrap ((ns : Int) - 1) = (ns : Int) - 1 := by rw [IntKind.wrap_i64]; omega
                have w2' : IntKind.i64.wrap ((ns : Int) - 1 - (k : Int)) = (j : Int) := by rw [IntKind.wrap_i64]; omega
                have w3' : IntKind.i64.wrap ((nm : Int) - 1) = (nm : Int) - 1 := by rw [IntKind.wrap_i64]; omega
                have w4' : IntKind.i64.wrap ((nm : Int) - 1 - u) = (t : Int) := by rw [IntKind.wrap_i64]; omega
                clear et e3 eu hj
                go_wp2_with fail
                refine wp_region_past (by kernel_rfl) (by kernel_rfl) ?_
                repeat (go_big_quiet_step ((first | (go_at_call 16; first | with_reducible exact Calls.in_past (True) | with_reducible exact Calls.in_past2 (True)) | (go_at_call 16; first | exact Calls.in_past (True) | exact Calls.in_past2 (True)))))
                refine wpQuiet_nil ?_
                rintro _ ⟨_, rfl⟩
                go_wp2_with fail
                go_roundw
                case rel => exact ⟨k + 1, _, by go_num, by omega, by first | rfl | trivial | exact World.past_past⟩
                case measure => simp [intOf]; omega
              · obtain rfl : ns = k := by omega
                go_wp2_with fail
                go_ret
                exact Gives.mk rfl (RowKit.Below.past FIN9.out _)
          | some l =>
            have hoy : ∃ l2, orderF y = some l2 := by
              cases h : orderF y with
              | none => rw [HOR.out.1 h] at hox; cases hox
              | some l2 => exact ⟨l2, rfl⟩
            obtain ⟨l2, hoy⟩ := hoy
            rw [hox] at PO
            rw [hoy] at PO2
            clear hox hoy HOR
            go_upto_region 11 with (go_at_call 10; refine (PO.out _ HBW.out).mono ?_; rintro _ w6 ⟨Ao, do', rfl, hb6, -⟩; have HB6 := hid hb6; clear hb6)
            have H6 := hid (HBW.out.trans (HB6.out.mono HBW.out.size))
            clear z0 z1 z2
            obtain ⟨z0, z1, z2⟩ := BC.out w6 HB6.out
            go_upto_region 12 with (go_at_call 10; refine (PO2.out _ HB6.out).mono ?_; rintro _ w7 ⟨Ap, dp, rfl, hb7, -⟩; have HB7 := hid hb7; clear hb7)
            have H7 := hid (HB6.out.trans (HB7.out.mono HB6.out.size))
            have H17 := hid (HBW.out.trans (H7.out.mono HBW.out.size))
            clear z0 z1 z2
            have SS := hid (fun W (hb : Below w7.heap.size w7 W) => And.intro (BX.out W (H17.out.trans (hb.mono H17.out.size))) (BC.out W (H7.out.trans (hb.mono H7.out.size))))
            have s0 := SS.out w7 (Below.refl _ _)
            obtain ⟨⟨z0, z1, z2, z3⟩, z4, z5, z6⟩ := s0
            go_region_held3 (fun W => W.cell? ⟨w.heap.size, 0, none⟩ = some (.slice F nF x.F.2.1) ∧ W.cell? ⟨w.heap.size, 1, none⟩ = some (.slice AH nm x.cH) ∧ W.cell? ⟨w.heap.size, 2, none⟩ = some (.slice AM nm x.cM) ∧ W.cell? ⟨bc, 0, none⟩ = some (.slice F nF x.F.2.1) ∧ W.cell? ⟨bc, 1, none⟩ = some (.slice h nm ch) ∧ W.cell? ⟨bc, 2, none⟩ = some (.slice m nm cm)) (simp [go_sem, *]) (first | (go_at_call 11; (with_reducible refine (PST.out _ (H17.out.trans (drewM H17.out.size))).mono ?_); rintro _ w8 ⟨A8, c8, rfl, hb8, ho8⟩; have HB8 := hid (drew_trans hb8); have HO8 := hid ho8; clear hb8 ho8; have s8 := SS.out w8 HB8.out; obtain ⟨⟨r0, r1, r2, r3⟩, r4, r5, r6⟩ := s8) | (go_at_call 11; (with_reducible refine (PST2.out _ (H7.out.trans (HB8.out.mono H7.out.size))).mono ?_); rintro _ w9 ⟨A9, c9, rfl, hb9, ho9⟩; have HB9 := hid hb9; have HO9 := hid ho9; clear hb9 ho9; have s9 := SS.out w9 (HB8.out.trans (HB9.out.mono HB8.out.size)); obtain ⟨⟨v0, v1, v2, v3⟩, v4, v5, v6⟩ := s9))
            have HS9 := hid (Cells.of_own (own_below HO8.out HB9.out (Nat.le_refl _)))
            have HT9 := hid (Cells.of_own HO9.out)
            have FIN9 := hid (FIN.out w9 (H7.out.trans ((HB8.out.trans (HB9.out.mono HB8.out.size)).mono H7.out.size)))
            clear HO8 HO9 HB8 HB9 SS PST PST2 PO PO2 PRM
            go_wp2_with fail
            go_loopw [79] (fun i wr => ∃ (k : Nat) (z : Past), i = .int .i64 k ∧ k ≤ ns ∧ wr = w9.past z) (fun i _ => ns - (intOf i).toNat)
            case atStart => exact ⟨0, _, rfl, by omega, World.past_refl w9⟩
            case round =>
              obtain ⟨k, z, rfl, hk, rfl⟩ := hrel
              by_cases hlk : k < ns
              · obtain ⟨t, et, ht⟩ := HMEM.out k hlk
                obtain ⟨b1, o1, e1, d1⟩ := i64_at HS9.out (k := k) (by rw [ENS.out]; exact hlk)
                obtain ⟨j, hj⟩ : ∃ j : Nat, j = ns - 1 - k := ⟨_, rfl⟩
                obtain ⟨b2, o2, e2, d2⟩ := i64_at HT9.out (k := j) (by simp [ENS.out]; omega)
                have e3 : atL (st.map (rho nm)).reverse j = (nm : Int) - 1 - t := by
                  unfold atL
                  rw [List.getElem?_reverse (by simp [ENS.out]; omega)]
                  simp only [List.length_map, ENS.out, List.getElem?_map]
                  rw [show ns - 1 - j = k by omega]
                  have h5 : k < st.length := by rw [ENS.out]; exact hlk
                  rw [List.getElem?_eq_getElem h5]
                  have h6 : st[k] = (t : Int) := by rw [← et]; simp [atL, h5]
                  simp [rho, h6]
                rw [e3] at d2
                rw [et] at d1
                obtain ⟨u, eu⟩ : ∃ u : Int, (nm : Int) - 1 - t = u := ⟨_, rfl⟩
                rw [eu] at d2
                subst e1
                subst e2
                have hj1 : j < ns := by omega
                have w1' : IntKind.i64.wrap ((ns : Int) - 1) = (ns : Int) - 1 := by rw [IntKind.wrap_i64]; omega
                have w2' : IntKind.i64.wrap ((ns : Int) - 1 - (k : Int)) = (j : Int) := by rw [IntKind.wrap_i64]; omega
                have w3' : IntKind.i64.wrap ((nm : Int) - 1) = (nm : Int) - 1 := by rw [IntKind.wrap_i64]; omega
                have w4' : IntKind.i64.wrap ((nm : Int) - 1 - u) = (t : Int) := by rw [IntKind.wrap_i64]; omega
                clear et e3 eu hj
                go_wp2_with fail
                refine wp_region_past (by kernel_rfl) (by kernel_rfl) ?_
                repeat (go_big_quiet_step ((first | (go_at_call 16; first | with_reducible exact Calls.in_past (True) | with_reducible exact Calls.in_past2 (True)) | (go_at_call 16; first | exact Calls.in_past (True) | exact Calls.in_past2 (True)))))
                refine wpQuiet_nil ?_
                rintro _ ⟨_, rfl⟩
                go_wp2_with fail
                go_roundw
                case rel => exact ⟨k + 1, _, by go_num, by omega, by first | rfl | trivial | exact World.past_past⟩
                case measure => simp [intOf]; omega
              · obtain rfl : ns = k := by omega
                go_wp2_with fail
                go_ret
                exact Gives.mk rfl (RowKit.Below.past FIN9.out _)
theorem bankOther_own : ownKnob Try.prog.godebug = none := by kernel_rfl
theorem bankOther_laidOut : laidOutB Try.prog = true := by kernel_rfl
theorem bankOther_types : ∀ t ∈ Try.f4.params.toList, Try.prog.readableRec t = true ∧ t < Try.prog.types.size := by
  rw [Try.params4]
  intro t ht
  simp only [List.mem_cons, List.not_mem_nil, or_false] at ht
  rcases ht with rfl
  · exact ⟨by kernel_rfl, of_decide_eq_true (by kernel_rfl)⟩
set_option maxRecDepth 100000 in
theorem bankOther_lifted (os : Os) (started : os.Started) (H : Type) (enc : TypeId × Value → H) :
    ReturnsInHanded {} Try.checked os 4 .any (Rows.bankOtherSpec.pre6 enc Try.prog Try.f4 Rows.bankOtherRow.domain false) (Rows.bankOtherSpec.post enc Try.prog Try.f4 false true false false) := by
  refine returnsInHanded_of_change (C := Try.checked) bankOther_own started (by kernel_rfl) Try.func4
    (ChangeSpec.witness6 (enc := enc) (C := Try.checked) false ⟨#[], #[.agg #[.slice none 0 0, .slice none 0 0, .slice none 0 0]], []⟩ 8 (by kernel_rfl) (by kernel_rfl) (by kernel_rfl) (by kernel_rfl)) ?_
  intro W base args ds gs before hval0 hW hcnd _
  have hval : ∀ (j : Nat) t v, Try.f4.params[j]? = some t → args[j]? = some v → Value.okWide Try.prog W .any base t v := hval0
  have hW' := hW
  obtain ⟨p, q, hA0, hV, hpq, hfz, hnd⟩ := hW
  have hA : DataW.TrodAll enc Try.prog W 0 (fun _ => true) true Try.f4.params.toList args.toList ds p := hA0
  rw [Try.params4] at hA hval
  obtain ⟨v0, vs0, d0, ds0, p0, q0, hargs, rfl, rfl, h0, r0⟩ := trodAll_cons hA
  obtain ⟨rfl, rfl, rfl⟩ := trodAll_nil r0
  obtain rfl : args = #[v0] := by cases args; simp_all
  have k0 := hval 0 25 v0 rfl rfl
  clear hA0 hval0 hval hcnd hfz hnd hpq hV hargs r0
  suffices hs : Calls Try.prog 4 #[v0] W (Gives (.bool true) W) from hs.mono fun e W' ⟨he, x, hx⟩ => ⟨_, he, law_post bankOther_laidOut hW' rfl rfl (by kernel_rfl) (by first | exact Try.underlying4 | rfl) bankOther_types (hx ▸ W.below_past x)⟩
  clear hW'
  obtain ⟨c0, rfl, g0⟩ := rd_agg (.inl ⟨_, Try.underlying25⟩) k0 h0
  obtain ⟨x, rfl, hx⟩ := rd_bank g0
  exact BankOther_any x W hx
theorem bankOther_holds : Rows.BankOtherSaid :=
  OpenClaim.holds_of_wide 4 Try.f4 rfl rfl rfl rfl rfl rfl rfl ⟨rfl, rfl, rfl, rfl, rfl⟩ rfl rfl rfl rfl rfl (by kernel_rfl) Try.func4 (by kernel_rfl)
    (of_decide_eq_true (by kernel_rfl)) (by unfold Func.isWrapper; first | (rw [if_pos (by decide +kernel)]; kernel_rfl) | (rw [if_neg (by decide +kernel)]; exact ⟨rfl, rfl⟩))
    (fun os started H enc _ => bankOther_lifted os started H enc)
end Go.Proofs.Ytddngloojacceaa
