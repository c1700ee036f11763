/-
  Layer 44's statements: what is awake. No condition.
-/
import Derived.Test.YtddngloojacceaaLwB
namespace Go.Proofs.Ytddngloojacceaa
open Go Go.RowKit
theorem Eqv.fits {x y : Bk} (e : Eqv x y) (who : Int) (n : List Int) : fitsF x who n = fitsF y who n := by unfold fitsF; rw [e.may, e.hl, e.f]
theorem Eqv.ask {x y : Bk} (e : Eqv x y) (who : Int) (n : List Int) : askE x who n = askE y who n := by
  unfold askE
  rw [e.fits, e.most, e.has, e.f, (e.moved who.toNat n 1).order]
theorem Eqv.give {x y : Bk} (e : Eqv x y) (who : Int) (n : List Int) : giveE x who n = giveE y who n := by
  unfold giveE
  rw [e.fits, e.has, e.f]
theorem rec_new_at {w : World} {n : Nat} {t : TypeId} {cs : Array Value} (h : n = w.heap.size) : Rec (w.alloc (.cells cs t)) n t cs := by subst h; exact Rec.new w t cs
def bk7 (a b c d e f g : Nat) : Bk := ⟨(some ⟨a, 0, none⟩, 1, [1]), some ⟨d, 0, none⟩, 2, [(some ⟨b, 0, none⟩, 1, [1]), (some ⟨c, 0, none⟩, 1, [1])], some ⟨g, 0, none⟩, 2, [(some ⟨e, 0, none⟩, 1, [2]), (some ⟨f, 0, none⟩, 1, [3])]⟩
theorem cells_of_rec {W : World} {a : Nat} {t : TypeId} {cs : Array Value} {l : List Value} (h : Rec W a t cs) (e : cs.toList = l) : Cells W (some ⟨a, 0, none⟩) l := fun _ => ⟨a, 0, rfl, fun i v hi => by
  rw [Nat.zero_add, Rec.cell h, ← Array.getElem?_toList, e]; exact hi⟩
theorem rows_two {W : World} {d : Nat} {r1 r2 : Rw} (h : Rec W d 22 #[rowC r1, rowC r2]) (h1 : Cells W r1.1 (i64s r1.2.2)) (h2 : Cells W r2.1 (i64s r2.2.2)) : RowsW W (some ⟨d, 0, none⟩) [r1, r2] := by
  refine ⟨cells_of_rec h rfl, fun i hi => ?_⟩
  match i, hi with
  | 0, _ => exact h1
  | 1, _ => exact h2
  | i + 2, hi => simp at hi; omega
theorem bk7_in {W : World} {a b c d e f g : Nat} (ha : Rec W a 3 #[.int .i64 1]) (hb : Rec W b 3 #[.int .i64 1]) (hc : Rec W c 3 #[.int .i64 1]) (hd : Rec W d 22 #[.slice (some ⟨b, 0, none⟩) 1 1, .slice (some ⟨c, 0, none⟩) 1 1])
    (he : Rec W e 3 #[.int .i64 2]) (hf : Rec W f 3 #[.int .i64 3]) (hg : Rec W g 22 #[.slice (some ⟨e, 0, none⟩) 1 1, .slice (some ⟨f, 0, none⟩) 1 1]) : (bk7 a b c d e f g).In W :=
  ⟨cells_of_rec ha rfl, rows_two hd (cells_of_rec hb rfl) (cells_of_rec hc rfl), rows_two hg (cells_of_rec he rfl) (cells_of_rec hf rfl)⟩
def bkA : Bk := mkB [1] [[1], [1]] [[2], [3]]
theorem bk7_eqv (a b c d e f g : Nat) : Eqv (bk7 a b c d e f g) bkA := ⟨rfl, rfl, rfl⟩
theorem order7 : orderF bkA = some [0, 1] := by decide +kernel
theorem stuck7 : stuckF bkA = [] := by decide +kernel
theorem ask71 : askE bkA 1 [1] = 9 := by decide +kernel
theorem ask70 : askE bkA 0 [1] = 0 := by decide +kernel
theorem bk7_sm (a b c d e f g : Nat) : (bk7 a b c d e f g).Sm := ⟨by simp [bk7], by simp [bk7], fun i => by
  match i with
  | 0 => simp [bk7, hasR, mostR, rAt]
  | 1 => simp [bk7, hasR, mostR, rAt]
  | i + 2 => simp [bk7, hasR, mostR, rAt]⟩
set_option maxRecDepth 100000 in
set_option maxHeartbeats 4000000 in
theorem awake_any (w : World) : Calls Try.prog 7 #[] w (Gives (.bool true) w) := by
  obtain ⟨c1, e1⟩ : ∃ c, c = Obj.cells #[Value.int .i64 1] 3 := ⟨_, rfl⟩
  obtain ⟨W, eW⟩ : ∃ W, W = (((((((w.alloc (.cells #[.int .i64 1] 3)).alloc (.cells #[.int .i64 1] 3)).alloc (.cells #[.int .i64 1] 3)).alloc (.cells #[.slice (some ⟨w.heap.size + 1, 0, none⟩) 1 1, .slice (some ⟨w.heap.size + 1 + 1, 0, none⟩) 1 1] 22)).alloc (.cells #[.int .i64 2] 3)).alloc (.cells #[.int .i64 3] 3)).alloc (.cells #[.slice (some ⟨w.heap.size + 1 + 1 + 1 + 1, 0, none⟩) 1 1, .slice (some ⟨w.heap.size + 1 + 1 + 1 + 1 + 1, 0, none⟩) 1 1] 22)).alloc (.cells #[.slice (some ⟨w.heap.size, 0, none⟩) 1 1, .slice (some ⟨w.heap.size + 1 + 1 + 1, 0, none⟩) 2 2, .slice (some ⟨w.heap.size + 1 + 1 + 1 + 1 + 1 + 1, 0, none⟩) 2 2] 25) := ⟨_, rfl⟩
  have hbW : Below w.heap.size w W := by rw [eW]; (have h0 := Below.refl w.heap.size w); (repeat (first | exact Below.refl _ _ | refine RowKit.Below.past ?_ _ | refine RowKit.Below.alloc' ?_ _ | refine RowKit.Below.drew' ?_ | refine RowKit.Below.drewN' ?_ _ | refine RowKit.Below.setCell' ?_ (by simp [go_sem]) _))
  have hx : (bk7 w.heap.size (w.heap.size + 1) (w.heap.size + 1 + 1) (w.heap.size + 1 + 1 + 1) (w.heap.size + 1 + 1 + 1 + 1) (w.heap.size + 1 + 1 + 1 + 1 + 1) (w.heap.size + 1 + 1 + 1 + 1 + 1 + 1)).In W := by
    rw [eW]
    refine bk7_in ?_ ?_ ?_ ?_ ?_ ?_ ?_
    all_goals (repeat (first | (refine rec_new_at ?_; simp only [World.size_alloc]; done) | refine Rec.alloc ?_ _))
  have hbox : Rec W (w.heap.size + 1 + 1 + 1 + 1 + 1 + 1 + 1) 25 #[.slice (some ⟨w.heap.size, 0, none⟩) 1 1, .slice (some ⟨w.heap.size + 1 + 1 + 1, 0, none⟩) 2 2, .slice (some ⟨w.heap.size + 1 + 1 + 1 + 1 + 1 + 1, 0, none⟩) 2 2] := by
    rw [eW]; exact rec_new_at (by simp)
  have hcs : (bk7 w.heap.size (w.heap.size + 1) (w.heap.size + 1 + 1) (w.heap.size + 1 + 1 + 1) (w.heap.size + 1 + 1 + 1 + 1) (w.heap.size + 1 + 1 + 1 + 1 + 1) (w.heap.size + 1 + 1 + 1 + 1 + 1 + 1)).cs = #[.slice (some ⟨w.heap.size, 0, none⟩) 1 1, .slice (some ⟨w.heap.size + 1 + 1 + 1, 0, none⟩) 2 2, .slice (some ⟨w.heap.size + 1 + 1 + 1 + 1 + 1 + 1, 0, none⟩) 2 2] := rfl
  obtain ⟨x, ex⟩ : ∃ x, bk7 w.heap.size (w.heap.size + 1) (w.heap.size + 1 + 1) (w.heap.size + 1 + 1 + 1) (w.heap.size + 1 + 1 + 1 + 1) (w.heap.size + 1 + 1 + 1 + 1 + 1) (w.heap.size + 1 + 1 + 1 + 1 + 1 + 1) = x := ⟨_, rfl⟩
  have hev : Eqv x bkA := by rw [← ex]; exact bk7_eqv _ _ _ _ _ _ _
  have hsm : x.Sm := by rw [← ex]; exact bk7_sm _ _ _ _ _ _ _
  rw [ex] at hx hcs
  have PO := hid (fun W' (h : Below W.heap.size W W') => order7 ▸ hev.order ▸ hcs ▸ Order_any x hsm W' (hx.below h))
  have PS := hid (fun W' (h : Below W.heap.size W W') => stuck7 ▸ hev.stuck ▸ hcs ▸ Stuck_any x hsm W' (hx.below h))
  have PA := hid (fun W' (g : Nat) (h : Below W.heap.size W W') (hc : W'.cell? ⟨g, 0, none⟩ = some (.int .i64 1)) => ask71 ▸ hev.ask 1 [1] ▸ hcs ▸ Ask_any x hsm 1 (some ⟨g, 0, none⟩) 1 1 [1] rfl (by decide) W' (hx.below h) (fun _ => ⟨g, 0, rfl, fun i v hi => by
    match i, hi with
    | 0, hi => simp [i64s] at hi; subst hi; exact hc
    | i + 1, hi => simp [i64s] at hi⟩))
  have PB := hid (fun W' (g : Nat) (h : Below W.heap.size W W') (hc : W'.cell? ⟨g, 0, none⟩ = some (.int .i64 1)) => ask70 ▸ hev.ask 0 [1] ▸ hcs ▸ Ask_any x hsm 0 (some ⟨g, 0, none⟩) 1 1 [1] rfl (by decide) W' (hx.below h) (fun _ => ⟨g, 0, rfl, fun i v hi => by
    match i, hi with
    | 0, hi => simp [i64s] at hi; subst hi; exact hc
    | i + 1, hi => simp [i64s] at hi⟩))
  have BX := hid (fun W' (h : Below W.heap.size W W') => (show W'.cell? ⟨w.heap.size + 1 + 1 + 1 + 1 + 1 + 1 + 1, 0, none⟩ = some (.slice (some ⟨w.heap.size, 0, none⟩) 1 1) ∧ W'.cell? ⟨w.heap.size + 1 + 1 + 1 + 1 + 1 + 1 + 1, 1, none⟩ = some (.slice (some ⟨w.heap.size + 1 + 1 + 1, 0, none⟩) 2 2) ∧ W'.cell? ⟨w.heap.size + 1 + 1 + 1 + 1 + 1 + 1 + 1, 2, none⟩ = some (.slice (some ⟨w.heap.size + 1 + 1 + 1 + 1 + 1 + 1, 0, none⟩) 2 2) by
    have hb := hbox.below h (Nat.le_refl _)
    exact ⟨by rw [Rec.cell hb]; rfl, by rw [Rec.cell hb]; rfl, by rw [Rec.cell hb]; rfl⟩))
  have HX := hid hx
  have HEV := hid hev
  have HBW := hid hbW
  have EW := hid eW
  clear eW hbW hx hev hsm hcs ex hbox e1
  obtain ⟨z0, z1, z2⟩ := BX.out W (Below.refl _ _)
  go_enter Try.func7, Try.ntmps7
  go_upto_region 2 with fail
  rw [← EW.out]
  go_upto_region 3 with (go_at_call 10; refine (PO.out _ (Below.refl _ _)).mono ?_; rintro _ w3 ⟨A3, d3, rfl, hb3, ho3⟩; have HB3 := hid hb3; have HO3 := hid ho3; clear hb3 ho3)
  obtain ⟨g3, dd, e3, -⟩ := own_succ HO3.out (by decide)
  injection e3 with e3 _ e4
  subst e3; subst e4
  clear z0 z1 z2
  obtain ⟨z0, z1, z2⟩ := BX.out w3 HB3.out
  have hlb : w.heap.size + 1 + 1 + 1 + 1 + 1 + 1 + 1 < w3.heap.size := lt_of_cell z0
  go_upto_region 4 with (go_at_call 12; refine (PA.out _ w3.heap.size (RowKit.Below.alloc' HB3.out _) (by simp [go_sem])).mono ?_; rintro _ w4 ⟨y4, rfl, hb4, hy4, hv4⟩; obtain ⟨A40, n40, d40, A41, n41, d41, A42, n42, d42, ev4⟩ : ∃ A0 n0 d0 A1 n1 d1 A2 n2 d2, y4.cs = #[.slice A0 n0 d0, .slice A1 n1 d1, .slice A2 n2 d2] := ⟨_, _, _, _, _, _, _, _, _, rfl⟩; rw [ev4]; have HB4 := hid hb4; clear hb4 hy4 hv4 ev4)
  have HB34 := hid (show Below w3.heap.size w3 w4 from ((Below.refl _ w3).alloc (Nat.le_refl _) _).trans (HB4.out.mono (by simp)))
  have HBW4 := hid (HB3.out.trans (HB34.out.mono HB3.out.size))
  clear z0 z1 z2 hlb
  obtain ⟨w5, ew5⟩ : ∃ w5, w5 = w4.alloc (.cells #[.slice A40 n40 d40, .slice A41 n41 d41, .slice A42 n42 d42] 25) := ⟨_, rfl⟩
  rw [← ew5]
  have HBW5 := hid (show Below W.heap.size W w5 by rw [ew5]; exact HBW4.out.alloc HBW4.out.size _)
  have HB35 := hid (show Below w3.heap.size w3 w5 by rw [ew5]; exact HB34.out.alloc HB34.out.size _)
  clear ew5
  obtain ⟨z0, z1, z2⟩ := BX.out w5 HBW5.out
  have hlb : w.heap.size + 1 + 1 + 1 + 1 + 1 + 1 + 1 < w5.heap.size := lt_of_cell z0
  go_upto_region 5 with (go_at_call 12; refine (PB.out _ w5.heap.size (RowKit.Below.alloc' HBW5.out _) (by simp [go_sem])).mono ?_; rintro _ w6 ⟨y6, rfl, hb6, hy6, hv6⟩; obtain ⟨A60, n60, d60, A61, n61, d61, A62, n62, d62, ev6⟩ : ∃ A0 n0 d0 A1 n1 d1 A2 n2 d2, y6.cs = #[.slice A0 n0 d0, .slice A1 n1 d1, .slice A2 n2 d2] := ⟨_, _, _, _, _, _, _, _, _, rfl⟩; rw [ev6]; have HB6 := hid hb6; have HY6 := hid hy6; have HV6 := hid hv6; have EV6 := hid ev6; clear hb6 hy6 hv6 ev6)
  have HB56 := hid (show Below w5.heap.size w5 w6 from ((Below.refl _ w5).alloc (Nat.le_refl _) _).trans (HB6.out.mono (by simp)))
  clear z0 z1 z2 hlb
  obtain ⟨w7, ew7⟩ : ∃ w7, w7 = w6.alloc (.cells #[.slice A60 n60 d60, .slice A61 n61 d61, .slice A62 n62 d62] 25) := ⟨_, rfl⟩
  have hr7 : Rec w7 w6.heap.size 25 #[.slice A60 n60 d60, .slice A61 n61 d61, .slice A62 n62 d62] := by rw [ew7]; exact Rec.new w6 _ _
  have HB67 := hid (show Below w6.heap.size w6 w7 by rw [ew7]; exact (Below.refl _ w6).alloc (Nat.le_refl _) _)
  rw [← ew7]
  clear ew7
  have HB57 := hid (HB56.out.trans (HB67.out.mono HB56.out.size))
  have HBW7 := hid (HBW5.out.trans (HB57.out.mono HBW5.out.size))
  have HB37 := hid (HB35.out.trans (HB57.out.mono HB35.out.size))
  have HE6 : Hid (Eqv y6 (movedB bkA 0 [1] 1)) := hid (HV6.out.trans (HEV.out.moved 0 [1] 1))
  have v1 : y6.F.2.2 = [0] := HE6.out.f.trans (by decide +kernel)
  have v2 : hasR y6 0 = [2] := (HE6.out.has 0).trans (by decide +kernel)
  have v3 : y6.H.length = 2 := HE6.out.hl.trans (by decide +kernel)
  have hy7 := HY6.out.below HB67.out
  have hcs6 := EV6.out
  unfold Bk.cs at hcs6
  simp only [Array.mk.injEq, List.cons.injEq, Value.slice.injEq, and_true] at hcs6
  obtain ⟨⟨f1, f2, f3⟩, ⟨f4, f5, f6⟩, -⟩ := hcs6
  have hF := hy7.f
  rw [v1, f1] at hF
  obtain ⟨bF, oF, eF, cF⟩ := i64_at hF (k := 0) (by decide)
  subst eF
  obtain ⟨bh, oh, Rh, ch, eH, q1, k1⟩ := hy7.h.at (i := 0) (by rw [v3]; decide)
  rw [show (rAt y6.H 0).2.2 = [2] from v2] at q1 k1
  obtain ⟨bR, oR, eR, cR⟩ := i64_at k1 (k := 0) (by decide)
  subst eR
  rw [f4] at eH
  subst eH
  rw [v1] at f2
  rw [v3] at f5
  simp at f2
  subst f2
  subst f5
  have b0 := Rec.cell hr7 0
  have b1 := Rec.cell hr7 1
  simp at b0 b1
  have q3 : w7.cell? ⟨g3, 0, none⟩ = some (.int .i64 0) := by
    have h0 : w3.cell? ⟨g3, 0, none⟩ = some (.int .i64 0) := by rw [HO3.out.cellAt 0 (by decide)]; rfl
    exact (HB37.out.cell (lt_of_cell h0)).trans h0
  simp only [Nat.add_zero] at cF q1 cR
  change w7.cell? _ = some (.int .i64 0) at cF
  change w7.cell? _ = some (.int .i64 2) at cR
  change w7.cell? _ = some (.slice _ 1 _) at q1
  obtain ⟨z0, z1, z2⟩ := BX.out w7 HBW7.out
  clear hF hy7 k1 v1 v2 v3 f1 f3 f4 f6 hr7
  go_wp2_with (go_at_call 11; refine (PS.out _ HBW7.out).mono ?_; rintro _ w8 ⟨A8, d8, rfl, hb8, ho8⟩; have HB8 := hid hb8; clear hb8 ho8)
  go_ret
  exact Gives.mk rfl (HBW.out.trans ((HBW7.out.trans (HB8.out.mono HBW7.out.size)).mono HBW.out.size))
end Go.Proofs.Ytddngloojacceaa
