/-
  Layer 44: so much more is asked for. No condition but that rows are not long.
-/
import Derived.Test.YtddngloojacceaaBkN
namespace Go.Proofs.Ytddngloojacceaa
open Go Go.RowKit
theorem in_set3 {y : Bk} {w wr : World} {b : Nat} (h : y.Own w wr) (hb : Below w.heap.size w wr) (hr : Rec w b 25 #[.slice none 0 0, .slice none 0 0, .slice none 0 0]) (hr2 : Rec wr b 25 #[.slice none 0 0, .slice none 0 0, .slice none 0 0]) (v0 v1 v2 : Value) :
    y.In (((wr.setCell ⟨b, 0, none⟩ v0).setCell ⟨b, 1, none⟩ v1).setCell ⟨b, 2, none⟩ v2) := by
  have h3 := ((h.setB hr2 0 v0).setB (hr2.set 0 v0) 1 v1).setB ((hr2.set 0 v0).set 1 v1) 2 v2
  refine h3.inK hr (fun i x => ?_) ((((Kept.of_below hb (fun k => k = b)).setCell (p := ⟨b, 0, none⟩) (.inr rfl) v0).setCell (p := ⟨b, 1, none⟩) (.inr rfl) v1).setCell (p := ⟨b, 2, none⟩) (.inr rfl) v2)
  match i with
  | 0 => simp
  | 1 => simp
  | 2 => simp
  | i + 3 => simp
theorem sm_of_moved {x y : Bk} {k nh : Nat} (ok : x.Ok k nh) {j : Nat} {n : List Int} {s : Int} (e : Eqv y (movedB x j n s)) : y.Sm := by
  have hh : valR y.H = (valR x.H).set j (plusF (hasR x j) n s) := e.h.trans (mkB_h _ _ _)
  have hm : valR y.M = valR x.M := e.m.trans (mkB_m _ _ _)
  have hf : y.F.2.2 = plusF x.F.2.2 n (-s) := e.f
  have len : ∀ l : List (List Int), (∀ r ∈ l, r.length ≤ k) → ∀ i, (atR l i).length ≤ k := fun l h i => by
    unfold atR
    cases e : l[i]? with
    | none => simp
    | some r => exact h r (List.mem_of_getElem? e)
  have lh : ∀ r ∈ valR x.H, r.length ≤ k := fun r hr => by
    obtain ⟨i, hi⟩ := List.mem_iff_getElem?.1 hr
    have h1 : i < nh := by have := (List.getElem?_eq_some_iff.1 hi).1; rw [valR_length, ok.eh] at this; exact this
    have h2 := ok.hl i h1
    rw [hasR_val, atR, hi] at h2
    exact Nat.le_of_eq h2
  have lm : ∀ r ∈ valR x.M, r.length ≤ k := fun r hr => by
    obtain ⟨i, hi⟩ := List.mem_iff_getElem?.1 hr
    have h1 : i < nh := by have := (List.getElem?_eq_some_iff.1 hi).1; rw [valR_length, ok.em] at this; exact this
    have h2 := ok.ml i h1
    rw [mostR_val, atR, hi] at h2
    exact Nat.le_of_eq h2
  have hk := ok.k4
  have h8 := ok.h8
  refine ⟨?_, ?_, fun i => ⟨?_, ?_⟩⟩
  · rw [hf, plusF_length, ok.ef]; omega
  · rw [← valR_length, hh, List.length_set, valR_length, ok.eh]; omega
  · rw [hasR_val, hh]
    refine Nat.le_trans (len _ (fun r hr => ?_) i) (by omega)
    rcases List.mem_or_eq_of_mem_set hr with h | h
    · exact lh r h
    · subst h
      rw [plusF_length]
      by_cases hj : j < nh
      · rw [ok.hl j hj]; exact Nat.le_refl _
      · rw [hasR_val, atR, List.getElem?_eq_none (by rw [valR_length, ok.eh]; omega)]; simp
  · rw [mostR_val, hm]
    exact Nat.le_trans (len _ lm i) (by omega)
set_option maxRecDepth 100000 in
set_option maxHeartbeats 4000000 in
theorem Ask_any (x : Bk) (hs : x.Sm) (who : Int) (A : Option Addr) (ca m : Nat) (n : List Int) (em : n.length = m) (hm : m ≤ 1000000) (w : World) (hx : x.In w) (ha : Cells w A (i64s n)) :
    Calls Try.prog 12 #[.agg x.cs, .int .i64 who, .slice A m ca] w (BankP (askE x who n) (movedB x who.toNat n 1) w) := by
  obtain ⟨w1, ew1⟩ : ∃ w1, w1 = (w.alloc (.cells x.cs 25)).alloc (.cells #[.slice none 0 0, .slice none 0 0, .slice none 0 0] 25) := ⟨_, rfl⟩
  have hb1 : Below w.heap.size w w1 := by rw [ew1]; exact ((Below.refl _ w).alloc (Nat.le_refl _) _).alloc (by simp) _
  have hrec : Rec w1 w.heap.size 25 x.cs := by rw [ew1]; exact (Rec.new w _ _).alloc _
  have hres : Rec w1 (w.heap.size + 1) 25 #[.slice none 0 0, .slice none 0 0, .slice none 0 0] := by rw [ew1]; have := Rec.new (w.alloc (.cells x.cs 25)) 25 #[.slice none 0 0, .slice none 0 0, .slice none 0 0]; simpa using this
  have hX := hx.below hb1
  have hA := ha.below hb1
  have hcs : x.cs = #[.slice x.F.1 x.F.2.2.length x.F.2.1, .slice x.AH x.H.length x.cH, .slice x.AM x.M.length x.cM] := rfl
  obtain ⟨k, ek⟩ : ∃ k, x.F.2.2.length = k := ⟨_, rfl⟩
  obtain ⟨nh, enh⟩ : ∃ k, x.H.length = k := ⟨_, rfl⟩
  obtain ⟨nm, enm⟩ : ∃ k, x.M.length = k := ⟨_, rfl⟩
  rw [ek, enh, enm] at hcs
  have r0 := Rec.cell hrec 0
  have r1 := Rec.cell hrec 1
  have r2 := Rec.cell hrec 2
  rw [hcs] at ew1 r0 r1 r2 ⊢
  simp at r0 r1 r2
  obtain ⟨r, er⟩ : ∃ r, fitsF x who n = r := ⟨_, rfl⟩
  have HF := hid (er ▸ hcs ▸ fits_any x hs who A ca m n em hm w1 hX hA)
  have EW1 := hid ew1
  have HB1 := hid hb1
  have HRES := hid hres
  have HX := hid hX
  have HA := hid hA
  have EM := hid em
  have ER := hid er
  have HCS := hid hcs
  have EK := hid ek
  have ENH := hid enh
  have HSM := hid hs
  clear ew1 hb1 hrec hres hX hx hA ha em er hcs hs ek enh enm
  cases r with
  | false =>
    have HE : Hid (askE x who n = 1) := hid (by unfold askE; rw [if_pos ER.out])
    clear ER
    go_enter Try.func12, Try.ntmps12
    go_upto_region 1 with (fail)
    rw [← EW1.out]
    have z0 := Rec.cell HRES.out 0
    have z1 := Rec.cell HRES.out 1
    have z2 := Rec.cell HRES.out 2
    simp at z0 z1 z2
    have f0 := Rec.frozen HRES.out 0
    have f1 := Rec.frozen HRES.out 1
    have f2 := Rec.frozen HRES.out 2
    have hz := Rec.lt HRES.out
    go_wp2_with ((go_at_call 24; (with_reducible refine HF.out.mono ?_); rintro _ _ ⟨rfl, x1, rfl⟩))
    obtain ⟨s1, s2⟩ := stored3 HRES.out HB1.out (by omega) (.slice none 0 0) (.slice none 0 0) (.slice none 0 0)
    obtain ⟨W9, eW9⟩ : ∃ W9, W9 = ((w1.setCell ⟨w.heap.size + 1, 0, none⟩ (.slice none 0 0)).setCell ⟨w.heap.size + 1, 1, none⟩ (.slice none 0 0)).setCell ⟨w.heap.size + 1, 2, none⟩ (.slice none 0 0) := ⟨_, rfl⟩
    rw [← eW9] at s1 s2 ⊢
    clear eW9 z0 z1 z2 f0 f1 f2 hz
    have c0 := Rec.cell s1 0
    have c1 := Rec.cell s1 1
    have c2 := Rec.cell s1 2
    simp at c0 c1 c2
    refine bodyPost_ret (v := .tuple #[.agg #[.slice none 0 0, .slice none 0 0, .slice none 0 0], .int .i64 1]) (by simp [results, Try.results12, go_sem, c0, c1, c2]) rfl ?_
    rw [HE.out]
    exact BankP.nil (by decide) (RowKit.Below.past s2 _)
  | true =>
    obtain ⟨hmay, j, rfl, hj, hnl, hnp⟩ := fits_of ER.out
    have hok := Bk.Ok.of hmay
    rw [EK.out, ENH.out] at hok
    rw [ENH.out] at hj
    rw [EK.out, EM.out] at hnl
    subst hnl
    have hk4 := hok.k4
    have hk1 := hok.k1
    have h8 := hok.h8
    obtain rfl : nm = nh := by have := hok.em; have h2 := HCS.out; unfold Bk.cs at h2; simp at h2; omega
    have EJ := hid (show (j : Int).toNat = j from Int.toNat_natCast j)
    have OK := hid hok
    have HNP := hid hnp
    clear hok hmay hnp
    obtain ⟨bh, oh, Rh, c1, eAH, q1, k1⟩ := HX.out.h.at (i := j) (by rw [ENH.out]; exact hj)
    obtain ⟨bm, om, Rm, c2, eAM, q2, k2⟩ := HX.out.m.at (i := j) (by rw [OK.out.em]; exact hj)
    rw [show (rAt x.H j).2.2.length = m from OK.out.hl j hj] at q1
    rw [show (rAt x.M j).2.2.length = m from OK.out.ml j hj] at q2
    obtain ⟨AH, gAH⟩ : ∃ z, x.AH = z := ⟨_, rfl⟩
    obtain ⟨AM, gAM⟩ : ∃ z, x.AM = z := ⟨_, rfl⟩
    rw [gAH] at eAH
    rw [gAM] at eAM
    subst eAH
    subst eAM
    rw [gAH] at r1 EW1 HCS HF ⊢
    rw [gAM] at r2 EW1 HCS HF ⊢
    have P1 := hid (fun W (hW : Below w1.heap.size w1 W) => plus_any Rm Rh c2 c1 m m (mostR x j) (hasR x j) (-1) (OK.out.ml j hj) (OK.out.hl j hj) (Nat.le_refl _) (by omega) (by omega) (.inr rfl) (OK.out.ms hj) (OK.out.hs hj) W (k2.below hW) (k1.below hW))
    have hpl : (plusF (mostR x j) (hasR x j) (-1)).length = m := by rw [plusF_length]; exact OK.out.ml j hj
    obtain ⟨L, eL⟩ : ∃ L, plusF (mostR x j) (hasR x j) (-1) = L := ⟨_, rfl⟩
    rw [eL] at P1 hpl
    obtain ⟨ra, era⟩ : ∃ r, withK n L m = r := ⟨_, rfl⟩
    have P2 := hid (fun W B c (hW : Below w1.heap.size w1 W) (ho : Cells W B (i64s L)) => era ▸ within_any A B ca c m m n L EM.out hpl (Nat.le_refl _) (by omega) W (HA.out.below hW) ho)
    obtain ⟨rb, erb⟩ : ∃ r, withK n x.F.2.2 m = r := ⟨_, rfl⟩
    have P3 := hid (fun W (hW : Below w1.heap.size w1 W) => erb ▸ within_any A x.F.1 ca x.F.2.1 m m n x.F.2.2 EM.out OK.out.ef (Nat.le_refl _) (by omega) W (HA.out.below hW) (HX.out.f.below hW))
    have HEE : Hid (askE x (j : Int) n = if ra = false then 2 else if rb = false then 8 else if orderF (movedB x j n 1) = none then 9 else 0) := hid (by
      unfold askE
      rw [if_neg (by rw [ER.out]; decide), EJ.out, EM.out, eL, era, erb])
    rw [EJ.out]
    cases ra with
    | false =>
      have HE : Hid (askE x (j : Int) n = 2) := hid (by rw [HEE.out, if_pos rfl])
      clear HEE P3
      go_enter Try.func12, Try.ntmps12
      go_upto_region 1 with (fail)
      rw [← EW1.out]
      go_upto_region 3 with (go_at_call 24; (with_reducible refine HF.out.mono ?_); rintro _ _ ⟨rfl, x1, rfl⟩)
      go_region_held3 (fun w' => w'.cell? ⟨w.heap.size, 1, none⟩ = some (.slice (some ⟨bh, oh, none⟩) nm x.cH) ∧ w'.cell? ⟨w.heap.size, 2, none⟩ = some (.slice (some ⟨bm, om, none⟩) nm x.cM) ∧ w'.cell? ⟨bh, oh + j, none⟩ = some (.slice Rh m c1) ∧ w'.cell? ⟨bm, om + j, none⟩ = some (.slice Rm m c2)) (simp [go_sem, *]) (first | (go_at_call 26; refine (P1.out _ (by (repeat (first | exact Below.refl _ _ | refine RowKit.Below.past ?_ _ | refine RowKit.Below.alloc' ?_ _ | refine RowKit.Below.drew' ?_ | refine RowKit.Below.drewN' ?_ _ | refine RowKit.Below.setCell' ?_ (by simp [go_sem]) _)))).mono ?_; rintro _ w5 ⟨A5, c5, rfl, hb5, ho5⟩; obtain ⟨x5, rfl⟩ := past_of hb5; rw [World.past_past] at ho5; have HO5 := hid ho5; clear hb5 ho5) | (go_at_call 25; refine (P2.out _ _ _ (by (repeat (first | exact Below.refl _ _ | refine RowKit.Below.past ?_ _ | refine RowKit.Below.alloc' ?_ _ | refine RowKit.Below.drew' ?_ | refine RowKit.Below.drewN' ?_ _ | refine RowKit.Below.setCell' ?_ (by simp [go_sem]) _))) (Cells.of_own HO5.out)).mono ?_; rintro _ _ ⟨rfl, x6, rfl⟩))
      have z0 := Rec.cell HRES.out 0
      have z1 := Rec.cell HRES.out 1
      have z2 := Rec.cell HRES.out 2
      simp at z0 z1 z2
      have f0 := Rec.frozen HRES.out 0
      have f1 := Rec.frozen HRES.out 1
      have f2 := Rec.frozen HRES.out 2
      have hz := Rec.lt HRES.out
      go_wp2_with fail
      obtain ⟨s1, s2⟩ := stored3 HRES.out HB1.out (by omega) (.slice none 0 0) (.slice none 0 0) (.slice none 0 0)
      obtain ⟨W9, eW9⟩ : ∃ W9, W9 = ((w1.setCell ⟨w.heap.size + 1, 0, none⟩ (.slice none 0 0)).setCell ⟨w.heap.size + 1, 1, none⟩ (.slice none 0 0)).setCell ⟨w.heap.size + 1, 2, none⟩ (.slice none 0 0) := ⟨_, rfl⟩
      rw [← eW9] at s1 s2 ⊢
      clear eW9 z0 z1 z2 f0 f1 f2 hz
      have c0 := Rec.cell s1 0
      have c1 := Rec.cell s1 1
      have c2 := Rec.cell s1 2
      simp at c0 c1 c2
      refine bodyPost_ret (v := .tuple #[.agg #[.slice none 0 0, .slice none 0 0, .slice none 0 0], .int .i64 2]) (by simp [results, Try.results12, go_sem, c0, c1, c2]) rfl ?_
      rw [HE.out]
      exact BankP.nil (by decide) (RowKit.Below.past s2 _)
    | true =>
      cases rb with
      | false =>
        have HE : Hid (askE x (j : Int) n = 8) := hid (by rw [HEE.out, if_neg (by decide), if_pos rfl])
        clear HEE
        go_enter Try.func12, Try.ntmps12
        go_upto_region 1 with (fail)
        rw [← EW1.out]
        go_upto_region 3 with (go_at_call 24; (with_reducible refine HF.out.mono ?_); rintro _ _ ⟨rfl, x1, rfl⟩)
        go_region_held3 (fun w' => w'.cell? ⟨w.heap.size, 1, none⟩ = some (.slice (some ⟨bh, oh, none⟩) nm x.cH) ∧ w'.cell? ⟨w.heap.size, 2, none⟩ = some (.slice (some ⟨bm, om, none⟩) nm x.cM) ∧ w'.cell? ⟨bh, oh + j, none⟩ = some (.slice Rh m c1) ∧ w'.cell? ⟨bm, om + j, none⟩ = some (.slice Rm m c2)) (simp [go_sem, *]) (first | (go_at_call 26; refine (P1.out _ (by (repeat (first | exact Below.refl _ _ | refine RowKit.Below.past ?_ _ | refine RowKit.Below.alloc' ?_ _ | refine RowKit.Below.drew' ?_ | refine RowKit.Below.drewN' ?_ _ | refine RowKit.Below.setCell' ?_ (by simp [go_sem]) _)))).mono ?_; rintro _ w5 ⟨A5, c5, rfl, hb5, ho5⟩; obtain ⟨x5, rfl⟩ := past_of hb5; rw [World.past_past] at ho5; have HO5 := hid ho5; clear hb5 ho5) | (go_at_call 25; refine (P2.out _ _ _ (by (repeat (first | exact Below.refl _ _ | refine RowKit.Below.past ?_ _ | refine RowKit.Below.alloc' ?_ _ | refine RowKit.Below.drew' ?_ | refine RowKit.Below.drewN' ?_ _ | refine RowKit.Below.setCell' ?_ (by simp [go_sem]) _))) (Cells.of_own HO5.out)).mono ?_; rintro _ _ ⟨rfl, x6, rfl⟩))
        have z0 := Rec.cell HRES.out 0
        have z1 := Rec.cell HRES.out 1
        have z2 := Rec.cell HRES.out 2
        simp at z0 z1 z2
        have f0 := Rec.frozen HRES.out 0
        have f1 := Rec.frozen HRES.out 1
        have f2 := Rec.frozen HRES.out 2
        have hz := Rec.lt HRES.out
        go_wp2_with ((go_at_call 25; refine (P3.out _ (by (repeat (first | exact Below.refl _ _ | refine RowKit.Below.past ?_ _ | refine RowKit.Below.alloc' ?_ _ | refine RowKit.Below.drew' ?_ | refine RowKit.Below.drewN' ?_ _ | refine RowKit.Below.setCell' ?_ (by simp [go_sem]) _)))).mono ?_; rintro _ _ ⟨rfl, x7, rfl⟩))
        obtain ⟨s1, s2⟩ := stored3 HRES.out HB1.out (by omega) (.slice none 0 0) (.slice none 0 0) (.slice none 0 0)
        obtain ⟨W9, eW9⟩ : ∃ W9, W9 = ((w1.setCell ⟨w.heap.size + 1, 0, none⟩ (.slice none 0 0)).setCell ⟨w.heap.size + 1, 1, none⟩ (.slice none 0 0)).setCell ⟨w.heap.size + 1, 2, none⟩ (.slice none 0 0) := ⟨_, rfl⟩
        rw [← eW9] at s1 s2 ⊢
        clear eW9 z0 z1 z2 f0 f1 f2 hz
        have c0 := Rec.cell s1 0
        have c1 := Rec.cell s1 1
        have c2 := Rec.cell s1 2
        simp at c0 c1 c2
        refine bodyPost_ret (v := .tuple #[.agg #[.slice none 0 0, .slice none 0 0, .slice none 0 0], .int .i64 8]) (by simp [results, Try.results12, go_sem, c0, c1, c2]) rfl ?_
        rw [HE.out]
        exact BankP.nil (by decide) (RowKit.Below.past s2 _)
      | true =>
        have sn : Sml n := fun i => by
          by_cases hi : i < n.length
          · have h1 := HNP.out i hi
            have h2 := withK_iff.1 erb i (by rw [← EM.out]; exact hi)
            have h3 := OK.out.fv i (by rw [← EM.out]; exact hi)
            omega
          · unfold atL; rw [List.getElem?_eq_none (by omega)]; simp
        have MV := hid (fun W (hW : Below w1.heap.size w1 W) => moved_any x m nm OK.out j hj A ca n EM.out sn 1 (.inl rfl) W (HX.out.below hW) (HA.out.below hW))
        rw [HCS.out] at MV
        have HE1 : Hid (askE x (j : Int) n = if orderF (movedB x j n 1) = none then 9 else 0) := hid (by rw [HEE.out, if_neg (by decide), if_neg (by decide)])
        clear HEE sn
        go_enter Try.func12, Try.ntmps12
        go_upto_region 1 with (fail)
        rw [← EW1.out]
        go_upto_region 3 with (go_at_call 24; (with_reducible refine HF.out.mono ?_); rintro _ _ ⟨rfl, x1, rfl⟩)
        go_region_held3 (fun w' => w'.cell? ⟨w.heap.size, 1, none⟩ = some (.slice (some ⟨bh, oh, none⟩) nm x.cH) ∧ w'.cell? ⟨w.heap.size, 2, none⟩ = some (.slice (some ⟨bm, om, none⟩) nm x.cM) ∧ w'.cell? ⟨bh, oh + j, none⟩ = some (.slice Rh m c1) ∧ w'.cell? ⟨bm, om + j, none⟩ = some (.slice Rm m c2)) (simp [go_sem, *]) (first | (go_at_call 26; refine (P1.out _ (by (repeat (first | exact Below.refl _ _ | refine RowKit.Below.past ?_ _ | refine RowKit.Below.alloc' ?_ _ | refine RowKit.Below.drew' ?_ | refine RowKit.Below.drewN' ?_ _ | refine RowKit.Below.setCell' ?_ (by simp [go_sem]) _)))).mono ?_; rintro _ w5 ⟨A5, c5, rfl, hb5, ho5⟩; obtain ⟨x5, rfl⟩ := past_of hb5; rw [World.past_past] at ho5; have HO5 := hid ho5; clear hb5 ho5) | (go_at_call 25; refine (P2.out _ _ _ (by (repeat (first | exact Below.refl _ _ | refine RowKit.Below.past ?_ _ | refine RowKit.Below.alloc' ?_ _ | refine RowKit.Below.drew' ?_ | refine RowKit.Below.drewN' ?_ _ | refine RowKit.Below.setCell' ?_ (by simp [go_sem]) _))) (Cells.of_own HO5.out)).mono ?_; rintro _ _ ⟨rfl, x6, rfl⟩))
        go_upto_region 8 with (first | (go_at_call 25; refine (P3.out _ (by (repeat (first | exact Below.refl _ _ | refine RowKit.Below.past ?_ _ | refine RowKit.Below.alloc' ?_ _ | refine RowKit.Below.drew' ?_ | refine RowKit.Below.drewN' ?_ _ | refine RowKit.Below.setCell' ?_ (by simp [go_sem]) _)))).mono ?_; rintro _ _ ⟨rfl, x7, rfl⟩) | (go_at_call 27; refine (MV.out _ (by (repeat (first | exact Below.refl _ _ | refine RowKit.Below.past ?_ _ | refine RowKit.Below.alloc' ?_ _ | refine RowKit.Below.drew' ?_ | refine RowKit.Below.drewN' ?_ _ | refine RowKit.Below.setCell' ?_ (by simp [go_sem]) _)))).mono ?_; rintro _ w7 h7; obtain ⟨y, rfl, hb7, hy, hv⟩ := h7.eqv; obtain ⟨A0, n0, d0, A1, n1, d1, A2, n2, d2, ev⟩ : ∃ A0 n0 d0 A1 n1 d1 A2 n2 d2, y.cs = #[.slice A0 n0 d0, .slice A1 n1 d1, .slice A2 n2 d2] := ⟨_, _, _, _, _, _, _, _, _, rfl⟩; have HB7 := hid hb7; have HY := hid hy; have HV := hid hv; have EV := hid ev; rw [ev]; clear hb7 hy hv h7 ev))
        obtain ⟨w8, ew8⟩ : ∃ w8, w8 = w7.alloc (.cells #[.slice A0 n0 d0, .slice A1 n1 d1, .slice A2 n2 d2] 25) := ⟨_, rfl⟩
        rw [← ew8]
        have hb78 : Below w7.heap.size w7 w8 := by rw [ew8]; exact (Below.refl _ w7).alloc (Nat.le_refl _) _
        have hb17 : Below w1.heap.size w1 w7 := (w1.below_past _).trans (HB7.out.mono (w1.below_past _).size)
        have hb18 : Below w1.heap.size w1 w8 := hb17.trans (hb78.mono hb17.size)
        have hrc : Rec w8 w7.heap.size 25 #[.slice A0 n0 d0, .slice A1 n1 d1, .slice A2 n2 d2] := by rw [ew8]; exact Rec.new w7 _ _
        have hOR := Order_any y (sm_of_moved OK.out HV.out) w8 ((HY.out.in HB7.out).below hb78)
        rw [HV.out.order, EV.out] at hOR
        have HY8 := hid (HY.out.far hb78)
        have HP8 := hid (HB7.out.trans (hb78.mono HB7.out.size))
        have HB8 := hid (HB1.out.trans (hb18.mono HB1.out.size))
        have HR8 := hid (HRES.out.below hb18 (Nat.le_refl _))
        obtain ⟨bc, ebc⟩ : ∃ b, b = w7.heap.size := ⟨_, rfl⟩
        have hbc : bc ≠ w.heap.size + 1 := by
          have h1 := Rec.lt HRES.out
          have h2 := hb17.size
          omega
        rw [← ebc] at hrc ⊢
        have HRC := hid hrc
        have y0 := Rec.cell hrc 0
        have y1 := Rec.cell hrc 1
        have y2 := Rec.cell hrc 2
        simp at y0 y1 y2
        have HOR := hid hOR
        clear ew8 hb78 hb17 hb18 hrc hOR ebc HB7 HY
        cases hof : orderF (movedB x j n 1) with
        | none =>
          rw [hof] at HOR
          have HE : Hid (askE x (j : Int) n = 9) := hid (by rw [HE1.out, if_pos hof])
          clear HE1 hof
          go_upto_region 10 with (go_at_call 10; refine HOR.out.mono ?_; rintro _ w9 ⟨rfl, hb9⟩; have HRn := hid (HR8.out.below hb9 (Nat.le_refl _)); have HBn := hid (HB8.out.trans (hb9.mono HB8.out.size)); clear hb9)
          have z0 := Rec.cell HRn.out 0
          have z1 := Rec.cell HRn.out 1
          have z2 := Rec.cell HRn.out 2
          simp at z0 z1 z2
          have f0 := Rec.frozen HRn.out 0
          have f1 := Rec.frozen HRn.out 1
          have f2 := Rec.frozen HRn.out 2
          have hz := Rec.lt HRn.out
          go_wp2_with fail
          obtain ⟨s1, s2⟩ := stored3 HRn.out HBn.out (by omega) (.slice none 0 0) (.slice none 0 0) (.slice none 0 0)
          obtain ⟨W9, eW9⟩ : ∃ W9, W9 = ((w9.setCell ⟨w.heap.size + 1, 0, none⟩ (.slice none 0 0)).setCell ⟨w.heap.size + 1, 1, none⟩ (.slice none 0 0)).setCell ⟨w.heap.size + 1, 2, none⟩ (.slice none 0 0) := ⟨_, rfl⟩
          rw [← eW9] at s1 s2 ⊢
          clear eW9 z0 z1 z2 f0 f1 f2 hz
          have c0 := Rec.cell s1 0
          have c1 := Rec.cell s1 1
          have c2 := Rec.cell s1 2
          simp at c0 c1 c2
          refine bodyPost_ret (v := .tuple #[.agg #[.slice none 0 0, .slice none 0 0, .slice none 0 0], .int .i64 9]) (by simp [results, Try.results12, go_sem, c0, c1, c2]) rfl ?_
          rw [HE.out]
          exact BankP.nil (by decide) s2
        | some l =>
          rw [hof] at HOR
          have HE : Hid (askE x (j : Int) n = 0) := hid (by rw [HE1.out, if_neg (by rw [hof]; simp)])
          clear HE1 hof
          go_upto_region 11 with (go_at_call 10; refine HOR.out.mono ?_; rintro _ w9 ⟨Ao, co, rfl, hb9, -⟩; have HRn := hid (HR8.out.below hb9 (Nat.le_refl _)); have HBn := hid (HB8.out.trans (hb9.mono HB8.out.size)); have HRCn := hid (HRC.out.below hb9 (Nat.le_refl _)); have HYn := hid (HY8.out.far hb9); have HPn := hid (HP8.out.trans (hb9.mono HP8.out.size)); clear hb9)
          clear y0 y1 y2
          have y0 := Rec.cell HRCn.out 0
          have y1 := Rec.cell HRCn.out 1
          have y2 := Rec.cell HRCn.out 2
          simp at y0 y1 y2
          have HIN := hid (in_set3 HYn.out HPn.out (HRES.out.past _) HRn.out (.slice A0 n0 d0) (.slice A1 n1 d1) (.slice A2 n2 d2))
          have z0 := Rec.cell HRn.out 0
          have z1 := Rec.cell HRn.out 1
          have z2 := Rec.cell HRn.out 2
          simp at z0 z1 z2
          have f0 := Rec.frozen HRn.out 0
          have f1 := Rec.frozen HRn.out 1
          have f2 := Rec.frozen HRn.out 2
          have hz := Rec.lt HRn.out
          go_wp2_with fail
          obtain ⟨s1, s2⟩ := stored3 HRn.out HBn.out (by omega) (.slice A0 n0 d0) (.slice A1 n1 d1) (.slice A2 n2 d2)
          obtain ⟨W9, eW9⟩ : ∃ W9, W9 = ((w9.setCell ⟨w.heap.size + 1, 0, none⟩ (.slice A0 n0 d0)).setCell ⟨w.heap.size + 1, 1, none⟩ (.slice A1 n1 d1)).setCell ⟨w.heap.size + 1, 2, none⟩ (.slice A2 n2 d2) := ⟨_, rfl⟩
          rw [← eW9] at s1 s2 HIN ⊢
          clear eW9 z0 z1 z2 f0 f1 f2 hz
          have c0 := Rec.cell s1 0
          have c1 := Rec.cell s1 1
          have c2 := Rec.cell s1 2
          simp at c0 c1 c2
          refine bodyPost_ret (v := .tuple #[.agg #[.slice A0 n0 d0, .slice A1 n1 d1, .slice A2 n2 d2], .int .i64 0]) (by simp [results, Try.results12, go_sem, c0, c1, c2]) rfl ?_
          rw [HE.out]
          exact ⟨y, by rw [EV.out], s2, HIN.out, by rw [if_pos rfl]; exact HV.out⟩
end Go.Proofs.Ytddngloojacceaa
