/-
  Layer 44: so much from free to a client, or back. No condition but that the bank, the client and the numbers may be.
-/
import Derived.Test.YtddngloojacceaaBkL
import Derived.Deep.RegionWith
namespace Go.Proofs.Ytddngloojacceaa
open Go Go.RowKit
theorem sml_take {l : List Int} {b : Int} (hb : b ≤ 1000000000000) (h : ∀ j, j < l.length → 0 ≤ atL l j ∧ atL l j ≤ b) : Sml l := fun j => by
  by_cases hj : j < l.length
  · have := h j hj; omega
  · unfold atL; rw [List.getElem?_eq_none (by omega)]; simp
theorem drew_trans {w W : World} (h : Below w.drew.heap.size w.drew W) : Below w.heap.size w W := (Below.refl _ w).drew.trans h
set_option maxRecDepth 100000 in
set_option maxHeartbeats 4000000 in
theorem moved_any (x : Bk) (k nh : Nat) (ok : x.Ok k nh) (who : Nat) (hw : who < nh) (A : Option Addr) (ca : Nat) (n : List Int) (en : n.length = k) (hn : Sml n) (s : Int) (hs : s = 1 ∨ s = -1) (w : World) (hx : x.In w) (ha : Cells w A (i64s n)) :
    Calls Try.prog 27 #[.agg x.cs, .int .i64 who, .slice A k ca, .int .i64 s] w (MovedP x who n s w) := by
  obtain ⟨z, ez⟩ : ∃ z : Array Value, z = #[.slice none 0 0, .slice none 0 0, .slice none 0 0] := ⟨_, rfl⟩
  obtain ⟨w1, ew1⟩ : ∃ w1, w1 = (w.alloc (.cells x.cs 25)).alloc (.cells z 25) := ⟨_, rfl⟩
  have hb1 : Below w.heap.size w w1 := by rw [ew1]; exact ((Below.refl _ w).alloc (Nat.le_refl _) _).alloc (by simp) _
  have hrec : Rec w1 w.heap.size 25 x.cs := by rw [ew1]; exact (Rec.new w _ _).alloc _
  have hres : Rec w1 (w.heap.size + 1) 25 z := by rw [ew1]; have := Rec.new (w.alloc (.cells x.cs 25)) 25 z; simpa using this
  have hk1 := ok.k1
  have hk4 := ok.k4
  have h8 := ok.h8
  have hcs : x.cs = #[.slice x.F.1 k x.F.2.1, .slice x.AH nh x.cH, .slice x.AM nh x.cM] := by unfold Bk.cs; rw [ok.ef, ok.eh, ok.em]
  have hX := hx.below hb1
  have PH := hid (fun W (hW : Below w1.heap.size w1 W) => cloneR_any x.AH x.cH nh x.H ok.eh (by omega) (by omega) W (hX.h.cells.below hW))
  have PM := hid (fun W (hW : Below w1.heap.size w1 W) => cloneR_any x.AM x.cM nh x.M ok.em (by omega) (by omega) W (hX.m.cells.below hW))
  have r1 := Rec.cell hrec 1
  have r2 := Rec.cell hrec 2
  rw [hcs] at ew1 r1 r2 ⊢
  simp at r1 r2
  have BC := hid (fun W (hW : Below w1.heap.size w1 W) => (show W.cell? ⟨w.heap.size, 1, none⟩ = some (.slice x.AH nh x.cH) ∧ W.cell? ⟨w.heap.size, 2, none⟩ = some (.slice x.AM nh x.cM) from ⟨(hW.cell (lt_of_cell r1)).trans r1, (hW.cell (lt_of_cell r2)).trans r2⟩))
  rw [ez] at ew1
  have EW1 := hid ew1
  have HB1 := hid hb1
  have HREC := hid hrec
  have HRES := hid hres
  have HX := hid hx
  have HA := hid ha
  have OK := hid ok
  have EN := hid en
  have SN := hid hn
  have HS := hid hs
  have HCS := hid hcs
  have EZ := hid ez
  clear ew1 hb1 hrec hres hX hx ha ok en hn hs hcs ez
  go_enter Try.func27, Try.ntmps27
  go_upto_region 1 with (fail)
  rw [← EW1.out]
  go_region_held3 (fun w' => w'.cell? ⟨w.heap.size, 1, none⟩ = some (.slice x.AH nh x.cH) ∧ w'.cell? ⟨w.heap.size, 2, none⟩ = some (.slice x.AM nh x.cM)) (simp [go_sem, *]) (first | (go_at_call 41; (with_reducible refine (PH.out _ (by (repeat (first | exact Below.refl _ _ | refine RowKit.Below.past ?_ _ | refine RowKit.Below.alloc' ?_ _ | refine RowKit.Below.drew' ?_ | refine RowKit.Below.drewN' ?_ _ | refine RowKit.Below.setCell' ?_ (by simp [go_sem]) _)))).mono ?_); rintro _ w2 ⟨AH2, cH2, rfl, hb2, ho2⟩; have HB2 := hid hb2; have HO2 := hid ho2; clear hb2 ho2; have cb1 := (BC.out _ (drew_trans HB2.out)).1; have cb2 := (BC.out _ (drew_trans HB2.out)).2) | (go_at_call 41; (with_reducible refine (PM.out _ (drew_trans HB2.out)).mono ?_); rintro _ w3 ⟨AM3, cM3, rfl, hb3, ho3⟩; have HB3 := hid hb3; have HO3 := hid ho3; clear hb3 ho3; have cb3 := (BC.out _ (drew_trans (HB2.out.trans (HB3.out.mono HB2.out.size)))).1; have cb4 := (BC.out _ (drew_trans (HB2.out.trans (HB3.out.mono HB2.out.size)))).2))
  obtain ⟨gh, ch, e1, -⟩ := own_succ HO2.out (by omega)
  injection e1 with e1 _ e2
  subst e1; subst e2
  obtain ⟨gm, cm, e1, hgm⟩ := own_succ HO3.out (by omega)
  injection e1 with e1 _ e2
  subst e1; subst e2
  have HM0 : Hid (MvW w w3 w.heap.size (w.heap.size + 1) x.cs z nh gh cH2 gm cM3 x.H x.M) := hid (by
    have b2 := drew_trans HB2.out
    have b3 := b2.trans (HB3.out.mono b2.size)
    have hX := HX.out
    refine ⟨HB1.out.trans (b3.mono HB1.out.size), HREC.out.below b3 (Nat.le_refl _), HRES.out.below b3 (Nat.le_refl _), OK.out.eh, OK.out.em, own_below (own_base HO2.out HB1.out.size) HB3.out (Nat.le_refl _), own_base HO3.out (Nat.le_trans HB1.out.size b2.size), ?_, fun i hi => .inl (hX.h.each i (by rw [OK.out.eh]; exact hi)), fun i hi => .inl (hX.m.each i (by rw [OK.out.em]; exact hi))⟩
    have := (HO2.out.lt gh rfl).2
    omega)
  clear HB2 HO2 HB3 HO3 HB1 HREC HRES PH PM BC EW1 hgm cb1 cb2 cb3 cb4 r1 r2
  go_wp2_with fail
  go_loopw [20] (fun i wr => ∃ (q : Nat) (LH LM : List Rw), i = .int .i64 q ∧ q ≤ nh ∧ Hid (MvW w wr w.heap.size (w.heap.size + 1) x.cs z nh gh cH2 gm cM3 LH LM) ∧ Hid (valR LH = valR x.H ∧ valR LM = valR x.M)) (fun i _ => nh - (intOf i).toNat)
  case atStart => exact ⟨0, x.H, x.M, rfl, by omega, HM0, hid ⟨rfl, rfl⟩⟩
  case round =>
    clear HM0
    obtain ⟨q, LH, LM, rfl, hq, HM, HV⟩ := hrel
    by_cases hlt : q < nh
    · have eh : (rAt LH q).2.2.length = k := by rw [← atR_val, HV.out.1, atR_val]; exact OK.out.hl q hlt
      have em : (rAt LM q).2.2.length = k := by rw [← atR_val, HV.out.2, atR_val]; exact OK.out.ml q hlt
      obtain ⟨Rh, c1, l1, er1⟩ : ∃ R c l, rAt LH q = (R, c, l) := ⟨_, _, _, rfl⟩
      obtain ⟨Rm, c2, l2, er2⟩ : ∃ R c l, rAt LM q = (R, c, l) := ⟨_, _, _, rfl⟩
      have hc1 := (HM.out.hr q hlt).cells HM.out.below
      have hc2 := (HM.out.mr q hlt).cells HM.out.below
      rw [er1] at hc1 eh
      rw [er2] at hc2 em
      simp only at hc1 hc2 eh em
      have PH := hid (fun W (hW : Below wr.heap.size wr W) => clone_any Rh c1 k l1 eh (by omega) (by omega) W (hc1.below hW))
      have PM := hid (fun W (hW : Below wr.heap.size wr W) => clone_any Rm c2 k l2 em (by omega) (by omega) W (hc2.below hW))
      have BC := hid (fun W (hW : Below wr.heap.size wr W) => (show W.cell? ⟨gh, q, none⟩ = some (.slice Rh k c1) ∧ W.frozen? ⟨gh, q, none⟩ = false ∧ gh < W.heap.size ∧ W.cell? ⟨gm, q, none⟩ = some (.slice Rm k c2) ∧ W.frozen? ⟨gm, q, none⟩ = false ∧ gm < W.heap.size by
        have h1 := (HM.out.far hW).hc hlt
        have h2 := (HM.out.far hW).mc hlt
        rw [er1] at h1
        rw [er2] at h2
        simp only [rowC, eh, em] at h1 h2
        exact ⟨h1.1, h1.2.1, h1.2.2, h2.1, h2.2.1, h2.2.2⟩))
      have hne := HM.out.ne
      have B0 := BC.out _ (Below.refl _ wr)
      obtain ⟨b1, b2, b3, b4, b5, b6⟩ := B0
      have E1 := hid (And.intro er1 er2)
      have E2 := hid (And.intro eh em)
      clear er1 er2 eh em hc1 hc2
      go_wp2_with fail
      go_region_with (first | (go_at_call 34; (with_reducible refine (PH.out _ (by (repeat (first | exact Below.refl _ _ | refine RowKit.Below.past ?_ _ | refine RowKit.Below.alloc' ?_ _ | refine RowKit.Below.drew' ?_ | refine RowKit.Below.drewN' ?_ _ | refine RowKit.Below.setCell' ?_ (by simp [go_sem]) _)))).mono ?_); rintro _ w5 ⟨A5, c5, rfl, hb5, ho5⟩; have HB5 := hid hb5; have HO5 := hid ho5; clear hb5 ho5; have b5c := BC.out _ (drew_trans HB5.out); obtain ⟨d1, d2, d3, d4, d5, d6⟩ := b5c) | (go_at_call 34; (with_reducible refine (PM.out _ (drew_trans HB5.out)).mono ?_); rintro _ w6 ⟨A6, c6, rfl, hb6, ho6⟩; have HB6 := hid hb6; have HO6 := hid ho6; clear hb6 ho6; have b6c := BC.out _ (drew_trans (HB5.out.trans (HB6.out.mono HB5.out.size))); obtain ⟨e1, e2, e3, e4, e5, e6⟩ := b6c))
      all_goals
        have HN := hid ((HM.out.far (drew_trans (HB5.out.trans (HB6.out.mono HB5.out.size)))).setHM hlt (.inr (by have := own_base (own_below HO5.out HB6.out (Nat.le_refl _)) HM.out.below.size; rw [← E2.out.1] at this; exact this) : RowIs w w6 (A5, c5, l1)) (.inr (by have := own_base HO6.out (Nat.le_trans HM.out.below.size (drew_trans HB5.out).size); rw [← E2.out.2] at this; exact this) : RowIs w w6 (A6, c6, l2)) E2.out.1 E2.out.2)
        have HV2 : Hid (valR (LH.set q (A5, c5, l1)) = valR x.H ∧ valR (LM.set q (A6, c6, l2)) = valR x.M) := hid (by
          have h1 := valR_same LH q (R := A5) (c := c5) (by rw [HM.out.lh]; exact hlt) E1.out.1
          have h2 := valR_same LM q (R := A6) (c := c6) (by rw [HM.out.lm]; exact hlt) E1.out.2
          exact ⟨h1.trans HV.out.1, h2.trans HV.out.2⟩)
        clear HM HV d1 d2 d3 d4 d5 d6 e1 e2 e3 e4 e5 e6 HB5 HB6 HO5 HO6
        go_wp2_with fail
        go_roundw
        case rel => exact ⟨q + 1, _, _, by go_num, by omega, HN, HV2⟩
        case measure => simp [intOf]; omega
    · obtain rfl : q = nh := by omega
      have eh : (rAt LH who).2.2.length = k := by rw [← atR_val, HV.out.1, atR_val]; exact OK.out.hl who hw
      have EHV : Hid ((rAt LH who).2.2 = hasR x who) := hid (by rw [← atR_val, HV.out.1, atR_val]; rfl)
      obtain ⟨Rh, c1, l1, er1⟩ : ∃ R c l, rAt LH who = (R, c, l) := ⟨_, _, _, rfl⟩
      have hc1 := (HM.out.hr who hw).cells HM.out.below
      have hcc := HM.out.hc hw
      rw [er1] at hc1 eh hcc EHV
      simp only [rowC] at hc1 eh hcc EHV
      rw [eh] at hcc
      have P1 := hid (plus_any Rh A c1 ca k k l1 n s eh EN.out (Nat.le_refl _) (by omega) (by omega) HS.out (by rw [EHV.out]; exact OK.out.hs hw) SN.out wr hc1 (HA.out.below HM.out.below))
      rw [EHV.out] at P1
      obtain ⟨k1, k2, k3⟩ := hcc
      have EH := hid eh
      clear er1 eh hc1
      go_upto_region 8 with (go_at_call 26; (with_reducible refine P1.out.mono ?_); rintro _ w5 ⟨A5, c5, rfl, hb5, ho5⟩; have HM5 := hid (HM.out.far hb5); have HO5 := hid ho5; clear hb5 ho5; have b5c := HM5.out.hc hw; obtain ⟨d1, d2, d3⟩ := b5c)
      have hpl : (plusF (hasR x who) n s).length = q → True := fun _ => trivial
      have HPL : Hid ((plusF (hasR x who) n s).length = k) := hid (by rw [plusF_length]; exact OK.out.hl who hw)
      have HM6 : Hid (MvW w (w5.setCell ⟨gh, who, none⟩ (.slice A5 k c5)) w.heap.size (w.heap.size + 1) x.cs z q gh cH2 gm cM3 (LH.set who (A5, c5, plusF (hasR x who) n s)) LM) := hid (by
        have := HM5.out.setH hw (r := (A5, c5, plusF (hasR x who) n s)) (.inr (by have := own_base HO5.out HM.out.below.size; rw [← HPL.out] at this; exact this))
        simp only [rowC, HPL.out] at this
        exact this)
      obtain ⟨w6, ew6⟩ : ∃ w6, w6 = w5.setCell ⟨gh, who, none⟩ (.slice A5 k c5) := ⟨_, rfl⟩
      rw [← ew6] at HM6 ⊢
      obtain ⟨LH', eLH⟩ : ∃ l, LH.set who (A5, c5, plusF (hasR x who) n s) = l := ⟨_, rfl⟩
      rw [eLH] at HM6
      have HV2 : Hid (valR LH' = (valR x.H).set who (plusF (hasR x who) n s) ∧ valR LM = valR x.M) := hid ⟨by rw [← eLH, valR_set, HV.out.1], HV.out.2⟩
      clear ew6 HM5 HM HO5 d1 d2 d3 k1 k2 k3 hpl eLH HV P1
      have rb0 := Rec.cell HM6.out.bank 0
      rw [HCS.out] at rb0
      simp at rb0
      have hs1 : -1 ≤ s := by rcases HS.out with h | h <;> omega
      have hs2 : s ≤ 1 := by rcases HS.out with h | h <;> omega
      have P2 := hid (plus_any x.F.1 A x.F.2.1 ca k k x.F.2.2 n (-s) OK.out.ef EN.out (Nat.le_refl _) (by omega) (by omega) (by rcases HS.out with h | h <;> omega) OK.out.fs SN.out w6 (HX.out.below HM6.out.below).f (HA.out.below HM6.out.below))
      go_wp2_with (go_at_call 26; (with_reducible refine P2.out.mono ?_); rintro _ w7 ⟨A7, c7, rfl, hb7, ho7⟩; have HM7 := hid (HM6.out.far hb7); have HO7 := hid (own_base ho7 HM6.out.below.size); clear hb7 ho7; have hz := HM7.out.res; rw [EZ.out] at hz; have z0 := Rec.cell hz 0; have z1 := Rec.cell hz 1; have z2 := Rec.cell hz 2; simp at z0 z1 z2; have f0 := Rec.frozen hz 0; have f1 := Rec.frozen hz 1; have f2 := Rec.frozen hz 2; have hz := Rec.lt hz)
      have HM8 : Hid (MvW w (((w7.setCell ⟨w.heap.size + 1, 0, none⟩ (.slice A7 k c7)).setCell ⟨w.heap.size + 1, 1, none⟩ (.slice (some ⟨gh, 0, none⟩) q cH2)).setCell ⟨w.heap.size + 1, 2, none⟩ (.slice (some ⟨gm, 0, none⟩) q cM3)) w.heap.size (w.heap.size + 1) x.cs #[.slice A7 k c7, .slice (some ⟨gh, 0, none⟩) q cH2, .slice (some ⟨gm, 0, none⟩) q cM3] q gh cH2 gm cM3 LH' LM) := hid (by
        have := ((HM7.out.setR (by omega) (by omega) 0 (.slice A7 k c7)).setR (by omega) (by omega) 1 (.slice (some ⟨gh, 0, none⟩) q cH2)).setR (by omega) (by omega) 2 (.slice (some ⟨gm, 0, none⟩) q cM3)
        rw [EZ.out] at this
        simpa using this)
      have HO8 : Hid ((((w7.setCell ⟨w.heap.size + 1, 0, none⟩ (.slice A7 k c7)).setCell ⟨w.heap.size + 1, 1, none⟩ (.slice (some ⟨gh, 0, none⟩) q cH2)).setCell ⟨w.heap.size + 1, 2, none⟩ (.slice (some ⟨gm, 0, none⟩) q cM3)).ownsRow w.heap.size 3 1 (.slice A7 k c7) k (i64s (plusF x.F.2.2 n (-s)))) := hid (by
        have m1 := HM7.out.setR (by omega) (by omega) 0 (.slice A7 k c7)
        have m2 := m1.setR (by omega) (by omega) 1 (.slice (some ⟨gh, 0, none⟩) q cH2)
        exact own_setB (own_setB (own_setB HO7.out HM7.out.res (by decide) 0 _) m1.res (by decide) 1 _) m2.res (by decide) 2 _)
      obtain ⟨w9, ew9⟩ : ∃ w9, w9 = (((w7.setCell ⟨w.heap.size + 1, 0, none⟩ (.slice A7 k c7)).setCell ⟨w.heap.size + 1, 1, none⟩ (.slice (some ⟨gh, 0, none⟩) q cH2)).setCell ⟨w.heap.size + 1, 2, none⟩ (.slice (some ⟨gm, 0, none⟩) q cM3)) := ⟨_, rfl⟩
      rw [← ew9] at HM8 HO8 ⊢
      clear ew9 z0 z1 z2 f0 f1 f2 hz HM7 HO7 HM6 rb0
      have c0 := Rec.cell HM8.out.res 0
      have c1' := Rec.cell HM8.out.res 1
      have c2' := Rec.cell HM8.out.res 2
      simp at c0 c1' c2'
      refine bodyPost_ret (v := .agg #[.slice A7 k c7, .slice (some ⟨gh, 0, none⟩) q cH2, .slice (some ⟨gm, 0, none⟩) q cM3]) (by simp [results, Try.results27, go_sem, c0, c1', c2']) rfl ?_
      have hfl : (plusF x.F.2.2 n (-s)).length = k := by rw [plusF_length]; exact OK.out.ef
      have a1 := HM8.out.lh
      have a2 := HM8.out.lm
      have hfo := HO8.out
      have hho := HM8.out.ho
      have hmo := HM8.out.mo
      refine ⟨⟨(A7, c7, plusF x.F.2.2 n (-s)), some ⟨gh, 0, none⟩, cH2, LH', some ⟨gm, 0, none⟩, cM3, LM⟩, ?_, HM8.out.below, ⟨?_, ?_, ?_, fun i hi => HM8.out.hr i (by rw [← a1]; exact hi), fun i hi => HM8.out.mr i (by rw [← a2]; exact hi)⟩, rfl, HV2.out.1, HV2.out.2⟩
      · simp [Bk.cs, hfl, a1, a2]
      · simp only [rowC, hfl]; exact hfo
      · simp only [a1]; exact hho
      · simp only [a2]; exact hmo
end Go.Proofs.Ytddngloojacceaa
