/-
  Layer 39's PrioRuns: whatever is pushed, popped and lifted, answers are the document's. No condition but the table of the library's.
-/
import Derived.Test.YtngokihncjkiaaaDoorPrR
import Derived.Test.YtngokihncjkiaaaDoorRegSplit
import Derived.Deep.CutRange
import Derived.Deep.CutBlock
import Derived.StillTailTactics
namespace Go.Proofs.YtngokihncjkiaaaDoor
open Go.RowKit Go.ChangeShapes Go.WideShapes Go.ChangeAt
attribute [local go_sem] Oper.semAt_some
structure Dd where
  k : Int
  lv : Int
  v : Int
def ddV (x : Dd) : List Value := [.int .u8 x.k, .int .i64 x.lv, .int .i64 x.v]
theorem ddV_length (x : Dd) : (ddV x).length = 3 := rfl
theorem dd_at {w : World} {A : Option Addr} {l : List Dd} (h : Cells w A (tab ddV l)) {k : Nat} {x : Dd} (hx : l[k]? = some x) : ∃ g o : Nat, A = some ⟨g, o, none⟩ ∧ w.cell? ⟨g, o + k * 3, none⟩ = some (.int .u8 x.k) ∧ w.cell? ⟨g, o + k * 3 + 1, none⟩ = some (.int .i64 x.lv) ∧ w.cell? ⟨g, o + k * 3 + 2, none⟩ = some (.int .i64 x.v) := by
  obtain ⟨g, o, e, hc⟩ := h.tab_at ddV_length hx (by omega)
  exact ⟨g, o, e, hc 0 _ rfl, hc 1 _ rfl, hc 2 _ rfl⟩
/-- The levels of some items. -/
def lvS (D : List (Int × Int)) : Nat → Bool := fun i => D.any fun x => x.1 == (i : Int)
theorem IsSet.congr {s : Nat} {f g : Nat → Bool} (h : IsSet s f) (e : ∀ i, i < 64 → f i = g i) : IsSet s g := ⟨h.1, fun i hi => (h.2 i hi).trans (e i hi)⟩
theorem lvS_nil : IsSet 0 (lvS []) := ⟨by omega, fun i _ => by simp [lvS]⟩
theorem lvS_snoc {D : List (Int × Int)} {k s : Nat} (h : IsSet s (lvS (D.take k))) {x : Int × Int} (hx : D[k]? = some x) {i : Nat} (hi : i < 64) (e : x.1 = i) : IsSet (s ||| 2 ^ i) (lvS (D.take (k + 1))) := by
  refine (With_set h hi).congr (fun j hj => ?_)
  obtain ⟨hk, rfl⟩ := List.getElem?_eq_some_iff.1 hx
  unfold lvS
  rw [List.take_succ_eq_append_getElem hk, List.any_append, Bool.or_comm]
  simp only [List.any_cons, List.any_nil, Bool.or_false]
  rw [e]
  congr 1
  by_cases g : j = i
  · subst g; simp
  · have : ((i : Int) == (j : Int)) = false := by simp; omega
    rw [this]; simp [g]
theorem lvS_all {L : Nat → List (Int × Int)} {s : Nat} (h : IsSet s (lvS (flL L))) : IsSet s (fun i => decide (L i ≠ [])) := by
  refine h.congr (fun i hi => ?_)
  unfold lvS
  rw [Bool.eq_iff_iff, List.any_eq_true, decide_eq_true_iff]
  constructor
  · rintro ⟨x, hx, e⟩
    obtain ⟨j, hj, e2, hL⟩ := flL_level L hx
    have : i = j := by have := beq_iff_eq.1 e; omega
    subst this; exact hL
  · intro hL
    obtain ⟨x, hx, e⟩ := flL_has L hi hL
    exact ⟨x, hx, by simp [e]⟩
set_option maxRecDepth 100000 in
set_option maxHeartbeats 40000000 in
theorem PrioRuns_any (most : Int) (A : Option Addr) (ca n : Nat) (l : List Dd) (en : l.length = n) (hn : n ≤ maxLen) (hkk : ∀ x ∈ l, 0 ≤ x.k ∧ x.k < 256) (u : Int) (hu : 0 ≤ u ∧ u < 256) (w : World) (hZ : Tz w) (ha : Cells w A (tab ddV l)) :
    Calls Tryd.prog 3 #[.int .i64 most, .slice A n ca, .int .u8 u] w (Gives (.bool true) w) := by
  have AWK := hid (awake_any w hZ)
  have HA := hid ha
  have EN := hid en
  have HKK := hid hkk
  have HTZ := hid (fun (W : World) (h : Below w.heap.size w W) => hZ.below h)
  clear ha hkk en hZ
  by_cases h80 : 80 < n
  · go_enter Tryd.func3, Tryd.ntmps3
    go_wp2_with (go_at_call 5; refine AWK.out.mono ?_; rintro _ _ ⟨rfl, x0, rfl⟩)
    go_ret
    exact Gives.mk rfl (by (repeat (first | exact Below.refl _ _ | refine RowKit.Below.past ?_ _ | refine RowKit.Below.alloc' ?_ _ | refine RowKit.Below.drew' ?_ | refine RowKit.Below.drewN' ?_ _ | refine RowKit.Below.setCell' ?_ (by simp [go_sem]) _)))
  · go_enter Tryd.func3, Tryd.ntmps3
    go_upto_region 5 with (refine AWK.out.mono ?_; rintro _ _ ⟨rfl, x0, rfl⟩)
    obtain ⟨w1, ew1⟩ : ∃ W, W = w.past x0 := ⟨_, rfl⟩
    have HB1 := hid (show Below w.heap.size w w1 by rw [ew1]; exact w.below_past _)
    rw [← ew1]
    clear ew1 AWK
    go_wp2_with fail
    refine (PNew_any w1.heap.size most w1 (Nat.le_refl _)).mono ?_
    rintro _ w2 ⟨b, F1, rfl, g1, g2, g3⟩
    have HG1 := hid g1
    have HG3 := hid g3
    clear g1 g2 g3
    go_wp2_with fail
    refine (ENew_any w1.heap.size most w2 HG3.out.size).mono ?_
    rintro _ w8 ⟨r, F2, rfl, g1, g2, g3⟩
    rw [mostE_eq] at g1
    obtain ⟨X, eX⟩ : ∃ X : Nat → Prop, X = fun k => F1 k ∨ F2 k := ⟨_, rfl⟩
    have HQW := hid (show PQ w1.heap.size w2 b F1 most (fun _ => 0) (fun _ => []) from ⟨_, _, _, HG1.out, ⟨by omega, fun i _ => by simp⟩, by rw [tot_zero (fun _ _ => rfl)]; rfl⟩)
    have HST := hid (show St3 w1.heap.size X w8 w8 b r most (fun _ => 0) (fun _ => []) (flL (fun _ => [])) from by
      rw [eX]
      refine ⟨(by have := HG3.out.size; have := g3.size; omega), Kept.refl _ _, _, ⟨F1, F2, HQW.out.far g3, ?_, fun k x y => ?_, fun k => Iff.rfl⟩, fun k hk => .inl hk⟩
      · rw [flL_nil (tot_zero (fun _ _ => rfl))]; exact g1
      · have := ((PQ.is).foot HQW.out x).2; have := g2 k y; omega)
    have HXB := hid (show ∀ k, X k → w1.heap.size ≤ k from by
      rw [eX]
      rintro k (hk | hk)
      · exact ((PQ.is).foot HQW.out hk).1
      · have := g2 k hk; have := HG3.out.size; omega)
    have HB8 := hid (show Below w1.heap.size w1 w8 from below_trans' HG3.out g3)
    have HBX := hid (fun (W : World) (h : Kept X w8 W) => (show Below w.heap.size w W from h.to_below (HB1.out.trans (HB8.out.mono HB1.out.size)) (by have := HB8.out.size; have := HB1.out.size; omega) (fun k hk => Nat.le_trans HB1.out.size (HXB.out k hk))))
    clear eX HQW HG1 HG3 g1 g2 g3 HXB HB8
    go_wp2_with fail
    go_loopw [10, 11, 12, 13, 14, 15, 16, 17, 18, 19, 20, 22, 34] (fun _ _ _ _ _ _ _ _ _ _ _ _ i wr => ∃ (k : Nat) (t : Nat → Int) (L : Nat → List (Int × Int)), i = .int .i64 (k : Int) ∧ k ≤ n ∧ Hid (Bd k t L) ∧ Hid (St3 w1.heap.size X w8 wr b r most t L (flL L))) (fun _ _ _ _ _ _ _ _ _ _ _ _ i _ => n - natE i)
    case atStart => exact ⟨0, _, _, rfl, by omega, hid ⟨by rw [tot_zero (fun _ _ => rfl)]; exact Nat.le_refl _, fun i _ => by simp⟩, HST⟩
    case round =>
      clear HST
      obtain ⟨k, t, L, rfl, hk, HBD, HS⟩ := hrel
      by_cases hlt : k < n
      · obtain ⟨x, hx⟩ : ∃ x, l[k]? = some x := ⟨_, List.getElem?_eq_getElem (by rw [EN.out]; exact hlt)⟩
        have hxk := HKK.out x (List.mem_of_getElem? hx)
        have hbw := HBX.out wr HS.out.kp
        obtain ⟨g, o, rfl, c0, c1, c2⟩ := dd_at (HA.out.below hbw) hx
        obtain ⟨xk, lv, xv⟩ := x
        simp only at c0 c1 c2 hxk
        obtain ⟨w3, ew3⟩ : ∃ W, W = wr.alloc (.cells #[.int .u8 xk, .int .i64 lv, .int .i64 xv] 29) := ⟨_, rfl⟩
        have hb3 : Below wr.heap.size wr w3 := by rw [ew3]; exact (Below.refl _ wr).alloc (Nat.le_refl _) _
        obtain ⟨D, eD⟩ : ∃ D, wr.heap.size = D := ⟨_, rfl⟩
        have hrD : Rec w3 D 29 #[.int .u8 xk, .int .i64 lv, .int .i64 xv] := by rw [ew3, ← eD]; exact Rec.new wr _ _
        obtain ⟨F, hF, hS3, hback⟩ := HS.out.re stO_is hb3
        have HBACK := hid (fun (O : Ob) (W : World) (h : Kp w1.heap.size O F w3 W) => hback O W h)
        have HCELL := hid (fun (O : Ob) (W : World) (h : Kp w1.heap.size O F w3 W) => (show Rec W D 29 #[.int .u8 xk, .int .i64 lv, .int .i64 xv] from hrD.kept h.kp (fun e => by have := (hF D e).2.2; omega)))
        have HTZW := hid (fun (O : Ob) (W : World) (h : Kp w1.heap.size O F w3 W) => HTZ.out W (HBX.out W (hback O W h).kp))
        have HS3 := hid (show St3 w1.heap.size F w3 w3 b r most t L (flL L) from hS3)
        have hk80 : k ≤ 80 := by omega
        have EW3 := hid ew3
        clear hback hrD hS3 hF hbw ew3 hb3
        go_upto_region 10 with (fail)
        rw [← EW3.out]
        have hrd3 := HCELL.out _ _ HS3.out
        have e0 := Rec.cell hrd3 0
        have e1 := Rec.cell hrd3 1
        have e2 := Rec.cell hrd3 2
        simp at e0 e1 e2
        have hkr : xk.tmod 4 = xk % 4 := Int.tmod_eq_emod_of_nonneg hxk.1
        have h5 : (xk % 4 = 0 ∨ xk % 4 = 1) ∨ xk % 4 = 2 ∨ xk % 4 = 3 := by omega
        clear hrd3 c0 c1 c2
        go_upto_block 2 with (fail)
        go_cut [11, 12, 13, 14, 15, 16, 17, 18, 19] from 40 to 120 (fun v11 _ _ _ _ _ _ _ _ wx => v11 = .bool true ∧ ∃ t' L', Hid (Bd (k + 1) t' L') ∧ Hid (St3 w1.heap.size F w3 wx b r most t' L' (flL L')))
        case first =>
          rcases h5 with h5 | h5 | h5
          · as_aux_lemma =>
              obtain ⟨e, t', L', hbd, hq, hd⟩ := deed_push (HS3.out.fr (Below.refl _ _).drew) HBD.out (by omega) lv xv
              have HQ := hid hq
              have HD := hid hd
              have HBN := hid hbd
              clear hq hd hbd
              rcases h5 with h5 | h5
              all_goals (
                go_upto_region 13 with (fail)
                go_region_held3 (fun W => W.cell? ⟨D, 1, none⟩ = some (.int .i64 lv) ∧ W.cell? ⟨D, 2, none⟩ = some (.int .i64 xv)) (first | (simp [go_sem, *]; done)) (first | (go_at_call 8; with_reducible refine HQ.out.mono ?_; rintro _ w4 ⟨rfl, h4⟩; have H4 := hid h4; have hrd4 := HCELL.out _ _ h4; have e1 := Rec.cell hrd4 1; have e2 := Rec.cell hrd4 2; simp at e1 e2; clear hrd4 h4) | (go_at_call 9; with_reducible refine (HD.out _ H4.out).mono ?_; rintro _ w5 ⟨rfl, hw5⟩; have H5 := hid hw5; have hrd5 := HCELL.out _ _ hw5; have e1 := Rec.cell hrd5 1; have e2 := Rec.cell hrd5 2; simp at e1 e2; clear hrd5 hw5))
                rename_i hHeld
                clear HD hHeld
                go_wp2_with fail
                go_meet
                exact ⟨by simp, _, _, HBN, H5⟩)
          · as_aux_lemma =>
              obtain ⟨a1, a2, a3, L', hbd, hpk, hq, hd⟩ := deed_pop HS3.out HBD.out (by omega) (HTZW.out _ _ HS3.out)
              have HPK := hid (show Calls Tryd.prog 10 #[.pointer (some ⟨b, 0, none⟩)] w3 (Gives (.tuple #[.int .i64 a1, .int .i64 a2, .bool a3]) w3) from by
                obtain ⟨F1, h1⟩ := HS3.out.pq
                obtain ⟨ls, g1, g2, g3⟩ := PPeek_any h1 (HTZW.out _ _ HS3.out)
                rw [items_all g1 g2, hpk] at g3
                exact g3)
              have HP0 := hid hpk
              clear hbd hpk hq hd
              go_wp2_with fail
              refine HPK.out.mono ?_
              rintro _ _ ⟨rfl, y1, rfl⟩
              obtain ⟨w4, ew4⟩ : ∃ W, W = w3.past y1 := ⟨_, rfl⟩
              have H4 := hid (show St3 w1.heap.size F w3 w4 b r most t L (flL L) from by rw [ew4]; exact HS3.out.fr (w3.below_past y1))
              rw [← ew4]
              clear ew4 HPK
              obtain ⟨a1', a2', a3', L', hbd, hpk, hq, hd⟩ := deed_pop H4.out HBD.out (by omega) (HTZW.out _ _ H4.out)
              rw [HP0.out] at hpk
              simp at hpk
              obtain ⟨rfl, rfl, rfl⟩ := hpk
              have HQ := hid hq
              have HD := hid hd
              have HBN := hid hbd
              clear hq hd hbd e0 e1 e2 HP0
              go_wp2_with fail
              refine HQ.out.mono ?_
              rintro _ w5 ⟨rfl, h5⟩
              have H5 := hid h5
              clear h5
              go_wp2_with fail
              refine (HD.out _ H5.out).mono ?_
              rintro _ w6 ⟨rfl, h6⟩
              have H6 := hid h6
              clear h6 HQ HD
              have d1 : (a1 == a1) = true := by simp
              have d2 : (a2 == a2) = true := by simp
              go_wp2_with fail
              go_meet
              exact ⟨by simp, _, _, HBN, hid (H6.out.fr ((Below.refl _ w6).alloc (Nat.le_refl _) _))⟩
          · as_aux_lemma =>
              obtain ⟨e, t', L', hbd, hq, hd⟩ := deed_lift (HS3.out.fr (Below.refl _ _).drew) HBD.out (by omega) lv xv
              have HQ := hid hq
              have HD := hid hd
              have HBN := hid hbd
              clear hq hd hbd
              go_upto_region 20 with (fail)
              go_region_held3 (fun W => W.cell? ⟨D, 1, none⟩ = some (.int .i64 lv) ∧ W.cell? ⟨D, 2, none⟩ = some (.int .i64 xv)) (first | (simp [go_sem, *]; done)) (first | (go_at_call 13; with_reducible refine HQ.out.mono ?_; rintro _ w4 ⟨rfl, h4⟩; have H4 := hid h4; have hrd4 := HCELL.out _ _ h4; have e1 := Rec.cell hrd4 1; have e2 := Rec.cell hrd4 2; simp at e1 e2; clear hrd4 h4) | (go_at_call 14; with_reducible refine (HD.out _ H4.out).mono ?_; rintro _ w5 ⟨rfl, hw5⟩; have H5 := hid hw5; have hrd5 := HCELL.out _ _ hw5; have e1 := Rec.cell hrd5 1; have e2 := Rec.cell hrd5 2; simp at e1 e2; clear hrd5 hw5))
              rename_i hHeld
              clear HD hHeld
              go_wp2_with fail
              go_meet
              exact ⟨by simp, _, _, HBN, H5⟩
        case rest =>
          obtain ⟨rfl, t', L', HBN, HST⟩ := hcut
          clear hkr h5 e0 e1 e2
          obtain ⟨Fr, hea⟩ := HST.out.ea
          have HEA := hid hea
          obtain ⟨m, em⟩ : ∃ m, tot L' = m := ⟨_, rfl⟩
          have HDL := hid (show (flL L').length = m by rw [flL_length, em])
          obtain ⟨Ad, cd, -, q1, hrl, hcl⟩ := hea.cells
          rw [HDL.out] at q1
          have hm81 : m ≤ 81 := by have := HBN.out.1; omega
          clear hea hcl em
          go_upto_region 23 with (fail)
          go_loopw [20, 22, 126] (fun v20 _ v126 wx => ∃ (j s : Nat), v20 = .int .u64 (s : Int) ∧ v126 = .int .i64 (j : Int) ∧ j ≤ m ∧ s < 18446744073709551616 ∧ Hid (IsSet s (lvS ((flL L').take j))) ∧ Hid (Below wc.heap.size wc wx)) (fun _ _ i _ => m - natE i)
          case atStart => exact ⟨0, 0, rfl, rfl, by omega, by omega, hid lvS_nil, hid (Below.refl _ _)⟩
          case round =>
            obtain ⟨j, s, rfl, rfl, hj, hs, HS, HB⟩ := hrel
            by_cases hjm : j < m
            · obtain ⟨y, hy⟩ : ∃ y, (flL L')[j]? = some y := ⟨_, List.getElem?_eq_getElem (by rw [HDL.out]; exact hjm)⟩
              obtain ⟨iv, hiv, hyi, -⟩ := flL_level L' (List.mem_of_getElem? hy)
              obtain ⟨Ad', cd', -, q1', -, hcl'⟩ := (HEA.out.far HB.out).cells
              rw [HDL.out] at q1'
              obtain ⟨g', o', rfl, y0, y1⟩ := it_at hcl' hy
              have hae : Ad = some ⟨g', o', none⟩ := by
                have h1 := below_cell HB.out (by have := HEA.out.cells; exact Nat.le_refl _) _ _ q1
                rw [q1'] at h1
                simp at h1; exact h1.1.symm
              subst hae
              have HSN := hid (lvS_snoc HS.out hy hiv hyi)
              have HWI := hid (fun W => RWithA_any s iv hiv hs W)
              have hsn : s ||| 2 ^ iv < 18446744073709551616 := HSN.out.1
              rw [hyi] at y0
              clear hy hyi q1' hcl' q1
              obtain ⟨y1v, ey⟩ : ∃ v, y.2 = v := ⟨_, rfl⟩
              rw [ey] at y1
              clear ey
              obtain ⟨sn, esn⟩ : ∃ sn, s ||| 2 ^ iv = sn := ⟨_, rfl⟩
              rw [esn] at HSN HWI hsn
              clear esn
              go_wp2_with (go_at_call 15; refine (HWI.out _).mono ?_; rintro _ _ ⟨rfl, x2, rfl⟩)
              go_roundw
              case rel => exact ⟨j + 1, sn, rfl, by go_num, by omega, hsn, HSN, hid (HB.out.trans (RowKit.Below.mono (by (repeat (first | exact Below.refl _ _ | refine RowKit.Below.past ?_ _ | refine RowKit.Below.alloc' ?_ _ | refine RowKit.Below.drew' ?_ | refine RowKit.Below.drewN' ?_ _ | refine RowKit.Below.setCell' ?_ (by simp [go_sem]) _))) HB.out.size))⟩
              case measure => simp [natE]; omega
            · obtain rfl : j = m := by omega
              have HSF := hid (lvS_all (L := L') (by have := HS.out; rwa [List.take_of_length_le (Nat.le_of_eq HDL.out)] at this))
              have HSTX := hid (HST.out.fr HB.out)
              have HLEN := hid (fun y : Past => (show Calls Tryd.prog 16 #[.pointer (some ⟨b, 0, none⟩)] (wr.past y) (Gives (.int .i64 (j : Int)) (wr.past y)) from by
                obtain ⟨F1, rp, so, nn, hA, hS, hn⟩ := (HSTX.out.fr (wr.below_past y)).pq
                rw [← HDL.out, flL_length, ← hn]
                exact PLen_any hA))
              have HLVL := hid (fun y : Past => (show Calls Tryd.prog 17 #[.pointer (some ⟨b, 0, none⟩)] (wr.past y) (Gives (.int .u64 (s : Int)) (wr.past y)) from by
                obtain ⟨F1, rp, so, nn, hA, hS, hn⟩ := (HSTX.out.fr (wr.below_past y)).pq
                rw [HSF.out.uniq hS]
                exact PLevels_any hA))
              have HSA := hid (fun y : Past => (show Calls Tryd.prog 18 #[.pointer (some ⟨b, 0, none⟩), .pointer (some ⟨r, 0, none⟩), .int .i64 500] (wr.past y) (Gives (.bool true) (wr.past y)) from by
                have hx := HSTX.out.fr (wr.below_past y)
                obtain ⟨F1, h1⟩ := hx.pq
                obtain ⟨F2, h2⟩ := hx.ea
                exact same_any h1 (HTZW.out _ _ hx) h2 (by rw [← flL_length, HDL.out]; omega) 500))
              obtain ⟨Ad', cd', -, q1', hrl', -⟩ := (HEA.out.far HB.out).cells
              rw [HDL.out] at q1'
              have d1 : ((j : Int) != (j : Int)) = false := by simp
              have d2 : ((s : Int) != (s : Int)) = false := by simp
              clear q1 hjm HB
              go_upto_region 27 with (fail)
              refine wp_region_past (by kernel_rfl) (by kernel_rfl) ?_
              repeat (go_big_quiet_step ((first | (go_at_call 16; first | with_reducible exact Calls.in_past (HLEN.out _) | with_reducible exact Calls.in_past2 (HLEN.out _)) | (go_at_call 17; first | with_reducible exact Calls.in_past (HLVL.out _) | with_reducible exact Calls.in_past2 (HLVL.out _)) | (go_at_call 18; first | with_reducible exact Calls.in_past (HSA.out _) | with_reducible exact Calls.in_past2 (HSA.out _)) | (go_at_call 16; first | exact Calls.in_past (HLEN.out _) | exact Calls.in_past2 (HLEN.out _)) | (go_at_call 17; first | exact Calls.in_past (HLVL.out _) | exact Calls.in_past2 (HLVL.out _)) | (go_at_call 18; first | exact Calls.in_past (HSA.out _) | exact Calls.in_past2 (HSA.out _)))))
              refine wpQuiet_nil ?_
              rintro _ ⟨_, rfl⟩
              rename_i y7
              go_wp2_with fail
              exact ⟨⟨k + 1, t', L', by go_num, by omega, HBN, hid (HBACK.out _ _ (HSTX.out.fr (wr.below_past y7)))⟩, by simp [natE]; omega⟩
      · obtain rfl : k = n := by omega
        have HSA := hid (fun m : Int => (show Calls Tryd.prog 18 #[.pointer (some ⟨b, 0, none⟩), .pointer (some ⟨r, 0, none⟩), .int .i64 m] wr (Gives (.bool true) wr) from by
          obtain ⟨F1, h1⟩ := HS.out.pq
          obtain ⟨F2, h2⟩ := HS.out.ea
          exact same_any h1 (HTZ.out _ (HBX.out wr HS.out.kp)) h2 (by have := HBD.out.1; omega) m))
        have HBW := hid (HBX.out wr HS.out.kp)
        go_wp2_with (go_at_call 18; refine (HSA.out _).mono ?_; rintro _ _ ⟨rfl, x9, rfl⟩)
        go_ret
        exact Gives.mk rfl (HBW.out.trans (RowKit.Below.mono (by (repeat (first | exact Below.refl _ _ | refine RowKit.Below.past ?_ _ | refine RowKit.Below.alloc' ?_ _ | refine RowKit.Below.drew' ?_ | refine RowKit.Below.drewN' ?_ _ | refine RowKit.Below.setCell' ?_ (by simp [go_sem]) _))) HBW.out.size))
end Go.Proofs.YtngokihncjkiaaaDoor
