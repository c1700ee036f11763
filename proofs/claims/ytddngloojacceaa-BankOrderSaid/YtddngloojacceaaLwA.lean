/-
  Layer 44's statements: up to 12 kinds and clients? No condition but that rows are not long.
-/
import Derived.Test.YtddngloojacceaaRfI
import Derived.Test.YtddngloojacceaaAppB
namespace Go.Proofs.Ytddngloojacceaa
open Go Go.RowKit
attribute [local go_sem] Oper.semAt_some
/-- It tells whether it is small; if it says so, it is. -/
def SmallP (x : Bk) (w : World) (e : Ending) (w' : World) : Prop := ∃ b : Bool, e = .returned (.bool b) ∧ Below w.heap.size w w' ∧ (b = true → x.Sm)
theorem SmallP.no {x : Bk} {w w' : World} (hb : Below w.heap.size w w') : SmallP x w (.returned (.bool false)) w' := ⟨false, rfl, hb, fun h => by cases h⟩
set_option maxRecDepth 100000 in
set_option maxHeartbeats 4000000 in
theorem small_any (x : Bk) (w : World) (hx : x.In w) : Calls Try.prog 8 #[.agg x.cs] w (SmallP x w) := by
  obtain ⟨i1, gi, gz0, gz1, gz2⟩ := info_parts info_row
  obtain ⟨w1, ew1⟩ : ∃ w1, w1 = w.alloc (.cells x.cs 25) := ⟨_, rfl⟩
  have hb1 : Below w.heap.size w w1 := by rw [ew1]; exact (Below.refl _ w).alloc (Nat.le_refl _) _
  have hrec : Rec w1 w.heap.size 25 x.cs := by rw [ew1]; exact Rec.new w _ _
  have r0 := Rec.cell hrec 0
  have r1 := Rec.cell hrec 1
  have r2 := Rec.cell hrec 2
  have hcs : x.cs = #[.slice x.F.1 x.F.2.2.length x.F.2.1, .slice x.AH x.H.length x.cH, .slice x.AM x.M.length x.cM] := rfl
  obtain ⟨k, ek⟩ : ∃ n, x.F.2.2.length = n := ⟨_, rfl⟩
  obtain ⟨nh, enh⟩ : ∃ n, x.H.length = n := ⟨_, rfl⟩
  obtain ⟨nm, enm⟩ : ∃ n, x.M.length = n := ⟨_, rfl⟩
  rw [ek, enh, enm] at hcs
  rw [hcs] at r0 r1 r2 ew1 ⊢
  simp at r0 r1 r2
  have hX := hx.below hb1
  have hlb := Rec.lt hrec
  have EW1 := hid ew1
  have HB1 := hid hb1
  have HX := hid hX
  have EK := hid ek
  have ENH := hid enh
  have ENM := hid enm
  clear ew1 hb1 hrec hX hx hcs ek enh enm
  by_cases h1 : 12 < k
  · go_enter Try.func8, Try.ntmps8
    go_upto_region 1 with (fail)
    rw [← EW1.out]
    go_wp2_with fail
    go_ret
    exact SmallP.no HB1.out
  · by_cases h2 : 12 < nh
    · go_enter Try.func8, Try.ntmps8
      go_upto_region 1 with (fail)
      rw [← EW1.out]
      go_wp2_with fail
      go_ret
      exact SmallP.no HB1.out
    · by_cases h3 : 12 < nm
      · go_enter Try.func8, Try.ntmps8
        go_upto_region 1 with (fail)
        rw [← EW1.out]
        go_wp2_with fail
        go_ret
        exact SmallP.no HB1.out
      · have BC := hid (fun W (hW : Below w1.heap.size w1 W) => (show W.cell? ⟨w.heap.size, 1, none⟩ = some (.slice x.AH nh x.cH) ∧ W.cell? ⟨w.heap.size, 2, none⟩ = some (.slice x.AM nm x.cM) from ⟨(hW.cell (lt_of_cell r1)).trans r1, (hW.cell (lt_of_cell r2)).trans r2⟩))
        have HLH := hid (show (tab rowV x.H).length = nh by rw [tab_row_length, ENH.out])
        have HLM := hid (show (tab rowV x.M).length = nm by rw [tab_row_length, ENM.out])
        go_enter Try.func8, Try.ntmps8
        go_upto_region 3 with (fail)
        rw [← EW1.out]
        go_region_held3 (fun w' => w'.cell? ⟨w.heap.size, 1, none⟩ = some (.slice x.AH nh x.cH) ∧ w'.cell? ⟨w.heap.size, 2, none⟩ = some (.slice x.AM nm x.cM)) (simp [go_sem, *]) (first | (refine step_appB rfl (.tmp 21) (.tmp 23) 23 rfl 22 i1 (.slice none 0 0) 1 24 Try.underlying23 gi gz0 gz1 gz2 rfl (by decide) w1.heap.size ?_ (.slice (some ⟨w1.heap.size, 0, none⟩) 0 0) 0 [] ?_ (World.ownsRow_lit (base := w1.heap.size) (size := 1) _ #[] 0 (Nat.le_refl _) (by unfold maxLen; omega) rfl) x.AH nh x.cH (tab rowV x.H) ?_ ?_ ?_ (tab_row_one x.H) ?_ ?_ ?_; (· simp [go_sem]); (· rfl); (· rfl); (· rw [HLH.out]; simp); (· exact HX.out.h.cells.below (by (repeat (first | exact Below.refl _ _ | refine RowKit.Below.past ?_ _ | refine RowKit.Below.alloc' ?_ _ | refine RowKit.Below.drew' ?_ | refine RowKit.Below.drewN' ?_ _ | refine RowKit.Below.setCell' ?_ (by simp [go_sem]) _)))); (· unfold maxLen; omega); (· omega); intro w5 A5 c5 hown5 hg5 _; have HB5 := hid (show Below w1.heap.size w1 w5 from Below.grown (by (repeat (first | exact Below.refl _ _ | refine RowKit.Below.past ?_ _ | refine RowKit.Below.alloc' ?_ _ | refine RowKit.Below.drew' ?_ | refine RowKit.Below.drewN' ?_ _ | refine RowKit.Below.setCell' ?_ (by simp [go_sem]) _))) hg5 (by simp [go_sem]) (fun q hq => by have e : some w1.heap.size = some q := hq; injection e with e; omega)); have HO5 := hid hown5; clear hown5 hg5; have cb1 := (BC.out _ HB5.out).1; have cb2 := (BC.out _ HB5.out).2) | (refine step_appB rfl (.tmp 24) (.tmp 26) 23 rfl 22 i1 (.slice none 0 0) 1 24 Try.underlying23 gi gz0 gz1 gz2 rfl (by decide) w1.heap.size ?_ (.slice A5 (0 + nh) c5) (0 + nh) ([] ++ tab rowV x.H) ?_ HO5.out x.AM nm x.cM (tab rowV x.M) ?_ ?_ ?_ (tab_row_one x.M) ?_ ?_ ?_; (· exact HB5.out.size); (· rfl); (· rfl); (· rw [HLM.out]; simp); (· exact HX.out.m.cells.below HB5.out); (· unfold maxLen; omega); (· omega); intro w6 A6 c6 hown6 hg6 _; have HB6 := hid (show Below w1.heap.size w1 w6 from Below.grown HB5.out hg6 HB5.out.size (fun q hq => (HO5.out.lt q hq).1)); have HO6 := hid hown6; clear hown6 hg6; have cb3 := (BC.out _ HB6.out).1; have cb4 := (BC.out _ HB6.out).2))
        all_goals
          have HCL : Hid (∀ t, t < nh + nm → ∃ (R : Option Addr) (c : Nat), ∃ A0, A6 = some ⟨A0, 0, none⟩ ∧ w6.cell? ⟨A0, t, none⟩ = some (.slice R (rAt (x.H ++ x.M) t).2.2.length c)) := hid (fun t ht => by
            obtain ⟨g, c, e, -⟩ := own_succ HO6.out (by omega)
            injection e with e1 e2 e3
            subst e1
            have := HO6.out.cellAt t (by omega)
            have e4 : [] ++ tab rowV x.H ++ tab rowV x.M = (x.H ++ x.M).map rowC := by rw [List.nil_append, tab_row_map, tab_row_map, List.map_append]
            rw [e4] at this
            refine ⟨(rAt (x.H ++ x.M) t).1, (rAt (x.H ++ x.M) t).2.1, g, rfl, ?_⟩
            rw [this]
            have ht2 : t < (x.H ++ x.M).length := by rw [List.length_append, ENH.out, ENM.out]; exact ht
            simp only [List.getElem?_map, rAt, List.getElem?_eq_getElem ht2]
            rfl)
          have HW6 := hid (HB1.out.trans (HB6.out.mono HB1.out.size))
          have HN : Hid (0 + nh + nm = nh + nm) := hid (by omega)
          have HNC : Hid (((nh : Int) + (nm : Int)) = ((nh + nm : Nat) : Int)) := hid (by simp)
          clear cb1 cb2 cb3 cb4 HB5 HO5 HB6 HO6 HLH HLM r0 r1 r2 hlb
          rw [HN.out, HNC.out]
          obtain ⟨N, eN⟩ : ∃ N, nh + nm = N := ⟨_, rfl⟩
          have hN : N ≤ 24 := by omega
          rw [eN] at HCL ⊢
          have EN := hid eN
          clear eN HN HNC
          go_wp2_with fail
          go_loopw [29] (fun i wr => ∃ (q : Nat) (y : Past), i = .int .i64 q ∧ q ≤ N ∧ wr = w6.past y ∧ Hid (∀ t, t < q → (rAt (x.H ++ x.M) t).2.2.length ≤ 12)) (fun i _ => N - (intOf i).toNat)
          case atStart => exact ⟨0, _, rfl, by omega, World.past_refl w6, hid (fun t h => by omega)⟩
          case round =>
            obtain ⟨q, y, rfl, hq, rfl, HJ⟩ := hrel
            by_cases hlt : q < N
            · obtain ⟨R, c, A0, rfl, hc⟩ := HCL.out q hlt
              obtain ⟨u, eu⟩ : ∃ u, (rAt (x.H ++ x.M) q).2.2.length = u := ⟨_, rfl⟩
              rw [eu] at hc
              have EU := hid eu
              clear eu
              by_cases hu : 12 < u
              · go_wp2_with fail
                go_ret
                exact SmallP.no (RowKit.Below.past HW6.out _)
              · go_wp2_with fail
                go_roundw
                case rel => exact ⟨q + 1, _, by go_num, by omega, by first | rfl | trivial, hid (fun t ht => by
                  by_cases e : t = q
                  · subst e; rw [EU.out]; omega
                  · exact HJ.out t (by omega))⟩
                case measure => simp [intOf]; omega
            · obtain rfl : N = q := by omega
              go_wp2_with fail
              go_ret
              refine ⟨true, rfl, RowKit.Below.past HW6.out _, fun _ => ⟨by rw [EK.out]; omega, by rw [ENH.out]; omega, fun i => ⟨?_, ?_⟩⟩⟩
              · by_cases hi : i < nh
                · have := HJ.out i (by rw [← EN.out]; omega)
                  rw [show rAt (x.H ++ x.M) i = rAt x.H i by unfold rAt; rw [List.getElem?_append_left (by rw [ENH.out]; exact hi)]] at this
                  exact Nat.le_trans this (by omega)
                · unfold hasR rAt; rw [List.getElem?_eq_none (by rw [ENH.out]; omega)]; simp
              · by_cases hi : i < nm
                · have := HJ.out (nh + i) (by rw [← EN.out]; omega)
                  rw [show rAt (x.H ++ x.M) (nh + i) = rAt x.M i by unfold rAt; rw [List.getElem?_append_right (by rw [ENH.out]; omega), ENH.out, Nat.add_sub_cancel_left]] at this
                  exact Nat.le_trans this (by omega)
                · unfold mostR rAt; rw [List.getElem?_eq_none (by rw [ENM.out]; omega)]; simp
end Go.Proofs.Ytddngloojacceaa
