/-
  Layer 44, the document's: who is served, and who is left. No condition but that the bank may be.
-/
import Derived.Test.YtddngloojacceaaRfC
namespace Go.Proofs.Ytddngloojacceaa
open Go Go.RowKit
theorem info_bool : (Try.prog.info? 4).map (fun i => (i.zero, i.size, i.bytes)) = some (some (.bool false), 1, 1) := by kernel_rfl
def oneB (v : Value) : Nat := match v with | .bool true => 1 | _ => 0
theorem news_of {w : World} {b1 o1 : Nat} {L : List Value} (ha : Cells w (some ⟨b1, o1, none⟩) L) (t : TypeId) : ∀ j u, L[j]? = some u → (w.alloc (.cells #[] t)).cell? ((⟨b1, o1, none⟩ : Addr).add j) = some u := by
  intro j u hj
  obtain ⟨b, off, e, hc⟩ := (ha.alloc (.cells #[] t)) (by intro e; rw [e] at hj; simp at hj)
  injection e with e
  injection e with e1 e2
  subst e1; subst e2
  have ea : (⟨b1, o1, none⟩ : Addr).add j = ⟨b1, o1 + j, none⟩ := by unfold Addr.add; split <;> simp_all
  rw [ea]
  exact hc j u hj
set_option maxRecDepth 100000 in
set_option maxHeartbeats 8000000 in
theorem rServe_any (x : Bk) (k nh : Nat) (ok : x.Ok k nh) (w : World) (hx : x.In w) :
    Calls Try.prog 18 #[.agg x.cs] w (ServeP (serveF x k nh) (stuckK (serveF x k nh) nh) w) := by
  obtain ⟨i0, hi, hz0, hz1, hz2⟩ := info_parts info_i64
  obtain ⟨i1, gi, gz0, gz1, gz2⟩ := info_parts info_bool
  obtain ⟨w1, ew1⟩ : ∃ w1, w1 = w.alloc (.cells x.cs 25) := ⟨_, rfl⟩
  have hb1 : Below w.heap.size w w1 := by rw [ew1]; exact (Below.refl _ w).alloc (Nat.le_refl _) _
  have hrec : Rec w1 w.heap.size 25 x.cs := by rw [ew1]; exact Rec.new w _ _
  have hsz1 : w1.heap.size = w.heap.size + 1 := by rw [ew1]; simp
  have hlw : w.heap.size < w1.heap.size := by omega
  have r0 := Rec.cell hrec 0
  have r1 := Rec.cell hrec 1
  have hk1 := ok.k1
  have hk4 := ok.k4
  have h8 := ok.h8
  have hcs : x.cs = #[.slice x.F.1 k x.F.2.1, .slice x.AH nh x.cH, .slice x.AM nh x.cM] := by unfold Bk.cs; rw [ok.ef, ok.eh, ok.em]
  have hX := hx.below hb1
  obtain ⟨bF, oF, eF, -⟩ := i64_at hX.f (k := 0) (by rw [ok.ef]; omega)
  have hXF := hX.f
  rw [eF] at hXF hcs
  obtain ⟨AH, eAH⟩ : ∃ z, x.AH = z := ⟨_, rfl⟩
  rw [eAH] at hcs
  rw [hcs] at r0 r1
  simp at r0 r1
  have HN := hid (news_of hXF 3)
  have HIL := hid (show (i64s x.F.2.2).length = k by rw [i64s_length, ok.ef])
  have EAH := hid eAH
  have EW1 := hid ew1
  have HSZ := hid hsz1
  have HREC := hid hrec
  have HB1 := hid hb1
  have HX := hid hx
  have OK := hid ok
  have HCS := hid hcs
  rw [hcs] at EW1 ⊢
  clear ew1 hb1 hrec hx ok hcs hsz1 eAH hXF hX eF
  go_enter Try.func18, Try.ntmps18
  go_upto_region 1 with (fail)
  rw [← EW1.out]
  go_upto_region 2 with (at_builtin; refine wpList_append_own_at _ rfl (.tmp 12) (.tmp 14) 22 rfl w1.heap.size 3 i0 (.int .i64 0) 1 8 Try.underlying22 hi hz0 hz1 hz2 rfl (by decide) _ 0 [] rfl (World.ownsRow_lit (base := w1.heap.size) (size := 1) w1 #[] 0 (Nat.le_refl _) (by unfold maxLen; omega) rfl) ⟨bF, oF, none⟩ k x.F.2.1 (i64s x.F.2.2) (by rfl) (by rw [HIL.out]; simp) HN.out (i64s_one x.F.2.2) (by unfold maxLen; omega) (by omega) (by simp) ?_; intro v' w2 hown' hgrow hq7 hq8; clear hq7 hq8)
  simp only [Nat.zero_add, List.nil_append] at hown'
  obtain ⟨fg, fc, rfl, -⟩ := own_succ hown' (by omega)
  have hb2 := ((Below.refl w1.heap.size w1).alloc (Nat.le_refl _) (.cells #[] 3)).grown hgrow (by simp) (fun q hq => by have e : some w1.heap.size = some q := hq; injection e with e; omega)
  have HO2 := hid hown'
  have HB2 := hid hb2
  have r1' : w2.cell? ⟨w.heap.size, 1, none⟩ = some (.slice AH nh x.cH) := (hb2.cell (lt_of_cell r1)).trans r1
  clear hown' hgrow hb2 r0 r1 hlw
  go_upto_region 3 with (at_make; refine wpList_make_full _ rfl (.tmp 18) (.tmp 18) 50 rfl w2.heap.size 4 i1 (.bool false) 1 Try.underlying50 gi gz0 gz1 .i64 .i64 _ _ nh rfl rfl rfl rfl ?_ ?_ ?_ ?_; (· rw [gz2]; omega); (· unfold maxLen; omega); (· simp [go_sem]); intro w4 hrow hg4)
  obtain ⟨dg, eg⟩ : ∃ g, g = w2.heap.size := ⟨_, rfl⟩
  rw [← eg] at hrow ⊢
  have HW0 : Hid (RvW w w4 w.heap.size x.cs k nh fg fc dg (.slice none 0 0) x.F.2.2 (bools (doneL [] nh)) []) := hid (by
    have h1 := HB1.out
    have hb24 : Below w2.heap.size w2 w4 := (Below.refl _ w2).grown hg4 (Nat.le_refl _) (fun _ h => by cases h)
    have h2 := HB2.out
    have hb12 : Below w.heap.size w w2 := h1.trans (h2.mono h1.size)
    refine ⟨hb12.trans (hb24.mono hb12.size), (HREC.out.below h2 (Nat.le_refl _)).below hb24 (Nat.le_refl _), own_below (own_base HO2.out h1.size) hb24 (Nat.le_refl _), ?_, ⟨by simp [i64s], .inl ⟨rfl, rfl⟩⟩, .inr (.inl rfl)⟩
    rw [doneL_nil]
    have := own_base hrow (by rw [eg]; exact hb12.size : w.heap.size ≤ dg)
    simpa [toList_madeCells_one, Value.cells] using this)
  clear hrow hg4 eg HB2 HO2 HREC HSZ HB1 EW1 HN HIL r1'
  go_wp2_with fail
  go_loopw [6, 7] (fun ov ag wr => ∃ (a : Bool) (O : Option Addr) (co : Nat) (free out : List Int), ov = .slice O out.length co ∧ ag = .bool a ∧ Hid (RvW w wr w.heap.size x.cs k nh fg fc dg ov free (bools (doneL out nh)) out) ∧ Hid (FreeOk free k (1 + out.length)) ∧ Hid (serveN x k (stuckK out nh).length free (stuckK out nh) out = serveF x k nh) ∧ Hid ((stuckK out nh).length + out.length = nh) ∧ Hid (a = false → (stuckK out nh).findIdx? (fun i => canK x free i.toNat k) = none)) (fun ov ag _ => 2 * (nh - lenC ov) + oneB ag)
  case atStart => exact ⟨true, none, 0, _, [], rfl, rfl, HW0, hid ⟨OK.out.ef, fun j hj => by have := OK.out.fv j hj; simp; omega⟩, hid (by rw [stuckK_nil, iota_length]; rfl), hid (by rw [stuckK_nil, iota_length]; simp), hid (fun h => by cases h)⟩
  case round =>
    clear HW0
    obtain ⟨a, O, co, free, out, rfl, rfl, HW, HFO, HSN, HLO, HNO⟩ := hrel
    cases a with
    | true =>
      clear HNO
      go_wp2_with fail
      go_loopw [6, 7, 8] (fun ov ag i wr => ov = .slice O out.length co ∧ ag = .bool false ∧ ∃ q : Nat, i = .int .i64 q ∧ q ≤ nh ∧ Hid (RvW w wr w.heap.size x.cs k nh fg fc dg (.slice O out.length co) free (bools (doneL out nh)) out) ∧ Hid (∀ t : Nat, t < q → out.contains (t : Int) = false → canK x free t k = false)) (fun _ _ i _ => nh - (intOf i).toNat)
      case atStart => exact ⟨rfl, rfl, 0, rfl, by omega, HW, hid (fun t h => by omega)⟩
      case round =>
        clear HW
        obtain ⟨rfl, rfl, q, rfl, hq, HW, HC⟩ := hrel
        have hbk := Rec.cell HW.out.bank 1
        rw [HCS.out] at hbk
        simp at hbk
        have hbq := HW.out.bank
        rw [HCS.out] at hbq
        have hb0 := Rec.cell hbq 0
        have hb2 := Rec.cell hbq 2
        simp at hb0 hb2
        by_cases hlt : q < nh
        · have hdc := HW.out.dc (q := q) hlt
          rw [doneL_at hlt] at hdc
          have HCAN := hid (fun W (hW : Below wr.heap.size wr W) => rcan_any x k nh OK.out q hlt (some ⟨fg, 0, none⟩) fc free HFO.out.1 W (HX.out.below (HW.out.below.trans (hW.mono HW.out.below.size))) ((Cells.of_own HW.out.fo).below hW))
          rw [HCS.out] at HCAN
          obtain ⟨c, ec⟩ : ∃ c, out.contains (q : Int) = c := ⟨_, rfl⟩
          obtain ⟨d, ed⟩ : ∃ d, canK x free q k = d := ⟨_, rfl⟩
          rw [ec] at hdc
          rw [ed] at HCAN
          have EC := hid ec
          have ED := hid ed
          clear ec ed hbq
          cases c with
          | true =>
            clear HCAN
            go_wp2_with fail
            go_roundw
            case rel => exact ⟨rfl, rfl, q + 1, by go_num, by omega, HW, hid (fun t ht hc => by
              by_cases e : t = q
              · subst e; rw [EC.out] at hc; cases hc
              · exact HC.out t (by omega) hc)⟩
            case measure => simp [intOf]; omega
          | false =>
            cases d with
            | false =>
              go_wp2_with (go_at_call 33; refine (HCAN.out _ (by (repeat (first | exact Below.refl _ _ | refine RowKit.Below.past ?_ _ | refine RowKit.Below.alloc' ?_ _ | refine RowKit.Below.drew' ?_ | refine RowKit.Below.drewN' ?_ _ | refine RowKit.Below.setCell' ?_ (by simp [go_sem]) _)))).mono ?_; rintro _ _ ⟨rfl, y1, rfl⟩)
              go_roundw
              case rel => exact ⟨rfl, rfl, q + 1, by go_num, by omega, hid (HW.out.past y1), hid (fun t ht hc => by
                by_cases e : t = q
                · subst e; exact ED.out
                · exact HC.out t (by omega) hc)⟩
              case measure => simp [intOf]; omega
            | true =>
              go_upto_region 11 with (go_at_call 33; refine (HCAN.out _ (by (repeat (first | exact Below.refl _ _ | refine RowKit.Below.past ?_ _ | refine RowKit.Below.alloc' ?_ _ | refine RowKit.Below.drew' ?_ | refine RowKit.Below.drewN' ?_ _ | refine RowKit.Below.setCell' ?_ (by simp [go_sem]) _)))).mono ?_; rintro _ _ ⟨rfl, y1, rfl⟩)
              obtain ⟨W0, eW0⟩ : ∃ W0, W0 = wr.past y1 := ⟨_, rfl⟩
              have HW0 := hid (HW.out.past y1)
              rw [← eW0] at HW0 ⊢
              clear eW0 hbk hb0 hb2 hdc HCAN HW
              have d1 := HW0.out.dc (q := q) hlt
              rw [doneL_at hlt, EC.out] at d1
              have d2 := HW0.out.dno.frozenAt q
              have d3 := (HW0.out.dno.lt dg rfl).2
              go_upto_region 12 with fail
              obtain ⟨W1, eW1⟩ : ∃ W1, W1 = W0.setCell ⟨dg, q, none⟩ (.bool true) := ⟨_, rfl⟩
              have HW1 := hid (HW0.out.setD q (.bool true))
              rw [doneL_set] at HW1
              rw [← eW1] at HW1 ⊢
              clear eW1 d1 d2 d3 HW0
              have hBs := HW1.out.below.size
              have HOL : Hid (out.length ≤ 8) := hid (by have := HLO.out; omega)
              go_upto_region 13 with (at_builtin; refine wpList_pushB rfl (.tmp 42) (.tmp 44) 22 rfl 3 i0 (.int .i64 0) 1 8 Try.underlying22 hi hz0 hz1 hz2 rfl (by decide) w.heap.size (w := W1) hBs (.slice O out.length co) out.length (i64s out) rfl HW1.out.oo _ (#[.int .i64 q]) ?_ rfl rfl ?_ ?_ ?_ ?_; (· simp [go_sem]); (· simp [Value.oneCell']); (· have := HOL.out; omega); (· have := HOL.out; unfold maxLen; omega); intro W2 g7 c7 hown7 hg7 hap7)
              have HW2 := hid (HW1.out.served (i := q) hown7 hg7 hap7)
              clear hown7 hg7 hap7 HW1 hBs
              obtain ⟨j, hj1, hj2, hj3⟩ := stuck_step (p := fun i => canK x free i.toNat k) hlt EC.out (by simpa using ED.out) (fun t ht hc => by simpa using HC.out t ht hc)
              obtain ⟨m, em⟩ : ∃ m, (stuckK out nh).length = m + 1 := ⟨(stuckK out nh).length - 1, by have := find_lt hj1; omega⟩
              have hlen2 : (stuckK (out ++ [(q : Int)]) nh).length = m := by rw [← hj3, List.length_eraseIdx, if_pos (find_lt hj1), em]; rfl
              have HSN2 : Hid (serveN x k (stuckK (out ++ [(q : Int)]) nh).length (plusF free (hasR x q) 1) (stuckK (out ++ [(q : Int)]) nh) (out ++ [(q : Int)]) = serveF x k nh) := hid (by
                rw [hlen2, ← HSN.out, em, serveN_some hj1, hj2, hj3]
                rfl)
              have HLO2 : Hid ((stuckK (out ++ [(q : Int)]) nh).length + (out ++ [(q : Int)]).length = nh) := hid (by
                have := HLO.out
                rw [hlen2]
                simp
                omega)
              have HFO2 : Hid (FreeOk (plusF free (hasR x q) 1) k (1 + (out ++ [(q : Int)]).length)) := hid (by
                have := HFO.out.plus (OK.out.hl q hlt) (OK.out.hv q hlt)
                simpa [Nat.add_assoc] using this)
              have hfb : ∀ t, t < k → 0 ≤ atL free t ∧ atL free t ≤ 100000000 := fun t ht => by have h1 := HFO.out.2 t ht; have h2 := HOL.out; omega
              have HFB := hid hfb
              have hhb : ∀ t, t < k → 0 ≤ atL (hasR x q) t ∧ atL (hasR x q) t ≤ 1000000 := OK.out.hv q hlt
              have HHB := hid hhb
              have EFL := hid HFO.out.1
              clear hj1 hj2 hj3 em hlen2 hfb hhb HSN HLO HFO HC EC ED
              have HW3 : Hid (RvW w W2 w.heap.size x.cs k nh fg fc dg (.slice (some ⟨g7, 0, none⟩) (out.length + 1) c7) (plusK free (hasR x q) 1 0) (bools (doneL (out ++ [(q : Int)]) nh)) (out ++ [(q : Int)])) := hid (by rw [plusK_zero]; exact HW2.out)
              clear HW2
              go_wp2_with fail
              go_loopw [9] (fun p wr => ∃ t : Nat, p = .int .i64 t ∧ t ≤ k ∧ Hid (RvW w wr w.heap.size x.cs k nh fg fc dg (.slice (some ⟨g7, 0, none⟩) (out.length + 1) c7) (plusK free (hasR x q) 1 t) (bools (doneL (out ++ [(q : Int)]) nh)) (out ++ [(q : Int)]))) (fun p _ => k - (intOf p).toNat)
              case atStart => exact ⟨0, rfl, by omega, HW3⟩
              case round =>
                clear HW3
                obtain ⟨t, rfl, ht, HW⟩ := hrel
                by_cases hlk : t < k
                · have hin := HX.out.below HW.out.below
                  obtain ⟨bh, oh, Rh, ch, eh, q1, k1⟩ := hin.h.at (i := q) (by rw [OK.out.eh]; exact hlt)
                  rw [EAH.out] at eh
                  subst eh
                  rw [show (rAt x.H q).2.2.length = k from OK.out.hl q hlt] at q1
                  obtain ⟨b1, o1, rfl, hc1⟩ := i64_at k1 (k := t) (by rw [show (rAt x.H q).2.2.length = k from OK.out.hl q hlt]; exact hlk)
                  change wr.cell? _ = some (.int .i64 (atL (hasR x q) t)) at hc1
                  have hbk := Rec.cell HW.out.bank 1
                  rw [HCS.out] at hbk
                  simp at hbk
                  have fcl := HW.out.fc' (q := t) hlk
                  rw [plusK_at (by rw [EFL.out]; exact hlk), if_neg (Nat.lt_irrefl _)] at fcl
                  have ffz := HW.out.fo.frozenAt t
                  have flt := (HW.out.fo.lt fg rfl).2
                  have a1 := HFB.out t hlk
                  have a2 := HHB.out t hlk
                  have hst := plusK_set (a := free) (b := hasR x q) (s := 1) (k := t) (by rw [EFL.out]; exact hlk)
                  rw [Int.one_mul] at hst
                  obtain ⟨u, eu⟩ : ∃ u, atL free t = u := ⟨_, rfl⟩
                  obtain ⟨v, ev⟩ : ∃ v, atL (hasR x q) t = v := ⟨_, rfl⟩
                  rw [eu] at fcl a1 hst
                  rw [ev] at hc1 a2 hst
                  have hwr : IntKind.i64.wrap (u + v) = u + v := by rw [IntKind.wrap_i64]; omega
                  have HN := hid (HW.out.drew.setF t (u + v))
                  rw [hst] at HN
                  clear hin k1 eu ev hst
                  go_wp2_with fail
                  go_still_tail 16, (by kernel_rfl)
                  change wpList _ _ _ _ _ wr.drew
                  clear hbk q1 hc1
                  obtain ⟨W5, eW5⟩ : ∃ W5, W5 = wr.drew := ⟨_, rfl⟩
                  have fcl' : W5.cell? ⟨fg, t, none⟩ = some (.int .i64 u) := by rw [eW5]; exact fcl
                  have ffz' : W5.frozen? ⟨fg, t, none⟩ = false := by rw [eW5]; exact ffz
                  have flt' : fg < W5.heap.size := by rw [eW5]; exact flt
                  rw [← eW5] at HN ⊢
                  clear eW5 fcl ffz flt
                  go_wp2_with fail
                  go_roundw
                  case rel => exact ⟨t + 1, by go_num, by omega, HN⟩
                  case measure => simp [intOf]; omega
                · obtain rfl : t = k := by omega
                  have HWE : Hid (RvW w wr w.heap.size x.cs t nh fg fc dg (.slice (some ⟨g7, 0, none⟩) (out.length + 1) c7) (plusF free (hasR x q) 1) (bools (doneL (out ++ [(q : Int)]) nh)) (out ++ [(q : Int)])) := hid (by
                    rw [← plusK_all, EFL.out]; exact HW.out)
                  clear HW
                  go_wp2_with fail
                  go_roundw
                  case rel => exact ⟨true, some ⟨g7, 0, none⟩, c7, plusF free (hasR x q) 1, out ++ [(q : Int)], by simp, rfl, by simpa using HWE, HFO2, HSN2, HLO2, hid (fun h => by cases h)⟩
                  case measure => simp [lenC, oneB]; have := HLO2.out; simp at this; omega
        · obtain rfl : q = nh := by omega
          have HNO : Hid ((stuckK out q).findIdx? (fun i => canK x free i.toNat k) = none) := hid (stuck_no (fun t ht hc => HC.out t ht hc))
          clear hbq
          go_wp2_with fail
          go_roundw
          case rel => exact ⟨false, O, co, free, out, rfl, rfl, HW, HFO, HSN, HLO, hid (fun _ => HNO.out)⟩
          case measure => simp [lenC, oneB]
    | false =>
      have HSE : Hid (serveF x k nh = out) := hid (by rw [← HSN.out]; exact serveN_none (HNO.out rfl) _)
      have HE0 : Hid (EnW w wr nh dg (.slice O out.length co) (.slice none 0 0) (bools (doneL out nh)) out (stuckK out 0)) := hid ⟨HW.out.below, HW.out.dno, HW.out.oo, ⟨by simp [i64s, stuckK, iota], .inl ⟨rfl, rfl⟩⟩, .inr (.inl rfl)⟩
      clear HNO HSN HFO HLO HW
      go_wp2_with fail
      go_loopw [10, 11] (fun lv i wr => ∃ q : Nat, i = .int .i64 q ∧ q ≤ nh ∧ Hid (EnW w wr nh dg (.slice O out.length co) lv (bools (doneL out nh)) out (stuckK out q))) (fun _ i _ => nh - (intOf i).toNat)
      case atStart => exact ⟨0, rfl, by omega, HE0⟩
      case round =>
        clear HE0
        obtain ⟨q, rfl, hq, HE⟩ := hrel
        by_cases hlt : q < nh
        · have hdc := HE.out.dno.cellAt q (by omega)
          rw [doneL_at hlt] at hdc
          have hsu := stuckK_succ out q
          have hln := stuckK_length out q
          obtain ⟨c, ec⟩ : ∃ c, out.contains (q : Int) = c := ⟨_, rfl⟩
          rw [ec] at hdc hsu
          clear ec
          cases c with
          | true =>
            have HN := hid (show stuckK out (q + 1) = stuckK out q by rw [hsu, if_pos rfl])
            clear hsu hln
            go_wp2_with fail
            go_roundw
            case rel => exact ⟨q + 1, by go_num, by omega, hid (by rw [HN.out]; exact HE.out)⟩
            case measure => simp [intOf]; omega
          | false =>
            have HN := hid (show stuckK out (q + 1) = stuckK out q ++ [(q : Int)] by rw [hsu, if_neg (by simp)])
            have HL := hid hln
            have hBs := HE.out.below.size
            clear hsu hln
            go_wp2_with (at_builtin; refine wpList_pushB rfl (.tmp 79) (.tmp 81) 22 rfl 3 i0 (.int .i64 0) 1 8 Try.underlying22 hi hz0 hz1 hz2 rfl (by decide) w.heap.size (w := wr) hBs u10 (stuckK out q).length (i64s (stuckK out q)) rfl HE.out.lo _ (#[.int .i64 q]) ?_ rfl rfl ?_ ?_ ?_ ?_; (· simp [go_sem]); (· simp [Value.oneCell']); (· have := HL.out; omega); (· have := HL.out; unfold maxLen; omega); intro W7 g7 c7 hown7 hg7 hap7; have HS3 := hid (HE.out.pushed (i := q) hown7 hg7 hap7); clear hown7 hg7 hap7)
            go_roundw
            case rel => exact ⟨q + 1, by go_num, by omega, hid (by rw [HN.out]; exact HS3.out)⟩
            case measure => simp [intOf]; omega
        · obtain rfl : q = nh := by omega
          obtain ⟨B, d, eo⟩ := own_shape HE.out.lo
          rw [eo]
          rw [eo] at HE
          clear eo
          go_wp2_with fail
          go_ret2
          rw [HSE.out]
          exact ⟨O, co, B, d, rfl, HE.out.below, HE.out.oo, HE.out.lo⟩
end Go.Proofs.Ytddngloojacceaa
