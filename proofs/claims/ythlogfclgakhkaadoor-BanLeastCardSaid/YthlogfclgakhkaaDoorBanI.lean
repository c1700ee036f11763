/-
  Layer 21: who stands back. No condition (the table of the library's that is read is a fact that is asked for).
-/
import Derived.Test.YthlogfclgakhkaaDoorBanH
import Derived.Deep.CutRange
import Derived.StillTailTactics
namespace Go.Proofs.YthlogfclgakhkaaDoor
open Go.RowKit Go.Shelf
attribute [local go_sem] Oper.semAt_some
theorem boxed_past_new (w : World) (x : Past) (t : TypeId) (v : Value) : Boxed ((w.past x).alloc (.cells #[v] t)) (w.heap.size + x.more) t v := by
  have := Boxed.new (w.past x) t v
  rwa [World.size_past] at this
theorem boxed_new_past (w : World) (x : Past) (t : TypeId) (v : Value) : Boxed ((w.alloc (.cells #[v] t)).past x) w.heap.size t v :=
  (World.block_past (by simp)).trans (Boxed.new w t v)
def goingB (S : Bn) : Bool := nxP S == S.p && nxU S == S.u
def banStep (S : Bn) (l : Nat) (o : Int) (x : Nat) : Int := if decide (atD S.v l < atD S.v x) && !(goingB S && S.p == (x : Int)) then withF o x else o
def banF (S : Bn) : Int := (bitsL S.wt).foldl (banStep S ((leastV S.v S.wt).getD 0)) 0
set_option maxRecDepth 100000 in
set_option maxHeartbeats 4000000 in
theorem banned_any {w : World} {wt : Nat} {p u s : Int} {V G : List Int} {cs : Array Value} (h : BIn w wt p u s V G cs) (hl8 : (ofS wt p u s V G).v.length ≤ 8) (hwt : (ofS wt p u s V G).wt < 2 ^ (ofS wt p u s V G).v.length) (hZ : Tz w) :
    Calls Tryd.prog 7 #[.agg cs] w (Gives (.int .u64 (banF (ofS wt p u s V G))) w) := by
  obtain ⟨v, g, rfl⟩ := ban_six h
  have hb1 := (Below.refl w.heap.size w).alloc (Nat.le_refl _) (.cells #[.int .u64 (wt : Int), .int .i64 p, .int .i64 u, .int .i64 s, v, g] 28)
  have HO := hid (h.of hb1)
  have HB1 := hid hb1
  obtain ⟨S, eS⟩ : ∃ S, ofS wt p u s V G = S := ⟨_, rfl⟩
  rw [eS] at HO hl8 hwt ⊢
  have HL8 := hid hl8
  have HWT := hid hwt
  have HZ := hid hZ
  have hzlt := hZ.lt
  clear h hb1 eS hZ hl8 hwt
  refine (callsIn_wide (n := 5)).1 ?_
  refine callsIn_of_wp_marks Tryd.func7 rfl trivial ?_ rfl
  refine wpIn_wide.2 ?_
  simp only [Tryd.ntmps7, List.size_toArray, List.length_cons, List.length_nil, Nat.reduceAdd, Nat.reduceSub, Array.replicate_succ, Array.replicate_zero, List.push_toArray, List.append_toArray, List.nil_append, List.cons_append]
  go_upto_region 2 with (go_at_call 14; refine HO.out.mono ?_; rintro _ w2 ⟨b, rfl, h2, hb2⟩; have H2 := hid h2; have HB2 := hid (below_trans' HB1.out hb2); clear h2 hb2)
  obtain ⟨B, eB⟩ : ∃ B, (w.alloc (.cells #[.int .u64 (wt : Int), .int .i64 p, .int .i64 u, .int .i64 s, v, g] 28)).heap.size = B := ⟨_, rfl⟩
  have hBw : w.heap.size ≤ B := by rw [← eB]; simp
  rw [eB] at H2
  clear eB
  obtain ⟨K3, eK3⟩ : ∃ K, w2.heap.size = K := ⟨_, rfl⟩
  obtain ⟨w3, ew3⟩ : ∃ W, W = w2.alloc (.cells #[.pointer (some ⟨b, 0, none⟩)] 43) := ⟨_, rfl⟩
  have bS3 : Boxed w3 K3 43 (.pointer (some ⟨b, 0, none⟩)) := by rw [ew3, ← eK3]; exact Boxed.new w2 _ _
  have hb3 : Below w2.heap.size w2 w3 := by rw [ew3]; exact (Below.refl _ w2).alloc (Nat.le_refl _) _
  have H3 := hid (H2.out.far hb3)
  have HB3 := hid (HB2.out.trans (hb3.mono HB2.out.size))
  have HK3 : w.heap.size ≤ K3 := by rw [← eK3]; exact HB2.out.size
  rw [← ew3, eK3]
  clear ew3 hb3 H2 HB2 eK3
  have HLS := hid (fun W (hW : Below w3.heap.size w3 W) => least_any HL8.out HWT.out (H3.out.far hW) (HZ.out.below (HB3.out.trans (hW.mono HB3.out.size))))
  obtain ⟨le, ele⟩ : ∃ x, encB (leastV S.v S.wt) = x := ⟨_, rfl⟩
  rw [ele] at HLS
  have ELE := hid ele
  clear ele
  have q1 := bS3.cell
  go_upto_region 3 with (go_at_call 15; refine (HLS.out _ (by (repeat (first | exact Below.refl _ _ | refine RowKit.Below.past ?_ _ | refine RowKit.Below.alloc' ?_ _ | refine RowKit.Below.drew' ?_ | refine RowKit.Below.drewN' ?_ _ | refine RowKit.Below.setCell' ?_ (by simp [go_sem]) _)))).mono ?_; rintro _ _ ⟨rfl, x3, rfl⟩)
  obtain ⟨K4, eK4⟩ : ∃ K, w3.heap.size + x3.more = K := ⟨_, rfl⟩
  obtain ⟨w4, ew4⟩ : ∃ W, W = (w3.past x3).alloc (.cells #[.int .i64 le] 3) := ⟨_, rfl⟩
  have hs3 : (w3.past x3).heap.size = K4 := by rw [World.size_past, eK4]
  have bL4 : Boxed w4 K4 3 (.int .i64 le) := by rw [ew4, ← hs3]; exact Boxed.new _ _ _
  have hb34 : Below w3.heap.size w3 w4 := by rw [ew4]; exact (w3.below_past x3).alloc (by simp [World.size_past]) _
  have bS4 : Boxed w4 K3 43 (.pointer (some ⟨b, 0, none⟩)) := (hb34.block _ bS3.lt).trans bS3
  have H4 := hid (H3.out.far hb34)
  have HB4 := hid (HB3.out.trans (hb34.mono HB3.out.size))
  have HK4 : w.heap.size ≤ K4 := by rw [← hs3, World.size_past]; have := HB3.out.size; omega
  rw [eK4, ← ew4]
  clear ew4 hb34 H3 HB3 eK4 hs3 HLS bS3 q1
  obtain ⟨c0, c1, c2, c3⟩ := H4.out.cells
  have q1 := bS4.cell
  have q2 := bL4.cell
  have hw8 : S.wt < 256 := Nat.lt_of_lt_of_le HWT.out (Nat.pow_le_pow_right (n := 2) (by omega) HL8.out)
  have HNX := hid (fun W => Next_any S.p S.u S.s (S.wt : Int) le W ⟨by omega, by omega⟩)
  have HPU := hid (show nextP S.p S.u S.s (S.wt : Int) le = nxP S ∧ nextU S.p S.u S.s (S.wt : Int) = nxU S from ⟨by rw [← ELE.out]; rfl, rfl⟩)
  rw [HPU.out.1, HPU.out.2] at HNX
  obtain ⟨wt', ewt⟩ : ∃ x, (S.wt : Int) = x := ⟨_, rfl⟩
  rw [ewt] at c3 HNX
  have EWT := hid ewt
  clear ewt hw8
  have HBD4 := hid bS4
  have HBL4 := hid bL4
  have HC4 := hid (fun W (hW : Below w4.heap.size w4 W) => (show W.cell? ⟨K3, 0, none⟩ = some (.pointer (some ⟨b, 0, none⟩)) ∧ W.cell? ⟨K4, 0, none⟩ = some (.int .i64 le) ∧ PlAt B W b S by
    have e1 : Boxed W K3 43 (.pointer (some ⟨b, 0, none⟩)) := (hW.block _ bS4.lt).trans bS4
    have e2 : Boxed W K4 3 (.int .i64 le) := (hW.block _ bL4.lt).trans bL4
    exact ⟨e1.cell, e2.cell, H4.out.far hW⟩))
  clear bS4 bL4
  go_cut [5] from 12 to 31 (fun v5 wx => ∃ X, v5 = .pointer (some ⟨X, 0, none⟩) ∧ Hid (Boxed wx X 4 (.bool (goingB S)) ∧ Below w4.heap.size w4 wx))
  case first =>
    rcases beq_cases (nxP S) S.p with e1 | e1 <;> rcases beq_cases (nxU S) S.u with e2 | e2
    all_goals
      have HGO := hid (show goingB S = _ from by unfold goingB; rw [e1, e2])
      go_region_held3 (fun w' => w'.cell? ⟨K3, 0, none⟩ = some (.pointer (some ⟨b, 0, none⟩)) ∧ w'.cell? ⟨K4, 0, none⟩ = some (.int .i64 le) ∧ w'.cell? ⟨b, 0, none⟩ = some (.int .i64 S.p) ∧ w'.cell? ⟨b, 1, none⟩ = some (.int .i64 S.u) ∧ w'.cell? ⟨b, 2, none⟩ = some (.int .i64 S.s) ∧ w'.cell? ⟨b, 3, none⟩ = some (.int .u64 wt')) ((first | (simp [go_sem, *]; done) | (simp [go_sem, *, World.cell?_alloc_some]; done))) (first | (go_at_call 16; refine (HNX.out _).mono ?_; rintro _ _ ⟨rfl, x4, rfl⟩))
    all_goals
      go_wp2_with fail
      go_meet
      case rel =>
        rw [HGO.out]
        first
        | exact ⟨_, rfl, hid ⟨boxed_past_new w4 x4 _ _, (w4.below_past x4).alloc (by simp [World.size_past]) _⟩⟩
        | exact ⟨_, rfl, hid ⟨boxed_new_past w4 x4 _ _, RowKit.Below.past ((Below.refl _ w4).alloc (Nat.le_refl _) _) x4⟩⟩
  case rest =>
    obtain ⟨X, rfl, hX⟩ := hcut
    have hb5 := hX.out.2
    have q4 := HC4.out wc hb5
    have H5 := hid q4.2.2
    have bG := hX.out.1
    have bS5 : Boxed wc K3 43 (.pointer (some ⟨b, 0, none⟩)) := (hb5.block _ HBD4.out.lt).trans HBD4.out
    have bL5 : Boxed wc K4 3 (.int .i64 le) := (hb5.block _ HBL4.out.lt).trans HBL4.out
    have HB5 := hid (HB4.out.trans (hb5.mono HB4.out.size))
    clear hX hb5 q4 c0 c1 c2 c3 q1 q2 HC4 HBD4 HBL4 H4 HB4 HNX HPU
    obtain ⟨K6, eK6⟩ : ∃ K, wc.heap.size = K := ⟨_, rfl⟩
    obtain ⟨w6, ew6⟩ : ∃ W, W = wc.alloc (.cells #[.int .u64 0] 22) := ⟨_, rfl⟩
    have bO6 : Boxed w6 K6 22 (.int .u64 0) := by rw [ew6, ← eK6]; exact Boxed.new wc _ _
    have hb6 : Below wc.heap.size wc w6 := by rw [ew6]; exact (Below.refl _ wc).alloc (Nat.le_refl _) _
    have hs6 : w6.heap.size = K6 + 1 := by rw [ew6, ← eK6]; simp
    have bS6 : Boxed w6 K3 43 (.pointer (some ⟨b, 0, none⟩)) := (hb6.block _ bS5.lt).trans bS5
    have bL6 : Boxed w6 K4 3 (.int .i64 le) := (hb6.block _ bL5.lt).trans bL5
    have bG6 : Boxed w6 X 4 (.bool (goingB S)) := (hb6.block _ bG.lt).trans bG
    have H6 := hid (H5.out.far hb6)
    have HB6 := hid (HB5.out.trans (hb6.mono HB5.out.size))
    have hlt3 := bS5.lt
    have hlt4 := bL5.lt
    have hltX := bG.lt
    have hltb := H5.out.lt
    rw [eK6] at hlt3 hlt4 hltX hltb
    have hK6 : w.heap.size ≤ K6 := by rw [← eK6]; exact HB5.out.size
    have EW6 := hid ew6
    have q1 := bS6.cell
    have c3 := H6.out.wtc
    rw [EWT.out] at c3
    have HB56 := hid hb6
    have HEK := hid eK6
    clear ew6 hb6 bS5 bL5 bG HB5
    go_upto_region 5 with (fail)
    rw [← EW6.out]
    clear eK6
    go_wp2_with fail
    refine (idAll_any wt' w6).mono ?_
    rintro _ w7 ⟨rfl, hb7', hs7, hx7⟩
    have hb7 := HB6.out.trans (hb7'.mono HB6.out.size)
    have bS7 : Boxed w7 K3 43 (.pointer (some ⟨b, 0, none⟩)) := (hb7'.block _ bS6.lt).trans bS6
    have bL7 : Boxed w7 K4 3 (.int .i64 le) := (hb7'.block _ bL6.lt).trans bL6
    have bG7 : Boxed w7 X 4 (.bool (goingB S)) := (hb7'.block _ bG6.lt).trans bG6
    have bO7 : Boxed w7 K6 22 (.int .u64 0) := (hb7'.block _ bO6.lt).trans bO6
    have HB57 := hid (HB56.out.trans (hb7'.mono HB56.out.size))
    have HB7 := hid hb7
    rw [hs6] at hx7 hs7 ⊢
    clear bS6 bL6 bG6 bO6 H6 HB6 hb7' q1 c3 EW6 hb7
    obtain ⟨T, eT⟩ : ∃ T : Nat → Prop, T = fun k => k = K6 := ⟨_, rfl⟩
    have hTK : T K6 := by rw [eT]
    have hTw : ∀ k, T k → k < w7.heap.size := by rw [eT]; rintro k rfl; omega
    have hTb : ∀ k, T k → w.heap.size ≤ k := by rw [eT]; rintro k rfl; omega
    have hTx : ¬ T (K6 + 1) := by rw [eT]; intro h; omega
    have hT3 : ¬ T K3 := by rw [eT]; intro h; omega
    have hT4 : ¬ T K4 := by rw [eT]; intro h; omega
    have hTX : ¬ T X := by rw [eT]; intro h; omega
    have hTZ : ¬ T 0 := fun h => by have := hTb _ h; omega
    have HTP := hid eT
    have HTG := hid (show ∀ k, T k → K6 ≤ k by rw [eT]; rintro k rfl; exact Nat.le_refl _)
    obtain ⟨sn, esn⟩ : ∃ n, S.wt = n := ⟨_, rfl⟩
    have hsn : sn < 18446744073709551616 := by
      have h1 : S.wt < 256 := Nat.lt_of_lt_of_le HWT.out (Nat.pow_le_pow_right (n := 2) (by omega) HL8.out)
      omega
    have hx7' : w7.cell? ⟨K6 + 1, 0, none⟩ = some (.int .u64 (sn : Int)) := by rw [hx7, ← EWT.out, esn]
    have hseq := idAll_seq (5 - 1) (by omega) w7 (K6 + 1) sn hsn T hx7' hTx (HZ.out.below HB7.out) hTZ
    have HSEQ := hid hseq
    have ESN := hid esn
    have HBW := hid (fun W (hk : KS T w7 W) => HB7.out.trans (hk.under hTb HB7.out.size))
    have HPW := hid (fun W (hk : KS T w7 W) => (H5.out.far (HB57.out.trans (hk.under (by rw [HEK.out]; exact HTG.out) (by rw [HEK.out]; omega))) : PlAt B W b S))
    clear hseq eT hx7 hx7' esn
    go_wp2_with fail
    refine (wpIn_wide (n := 5)).1 ?_
    apply wpIn_rangeFunc_E rfl (by omega) (gf := 23) (lb := #[.pointer (some ⟨K6 + 1, 0, none⟩)]) rfl trivial (enters_of Tryd.func23 (by kernel_rfl) rfl) HSEQ.out hTw (KS.refl _ _) (fun _ => rfl)
      (fun pre W => RndS T w7 K6 22 (.int .u64 (pre.foldl (banStep S ((leastV S.v S.wt).getD 0)) 0)) W)
      (fun _ _ _ => False)
      (fun _ _ _ h hb => h.far (by omega) hb)
      (fun _ _ _ _ h _ => h)
      ⟨KS.refl _ _, bO7⟩
      _ ?assign ?body ?done ?stop
    case assign =>
      intro lq x W K hK
      simp only [encN]
      gi_wp2
      exact hK
    case stop =>
      rintro D c pre W hD hSp h hK
      exact h.elim
    case done =>
      rintro D pre W hD hS hJ hK
      have q4 := hJ.acc.cell
      rw [hS] at q4
      have HBX := hid (below_putObj (HBW.out W hJ.keep) (show w.heap.size ≤ D by omega) (.deferred none))
      have HKD := hid hK
      have HF := hid (show banF S = (bitsL sn).foldl (banStep S ((leastV S.v S.wt).getD 0)) 0 by unfold banF; rw [ESN.out])
      rw [← HF.out] at q4
      clear hJ HSEQ hK hS
      go_wp2_with fail
      refine ⟨by simp, .inl ⟨_, _, rfl, run_takeDeferred HKD.out, ?_⟩⟩
      exact ⟨.int .u64 (banF S), by simp [results, Tryd.results7, go_sem], Gives.mk rfl HBX.out⟩
    case body =>
      rintro lq pre x W hsW hJ hlen hsp
      have hxb : x ∈ bitsL S.wt := by rw [ESN.out]; exact hsp.subset (by simp)
      have hxm : x < S.v.length := bits_lt HWT.out (mem_bits.1 hxb).2
      obtain ⟨l, hl, hlm⟩ : ∃ l, leastV S.v S.wt = some l ∧ l < S.v.length := by
        cases hq : leastV S.v S.wt with
        | none => have := leastK_none _ (Nat.le_refl _) hq x hxm; rw [(mem_bits.1 hxb).2] at this; cases this
        | some l => exact ⟨l, rfl, (leastK_spec _ (Nat.le_refl _) l hq).1⟩
      have hle : le = (l : Int) := by rw [← ELE.out, hl]; rfl
      subst hle
      rw [hl] at hJ ⊢
      simp only [Option.getD_some] at hJ ⊢
      have hP := HPW.out W hJ.keep
      obtain ⟨g, c, c4, cv⟩ := hP.vs (by omega)
      obtain ⟨c0, c1, c2, c3⟩ := hP.cells
      have q1 := (hJ.keep.boxed hT3 bS7).cell
      have q2 := (hJ.keep.boxed hT4 bL7).cell
      have q3 := (hJ.keep.boxed hTX bG7).cell
      have q4 := hJ.acc.cell
      have f4 := hJ.acc.frozen
      have lt4 := hJ.acc.lt
      obtain ⟨o, eo⟩ : ∃ o, pre.foldl (banStep S l) 0 = o := ⟨_, rfl⟩
      have HEN := hid (show (pre ++ [x]).foldl (banStep S l) 0 = banStep S l o x by rw [List.foldl_append, eo]; rfl)
      rw [eo] at q4
      have HBB := hid (show Boxed W K6 22 (.int .u64 o) by rw [← eo]; exact hJ.acc)
      have HJ := hid hJ
      have HCV := hid cv
      have HXM := hid hxm
      have HLM := hid hlm
      have cx := cv x hxm
      have cl := cv l hlm
      clear hJ cv eo hxb hl hP HSEQ hsp
      have HF := hid (show ∀ (a : Act) (W2 : World), KS T W W2 → Boxed W2 K6 22 (.int .u64 (banStep S l o x)) → postC T (fun pre W => RndS T w7 K6 22 (.int .u64 (pre.foldl (banStep S l) 0)) W) (fun _ _ _ => False) (pre ++ [x]) W .normal a W2 from fun _ W2 hk hb => ⟨hk, ⟨HJ.out.keep.trans hk, by rw [HEN.out]; exact hb⟩⟩)
      have HBX2 := hid (fun (x : Past) => (show Boxed (W.past x) K6 22 (.int .u64 o) from (W.below_past x).block _ lt4 |>.trans (HBB.out)))
      have HSET := hid (fun (xq : Past) (z : Int) => (show KS T W ((W.setCell ⟨K6, 0, none⟩ (.int .u64 z)).past xq) by rw [← World.setCell_past lt4]; exact (KS.of_below (S := T) (W.below_past xq)).setCell hTK 0 (.int .u64 z)))
      have HSETB := hid (fun (xq : Past) (z : Int) => (show Boxed ((W.setCell ⟨K6, 0, none⟩ (.int .u64 z)).past xq) K6 22 (.int .u64 z) by rw [← World.setCell_past lt4]; exact (HBX2.out xq).set (.int .u64 z)))
      have HWI := hid (fun W => With_any o (x : Int) W)
      obtain ⟨n, en⟩ : ∃ n, S.v.length = n := ⟨_, rfl⟩
      rw [en] at c4 hxm hlm
      have EN := hid en
      obtain ⟨vx, evx⟩ : ∃ z, atD S.v x = z := ⟨_, rfl⟩
      obtain ⟨vl, evl⟩ : ∃ z, atD S.v l = z := ⟨_, rfl⟩
      obtain ⟨tp, etp⟩ : ∃ z, S.p = z := ⟨_, rfl⟩
      rw [evx] at cx
      rw [evl] at cl
      rw [etp] at c0
      have HST := hid (show banStep S l o x = if decide (vl < vx) && !(goingB S && tp == (x : Int)) then withF o x else o by unfold banStep; rw [evx, evl, etp])
      clear en HEN evx evl etp c1 c2 c3
      rcases dec_cases (vl < vx) with hv | hv <;> rcases Bool.eq_false_or_eq_true (goingB S) with hg | hg <;> rcases beq_cases tp (x : Int) with ht | ht
      all_goals
        rw [hg] at q3
        have HS2 := hid (show banStep S l o x = if decide (vl < vx) && !(_ && tp == (x : Int)) then withF o x else o by rw [HST.out, hg])
        rw [hv, ht] at HS2
        simp only [Bool.and_true, Bool.and_false, Bool.true_and, Bool.false_and, Bool.not_true, Bool.not_false, if_true, if_false, Bool.false_eq_true] at HS2
        clear hg
        gi_wp2_with fail
        refine wpIn_region_pastR (by kernel_rfl) (by kernel_rfl) (by kernel_rfl) ?_
        repeat (gi_big_quiet_step ((fail)))
        refine wpQuietIn_nil ?_
        rintro _ ⟨xq, rfl⟩
        gi_wp2_with (first | (gi_at_call 18; refine (callsIn_wide.2 (HWI.out _)).mono ?_; rintro _ _ ⟨rfl, x8, rfl⟩) | fail)
      all_goals first
        | (refine HF.out _ _ (HSET.out _ _) ?_; rw [HS2.out]; exact HSETB.out _ _)
        | (refine HF.out _ _ (KS.of_below (W.below_past _)) ?_; rw [HS2.out]; exact HBX2.out _)
end Go.Proofs.YthlogfclgakhkaaDoor
