/-
  Layer 21: the waiting one of the least V. No condition.
-/
import Derived.Test.YthlogfclgakhkaaDoorBanA
import Derived.Deep.CutRange
namespace Go.Proofs.YthlogfclgakhkaaDoor
open Go.RowKit Go.Shelf
attribute [local go_sem] Oper.semAt_some
structure RndS (T : Nat → Prop) (w6 : World) (K : Nat) (t : TypeId) (v : Value) (W : World) : Prop where
  keep : KS T w6 W
  acc : Boxed W K t v
theorem RndS.far {T : Nat → Prop} {w6 : World} {K : Nat} {t : TypeId} {v : Value} {A B : World} (h : RndS T w6 K t v A) (hK : K < w6.heap.size) (hb : Below w6.heap.size A B) : RndS T w6 K t v B :=
  ⟨h.keep.far hb, (hb.block _ hK).trans h.acc⟩
set_option maxRecDepth 100000 in
set_option maxHeartbeats 4000000 in
theorem least_any {B b : Nat} {w : World} {S : Bn} (hl8 : S.v.length ≤ 8) (hwt : S.wt < 2 ^ S.v.length) (h : PlAt B w b S) (hZ : Tz w) :
    Calls Tryd.prog 15 #[.pointer (some ⟨b, 0, none⟩)] w (Gives (.int .i64 (encB (leastV S.v S.wt))) w) := by
  have hs : S.wt < 18446744073709551616 := Nat.lt_of_lt_of_le hwt (Nat.le_trans (Nat.pow_le_pow_right (by omega) hl8) (by decide))
  have HXM := hid (fun (x : Nat) (hx : x ∈ bitsL S.wt) => (show x < S.v.length by
    have h2 := (mem_bits.1 hx).2
    rcases Nat.lt_or_ge x S.v.length with h3 | h3
    · exact h3
    · have := Nat.testBit_lt_two_pow (Nat.lt_of_lt_of_le hwt (Nat.pow_le_pow_right (by omega) h3))
      rw [this] at h2; cases h2))
  clear hwt
  have HH := hid h
  have HZ := hid hZ
  have HE := hid (least_bits hl8 S.wt)
  have hZlt := hZ.lt
  have hbl := h.lt
  obtain ⟨s, es⟩ : ∃ s, S.wt = s := ⟨_, rfl⟩
  have hcs := h.cells.2.2.2
  rw [es] at hcs HE hs HXM ⊢
  clear h hZ es
  refine (callsIn_wide (n := 5)).1 ?_
  refine callsIn_of_wp_marks Tryd.func15 rfl trivial ?_ rfl
  refine wpIn_wide.2 ?_
  simp only [Tryd.ntmps15, List.size_toArray, List.length_cons, List.length_nil, Nat.reduceAdd, Nat.reduceSub, Array.replicate_succ, Array.replicate_zero, List.push_toArray, List.append_toArray, List.nil_append, List.cons_append]
  have bL := Boxed.new w 43 (.pointer (some ⟨b, 0, none⟩))
  have bK := Boxed.new (w.alloc (.cells #[.pointer (some ⟨b, 0, none⟩)] 43)) 3 (.int .i64 (-1))
  have bL2 := bL.alloc (.cells #[.int .i64 (-1)] 3)
  obtain ⟨W3, eW3⟩ : ∃ W3, W3 = (w.alloc (.cells #[.pointer (some ⟨b, 0, none⟩)] 43)).alloc (.cells #[.int .i64 (-1)] 3) := ⟨_, rfl⟩
  simp only [World.size_alloc] at bK
  have hb3 : Below w.heap.size w W3 := by rw [eW3]; exact ((Below.refl _ w).alloc (Nat.le_refl _) _).alloc (by simp) _
  have hs3 : W3.heap.size = w.heap.size + 1 + 1 := by rw [eW3]; simp
  have hc3 : W3.cell? ⟨b, 3, none⟩ = some (.int .u64 (s : Int)) := (hb3.cell (p := ⟨b, 3, none⟩) hbl).trans hcs
  rw [← eW3] at bL2 bK
  have EW3 := hid eW3
  have q2 := bL2.cell
  clear eW3 bL hcs
  go_upto_region 2 with (fail)
  rw [← EW3.out]
  go_wp2_with fail
  refine (idAll_any (s : Int) W3).mono ?_
  rintro _ w6 ⟨rfl, hb6', hs6, hx6⟩
  have hb6 := below_trans' hb3 hb6'
  have bL6 : Boxed w6 w.heap.size 43 (.pointer (some ⟨b, 0, none⟩)) := (hb6'.block _ (by omega)).trans bL2
  have bK6 : Boxed w6 (w.heap.size + 1) 3 (.int .i64 (-1)) := (hb6'.block _ (by omega)).trans bK
  rw [hs3] at hx6
  rw [hs3]
  clear bL2 bK EW3 hb6' q2 hc3
  obtain ⟨T, eT⟩ : ∃ T : Nat → Prop, T = fun k => k = w.heap.size + 1 := ⟨_, rfl⟩
  have hK6 : w.heap.size + 1 < w6.heap.size := bK6.lt
  have hTK : T (w.heap.size + 1) := by rw [eT]
  have hTw : ∀ k, T k → k < w6.heap.size := by rw [eT]; rintro k rfl; exact hK6
  have hTb : ∀ k, T k → w.heap.size ≤ k := by rw [eT]; rintro k rfl; omega
  have hTx : ¬ T (w.heap.size + 1 + 1) := by rw [eT]; intro h; omega
  have hTL : ¬ T w.heap.size := by rw [eT]; intro h; omega
  have hTZ : ¬ T 0 := fun h => by have := hTb _ h; omega
  have hseq := idAll_seq (5 - 1) (by omega) w6 (w.heap.size + 1 + 1) s hs T hx6 hTx (HZ.out.below hb6) hTZ
  have HSEQ := hid hseq
  have HBW := hid (fun W (hk : KS T w6 W) => hb6.trans (hk.under hTb hb6.size))
  clear hseq eT hx6
  go_wp2_with fail
  refine (wpIn_wide (n := 5)).1 ?_
  apply wpIn_rangeFunc_E rfl (by omega) (gf := 23) (lb := #[.pointer (some ⟨w.heap.size + 1 + 1, 0, none⟩)]) rfl trivial (enters_of Tryd.func23 (by kernel_rfl) rfl) HSEQ.out hTw (KS.refl _ _) (fun _ => rfl)
    (fun pre W => RndS T w6 (w.heap.size + 1) 3 (.int .i64 (encB (pre.foldl (stepV S.v) none))) W)
    (fun _ _ _ => False)
    (fun _ _ _ h hb => h.far hK6 hb)
    (fun _ _ _ _ h _ => h)
    ⟨KS.refl _ _, bK6⟩
    _ ?assign ?body ?done ?stop
  case assign =>
    intro lq x W K hK
    simp only [encN]
    gi_wp2
    exact hK
  case stop =>
    rintro D c pre W hD hSp h hK
    exact h.elim
  case done =>
    rintro D pre W hD hS hJ hK
    have q4 := hJ.acc.cell
    rw [hS, HE.out] at q4
    have HBX := hid (below_putObj (hb6.trans (hJ.keep.under hTb hb6.size)) (show w.heap.size ≤ D by omega) (.deferred none))
    have HKD := hid hK
    clear hJ HSEQ hK
    go_wp2_with fail
    refine ⟨by simp, .inl ⟨_, _, rfl, run_takeDeferred HKD.out, ?_⟩⟩
    exact ⟨.int .i64 (encB (leastV S.v s)), by simp [results, Tryd.results15, go_sem], Gives.mk rfl HBX.out⟩
  case body =>
    rintro lq pre x W hsW hJ hlen hsp
    have hxm : x < S.v.length := HXM.out x (hsp.subset (by simp))
    have hbw := HBW.out W hJ.keep
    obtain ⟨g, c, c4, cv⟩ := (HH.out.far hbw).vs (by omega)
    have bL7 := hJ.keep.boxed hTL bL6
    have q1 := bL7.cell
    have q4 := hJ.acc.cell
    have f4 := hJ.acc.frozen
    have lt4 := hJ.acc.lt
    obtain ⟨bo, ebo⟩ : ∃ bo, pre.foldl (stepV S.v) none = bo := ⟨_, rfl⟩
    have hbo : ∀ j, bo = some j → j < S.v.length := by rw [← ebo]; exact foldl_least_lt pre none (fun j h => by cases h)
    have HEN := hid (show (pre ++ [x]).foldl (stepV S.v) none = stepV S.v bo x by rw [List.foldl_append, ebo]; rfl)
    rw [ebo] at q4
    have HBB := hid (show Boxed W (w.heap.size + 1) 3 (.int .i64 (encB bo)) by rw [← ebo]; exact hJ.acc)
    have HJ := hid hJ
    have HCV := hid cv
    have HBO := hid hbo
    clear hJ hbw ebo HSEQ hsp bL7 hbo
    have HF := hid (show ∀ (a : Act) (W2 : World), KS T W W2 → Boxed W2 (w.heap.size + 1) 3 (.int .i64 (encB (stepV S.v bo x))) → postC T (fun pre W => RndS T w6 (w.heap.size + 1) 3 (.int .i64 (encB (pre.foldl (stepV S.v) none))) W) (fun _ _ _ => False) (pre ++ [x]) W .normal a W2 from fun _ W2 hk hb => ⟨hk, ⟨HJ.out.keep.trans hk, by rw [HEN.out]; exact hb⟩⟩)
    have HBX2 := hid (fun (x : Past) => (show Boxed (W.past x) (w.heap.size + 1) 3 (.int .i64 (encB bo)) from (W.below_past x).block _ lt4 |>.trans (HBB.out)))
    have HSET := hid (fun (xq : Past) => (show KS T W ((W.setCell ⟨w.heap.size + 1, 0, none⟩ (.int .i64 (x : Int))).past xq) by rw [← World.setCell_past lt4]; exact (KS.of_below (S := T) (W.below_past xq)).setCell hTK 0 (.int .i64 (x : Int))))
    have HSETB := hid (fun (xq : Past) => (show Boxed ((W.setCell ⟨w.heap.size + 1, 0, none⟩ (.int .i64 (x : Int))).past xq) (w.heap.size + 1) 3 (.int .i64 (x : Int)) by rw [← World.setCell_past lt4]; exact (HBX2.out xq).set (.int .i64 (x : Int))))
    have cx := HCV.out x hxm
    have HXM2 := hid hxm
    obtain ⟨n, en⟩ : ∃ n, S.v.length = n := ⟨_, rfl⟩
    rw [en] at c4 hxm
    have EN := hid en
    clear HEN cv en
    cases bo with
    | none =>
      have HS := hid (show stepV S.v none x = some x by unfold stepV; rw [if_pos ⟨HXM2.out, fun j h => by cases h⟩])
      simp only [encB] at q4
      gi_wp2_with fail
      refine wpIn_region_pastR (by kernel_rfl) (by kernel_rfl) (by kernel_rfl) ?_
      repeat (gi_big_quiet_step ((fail)))
      refine wpQuietIn_nil ?_
      rintro _ ⟨xq, rfl⟩
      gi_wp2
      refine HF.out _ _ (HSET.out xq) ?_
      rw [HS.out]; exact HSETB.out xq
    | some j =>
      have hj := HBO.out j rfl
      have cj := HCV.out j hj
      rw [EN.out] at hj
      have hj0 : decide ((j : Int) < 0) = false := by simp
      simp only [encB] at q4
      by_cases hv : atD S.v x < atD S.v j
      · have HS := hid (show stepV S.v (some j) x = some x by unfold stepV; rw [if_pos ⟨HXM2.out, fun i h => by cases h; exact hv⟩])
        have hvb : decide (atD S.v x < atD S.v j) = true := by simpa using hv
        clear hv
        gi_wp2_with fail
        refine wpIn_region_pastR (by kernel_rfl) (by kernel_rfl) (by kernel_rfl) ?_
        repeat (gi_big_quiet_step ((fail)))
        refine wpQuietIn_nil ?_
        rintro _ ⟨xq, rfl⟩
        gi_wp2
        refine HF.out _ _ (HSET.out xq) ?_
        rw [HS.out]; exact HSETB.out xq
      · have HS := hid (show stepV S.v (some j) x = some j by unfold stepV; rw [if_neg (fun h => hv (h.2 j rfl))])
        have hvb : decide (atD S.v x < atD S.v j) = false := by simpa using hv
        clear hv
        gi_wp2_with fail
        refine wpIn_region_pastR (by kernel_rfl) (by kernel_rfl) (by kernel_rfl) ?_
        repeat (gi_big_quiet_step ((fail)))
        refine wpQuietIn_nil ?_
        rintro _ ⟨xq, rfl⟩
        gi_wp2
        refine HF.out _ _ (KS.of_below (W.below_past xq)) ?_
        rw [HS.out]; exact HBX2.out xq
end Go.Proofs.YthlogfclgakhkaaDoor
