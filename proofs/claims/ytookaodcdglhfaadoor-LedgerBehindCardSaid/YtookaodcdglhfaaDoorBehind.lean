/-
  Layer 18: how many ticks others would hold ahead of a party, by the product's ledger. No condition.
-/
import Derived.Test.YtookaodcdglhfaaDoorLeast
import Derived.Test.YtookaodcdglhfaaDoorTick
import Derived.BigRegionIn
namespace Go.Proofs.YtookaodcdglhfaaDoor
open Go.RowKit Go.Shelf
attribute [local go_sem] Oper.semAt_some
set_option maxRecDepth 100000 in
set_option maxHeartbeats 4000000 in
theorem Behind_any {B : Nat} {p : Option Addr} {w : World} {S : Lg} (hl8 : S.l.length ≤ 8) (hv : ∀ k, k < S.l.length → U64 (pt S.l k).v) (h : LgO B w p S) (hZ : Tz w) (q : Int) (s : Nat) (hs : s < 18446744073709551616) :
    Calls Tryd.prog 9 #[.pointer p, .int .i64 q, .int .u64 s] w (Gives (.int .i64 (behF S.l q s)) w) := by
  have HH := hid h
  have HZ := hid hZ
  have HE := hid (beh_bits hl8 q s)
  have HV := hid hv
  have hZlt := hZ.lt
  clear h hZ hv
  refine (callsIn_wide (n := 5)).1 ?_
  refine callsIn_of_wp_marks Tryd.func9 rfl trivial ?_ rfl
  refine wpIn_wide.2 ?_
  simp only [Tryd.ntmps9, List.size_toArray, List.length_cons, List.length_nil, Nat.reduceAdd, Nat.reduceSub, Array.replicate_succ, Array.replicate_zero, List.push_toArray, List.append_toArray, List.nil_append, List.cons_append]
  have bL := Boxed.new w 25 (.pointer p)
  have bP := Boxed.new (w.alloc (.cells #[.pointer p] 25)) 3 (.int .i64 q)
  have bK := Boxed.new ((w.alloc (.cells #[.pointer p] 25)).alloc (.cells #[.int .i64 q] 3)) 27 (.int .u64 0)
  have bL2 := (bL.alloc (.cells #[.int .i64 q] 3)).alloc (.cells #[.int .u64 0] 27)
  have bP2 := bP.alloc (.cells #[.int .u64 0] 27)
  obtain ⟨W3, eW3⟩ : ∃ W3, W3 = ((w.alloc (.cells #[.pointer p] 25)).alloc (.cells #[.int .i64 q] 3)).alloc (.cells #[.int .u64 0] 27) := ⟨_, rfl⟩
  simp only [World.size_alloc] at bK bP2
  have hb3 : Below w.heap.size w W3 := by rw [eW3]; exact (((Below.refl _ w).alloc (Nat.le_refl _) _).alloc (by simp) _).alloc (by simp only [World.size_alloc]; omega) _
  have hs3 : W3.heap.size = w.heap.size + 1 + 1 + 1 := by rw [eW3]; simp
  rw [← eW3] at bL2 bP2 bK
  have EW3 := hid eW3
  clear eW3 bL bP
  go_wp2_with fail
  rw [← EW3.out]
  refine (idAll_any (s : Int) W3).mono ?_
  rintro _ w6 ⟨rfl, hb6', hs6, hx6⟩
  have hb6 := below_trans' hb3 hb6'
  have bL6 : Boxed w6 w.heap.size 25 (.pointer p) := (hb6'.block _ (by omega)).trans bL2
  have bP6 : Boxed w6 (w.heap.size + 1) 3 (.int .i64 q) := (hb6'.block _ (by omega)).trans bP2
  have bK6 : Boxed w6 (w.heap.size + 1 + 1) 27 (.int .u64 0) := (hb6'.block _ (by omega)).trans bK
  rw [hs3] at hx6
  rw [hs3]
  clear bL2 bP2 bK EW3 hb6'
  obtain ⟨T, eT⟩ : ∃ T : Nat → Prop, T = fun k => k = w.heap.size + 1 + 1 := ⟨_, rfl⟩
  have hK6 : w.heap.size + 1 + 1 < w6.heap.size := bK6.lt
  have hTK : T (w.heap.size + 1 + 1) := by rw [eT]
  have hTw : ∀ k, T k → k < w6.heap.size := by rw [eT]; rintro k rfl; exact hK6
  have hTb : ∀ k, T k → w.heap.size ≤ k := by rw [eT]; rintro k rfl; omega
  have hTx : ¬ T (w.heap.size + 1 + 1 + 1) := by rw [eT]; intro h; omega
  have hTP : ¬ T (w.heap.size + 1) := by rw [eT]; intro h; omega
  have hTL : ¬ T w.heap.size := by rw [eT]; intro h; omega
  have hTZ : ¬ T 0 := fun h => by have := hTb _ h; omega
  have hseq := idAll_seq (5 - 1) (by omega) w6 (w.heap.size + 1 + 1 + 1) s hs T hx6 hTx (HZ.out.below hb6) hTZ
  have HSEQ := hid hseq
  have HBW := hid (fun W (hk : KS T w6 W) => hb6.trans (hk.under hTb hb6.size))
  clear hseq eT hx6
  go_wp2_with fail
  refine (wpIn_wide (n := 5)).1 ?_
  apply wpIn_rangeFunc_E rfl (by omega) (gf := 43) (lb := #[.pointer (some ⟨w.heap.size + 1 + 1 + 1, 0, none⟩)]) rfl trivial (enters_of Tryd.func43 (by kernel_rfl) rfl) HSEQ.out hTw (KS.refl _ _) (fun _ => rfl)
    (fun pre W => RndS T w6 (w.heap.size + 1 + 1) 27 (.int .u64 (pre.foldl (stepT S.l q) 0)) W)
    (fun _ _ _ => False)
    (fun _ _ _ h hb => h.far hK6 hb)
    (fun _ _ _ _ h _ => h)
    ⟨KS.refl _ _, bK6⟩
    _ ?assign ?body ?done ?stop
  case assign =>
    intro lq x W K hK
    simp only [encN]
    gi_wp2
    exact hK
  case body =>
    rintro lq pre x W hsW hJ hlen hsp
    have hbw := HBW.out W hJ.keep
    have hlgo := HH.out.far hbw
    have bL7 := hJ.keep.boxed hTL bL6
    have q1 := bL7.cell
    have q4 := hJ.acc.cell
    have f4 := hJ.acc.frozen
    have lt4 := hJ.acc.lt
    have bP7 := hJ.keep.boxed hTP bP6
    have q2 := bP7.cell
    obtain ⟨bo, ebo⟩ : ∃ bo, pre.foldl (stepT S.l q) 0 = bo := ⟨_, rfl⟩
    have hbo : 0 ≤ bo ∧ bo ≤ 26209160203280640 := by
      have := foldl_tick HV.out (p := q) pre 0 (by omega)
      rw [← ebo]
      have h64 : pre.length < 64 := hlen
      omega
    obtain ⟨bo1, bo2⟩ := hbo
    have HEN := hid (show (pre ++ [x]).foldl (stepT S.l q) 0 = stepT S.l q bo x by rw [List.foldl_append, ebo]; rfl)
    rw [ebo] at q4
    have HBB := hid (show Boxed W (w.heap.size + 1 + 1) 27 (.int .u64 bo) by rw [← ebo]; exact hJ.acc)
    have HJ := hid hJ
    have HBX := hid hbw
    have HW := hid hlgo
    have HI := hid (fun W' (hb : Below w.heap.size w W') (z : Int) => (HH.out.far hb).is z)
    clear hJ hbw hlgo ebo HSEQ hsp bL7 bP7
    have HF := hid (show ∀ (a : Act) (W2 : World), KS T W W2 → Boxed W2 (w.heap.size + 1 + 1) 27 (.int .u64 (stepT S.l q bo x)) → postC T (fun pre W => RndS T w6 (w.heap.size + 1 + 1) 27 (.int .u64 (pre.foldl (stepT S.l q) 0)) W) (fun _ _ _ => False) (pre ++ [x]) W .normal a W2 from fun _ W2 hk hb => ⟨hk, ⟨HJ.out.keep.trans hk, by rw [HEN.out]; exact hb⟩⟩)
    have hbx2 : ∀ (x : Past), Boxed (W.past x) (w.heap.size + 1 + 1) 27 (.int .u64 bo) := fun x => (W.below_past x).block _ lt4 |>.trans (HBB.out)
    have HBX2 := hid hbx2
    clear hbx2 HEN
    by_cases hq : isP S.l q = true
    · by_cases hx : x < S.l.length
      · have e : isP S.l (x : Int) = true := by unfold isP; simp; omega
        obtain ⟨hq0, hq1⟩ := isP_iff.1 hq
        obtain ⟨y, ey⟩ := Int.eq_ofNat_of_zero_le hq0
        subst ey
        rcases HW.out with ⟨_, h0⟩ | ⟨b, ep, hL⟩
        · rw [h0] at hx; simp at hx
        subst ep
        have hy : y < S.l.length := by omega
        obtain ⟨g, cap, c0, c1, c2, c3⟩ := hL.party hx
        obtain ⟨d1, d2, d3⟩ := hL.pty c0 hy
        have HFAR := hid (fun xx : Past => hL.far (W.below_past xx))
        have HSV := hid (show stepT S.l (y : Int) bo x = bo + tk S.l y x by unfold stepT; rw [if_pos ⟨hq, hx⟩]; rfl)
        have HTK := hid (show tk S.l y x = if (pt S.l x).v < (pt S.l y).v then tkF ((pt S.l y).v - (pt S.l x).v) (lockF (pt S.l x).w) else 0 from rfl)
        obtain ⟨vx1, vx2⟩ := HV.out x hx
        obtain ⟨vy1, vy2⟩ := HV.out y hy
        obtain ⟨n, en⟩ : ∃ n, S.l.length = n := ⟨_, rfl⟩
        rw [en] at c0 hx hy
        have EN := hid en
        clear en hq0 hq1 d1 d3 c3 hL
        by_cases hlt : (pt S.l x).v < (pt S.l y).v
        · have hvb : decide ((pt S.l y).v ≤ (pt S.l x).v) = false := by simp; omega
          rw [if_pos hlt] at HTK
          have hTK2T := hTK
          gi_wp2_with fail
          refine wpIn_region_pastR (by kernel_rfl) (by kernel_rfl) (by kernel_rfl) ?_
          repeat (gi_big_quiet_step ((first | (gi_at_call 28; with_reducible exact CallsIn.past_wide ((HI.out _ (HBX.out.past _) _))) | (gi_at_call 28; exact CallsIn.past_wide ((HI.out _ (HBX.out.past _) _))))))
          refine wpQuietIn_nil ?_
          rintro _ ⟨xq, rfl⟩
          revert xq; intro xq1
          obtain ⟨E, eE⟩ : ∃ E, lockF (pt S.l x).w = E := ⟨_, rfl⟩
          obtain ⟨G, eG⟩ : ∃ G, (pt S.l y).v - (pt S.l x).v = G := ⟨_, rfl⟩
          have hE : 45045 ≤ E := by rw [← eE]; exact lock_lo _
          have hE2 : E ≤ 720720 := by rw [← eE]; exact (lock_in _).2
          have HLK := hid (fun W => eE ▸ Lock_any (pt S.l x).w W)
          rw [eE, eG] at HTK
          have hG1 : 0 ≤ G := by omega
          have hG2 : G < 18446744073709551616 := by omega
          have hGw : IntKind.u64.wrap ((pt S.l y).v - (pt S.l x).v) = G := by rw [IntKind.wrap_u64]; omega
          obtain ⟨t1, t2, t3, t4, t5, t6⟩ := tkF_in hG1 hG2 hE
          have hTK2 : tkF G E = G / E + (if G % E > 0 then 1 else 0) := rfl
          rw [hTK2] at HTK t5 t6
          obtain ⟨Q, eQ⟩ : ∃ Q, G / E = Q := ⟨_, rfl⟩
          obtain ⟨R, eR⟩ : ∃ R, G % E = R := ⟨_, rfl⟩
          have hq2 : IntKind.u64.wrap (Int.tdiv G E) = Q := by rw [Int.tdiv_eq_ediv_of_nonneg hG1, eQ, IntKind.wrap_u64]; omega
          have hr2 : Int.tmod G E = R := by rw [Int.tmod_eq_emod_of_nonneg hG1, eR]
          rw [eQ] at t1 t2 HTK
          rw [eR] at t3 HTK
          have hs1 : IntKind.u64.wrap (bo + Q) = bo + Q := by rw [IntKind.wrap_u64]; omega
          have hs2 : IntKind.u64.wrap (bo + Q + 1) = bo + Q + 1 := by rw [IntKind.wrap_u64]; omega
          have hE0 : ¬ E = 0 := by omega
          have HHK := hid hTK2T
          clear eE eG hlt hvb t4 t5 t6 hTK2
          gi_wp2_with (gi_at_call 30; refine (callsIn_wide.2 (HLK.out _)).mono ?_; rintro _ _ ⟨rfl, xl, rfl⟩)
          refine wpIn_region_pastR (by kernel_rfl) (by kernel_rfl) (by kernel_rfl) ?_
          repeat (gi_big_quiet_step ((fail)))
          refine wpQuietIn_nil ?_
          rintro _ ⟨xq, rfl⟩
          obtain ⟨w8, ew8⟩ : ∃ w8, w8 = (W.past (xq1.and xl)).past xq := ⟨_, rfl⟩
          have hb8 : Below W.heap.size W w8 := by rw [ew8]; exact (RowKit.Below.past (W.below_past _) xq)
          rw [← ew8]
          have B8 : Boxed w8 (w.heap.size + 1 + 1) 27 (.int .u64 bo) := (hb8.block _ lt4).trans HBB.out
          have HB8 := hid hb8
          have HBX8 := hid B8
          have k1 := B8.cell
          have k2 := B8.frozen
          have k3 := B8.lt
          clear ew8 B8 hb8 q1 q2 q4 c0 c1 c2 d2 f4 lt4 e hq
          by_cases hR : 0 < R
          · rw [if_pos hR] at HTK
            have hR2 : decide (0 < R) = true := by simpa using hR
            gi_wp2_with fail
            gi_region
            all_goals
             gi_wp2_with fail
             refine HF.out _ _ ((((KS.of_below HB8.out).setCell HHK.out 0 _).drew).setCell HHK.out 0 _) ?_
             rw [HSV.out, HTK.out, ← Int.add_assoc]; exact (HBX8.out.set _).set _
          · rw [if_neg hR] at HTK
            have hR2 : decide (0 < R) = false := by simpa using hR
            gi_wp2_with fail
            gi_region
            all_goals
             gi_wp2_with fail
             refine HF.out _ _ (((KS.of_below HB8.out).setCell HHK.out 0 _).drew) ?_
             rw [HSV.out, HTK.out, Int.add_zero]; exact HBX8.out.set _
        · have hvb : decide ((pt S.l y).v ≤ (pt S.l x).v) = true := by simp; omega
          rw [if_neg hlt] at HTK
          clear hlt
          gi_wp2_with fail
          refine wpIn_region_pastR (by kernel_rfl) (by kernel_rfl) (by kernel_rfl) ?_
          repeat (gi_big_quiet_step ((first | (gi_at_call 28; with_reducible exact CallsIn.past_wide ((HI.out _ (HBX.out.past _) _))) | (gi_at_call 28; exact CallsIn.past_wide ((HI.out _ (HBX.out.past _) _))))))
          refine wpQuietIn_nil ?_
          rintro _ ⟨xq, rfl⟩
          gi_wp2
          refine HF.out _ _ (KS.of_below (W.below_past xq)) ?_
          rw [HSV.out, HTK.out, Int.add_zero]; exact HBX2.out xq
      · have e : isP S.l (x : Int) = false := by unfold isP; simp; omega
        have HS := hid (show stepT S.l q bo x = bo by unfold stepT; rw [if_neg (fun h => hx h.2)])
        gi_wp2_with fail
        refine wpIn_region_pastR (by kernel_rfl) (by kernel_rfl) (by kernel_rfl) ?_
        repeat (gi_big_quiet_step ((first | (gi_at_call 28; with_reducible exact CallsIn.past_wide ((HI.out _ (HBX.out.past _) _))) | (gi_at_call 28; exact CallsIn.past_wide ((HI.out _ (HBX.out.past _) _))))))
        refine wpQuietIn_nil ?_
        rintro _ ⟨xq, rfl⟩
        gi_wp2
        refine HF.out _ _ (KS.of_below (W.below_past xq)) ?_
        rw [HS.out]; exact HBX2.out xq
    · have e : isP S.l q = false := by simpa using hq
      have HS := hid (show stepT S.l q bo x = bo by unfold stepT; rw [if_neg (fun h => hq h.1)])
      clear hq
      gi_wp2_with fail
      refine wpIn_region_pastR (by kernel_rfl) (by kernel_rfl) (by kernel_rfl) ?_
      repeat (gi_big_quiet_step ((first | (gi_at_call 28; with_reducible exact CallsIn.past_wide ((HI.out _ (HBX.out.past _) _))) | (gi_at_call 28; exact CallsIn.past_wide ((HI.out _ (HBX.out.past _) _))))))
      refine wpQuietIn_nil ?_
      rintro _ ⟨xq, rfl⟩
      gi_wp2
      refine HF.out _ _ (KS.of_below (W.below_past xq)) ?_
      rw [HS.out]; exact HBX2.out xq
  case stop =>
    rintro D c pre W hD hSp h hK
    exact h.elim
  case done =>
    rintro D pre W hD hS hJ hK
    have q4 := hJ.acc.cell
    rw [hS, HE.out] at q4
    have hbi := behK_in HV.out q (fun i => s.testBit i) S.l.length
    have hwr : IntKind.i64.wrap (behF S.l q s) = behF S.l q s := by
      have : behF S.l q s = behK S.l q (fun i => s.testBit i) S.l.length := rfl
      rw [IntKind.wrap_i64]; omega
    clear hbi
    have HBX := hid (below_putObj (hb6.trans (hJ.keep.under hTb hb6.size)) (show w.heap.size ≤ D by omega) (.deferred none))
    have HKD := hid hK
    clear hJ HSEQ hK
    go_wp2_with fail
    refine ⟨by simp, .inl ⟨_, _, rfl, run_takeDeferred HKD.out, ?_⟩⟩
    exact ⟨.int .i64 (behF S.l q s), by simp [results, Tryd.results9, go_sem], Gives.mk rfl HBX.out⟩
end Go.Proofs.YtookaodcdglhfaaDoor
