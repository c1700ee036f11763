/-
  Layer 18: the least of a set, of the product's ledger. No condition.
-/
import Derived.Test.YtookaodcdglhfaaDoorLedA
import Derived.Test.YtookaodcdglhfaaDoorPastRd
namespace Go.Proofs.YtookaodcdglhfaaDoor
open Go.RowKit Go.Shelf
attribute [local go_sem] Oper.semAt_some
/-- A ledger, or none. -/
def LgO (B : Nat) (w : World) (p : Option Addr) (S : Lg) : Prop := (p = none ∧ S.l = []) ∨ ∃ b, p = some ⟨b, 0, none⟩ ∧ LgAt B w b S
theorem LgO.far {B : Nat} {w w' : World} {p : Option Addr} {S : Lg} (h : LgO B w p S) (hb : Below w.heap.size w w') : LgO B w' p S := by
  rcases h with h | ⟨b, e, h⟩
  · exact .inl h
  · exact .inr ⟨b, e, h.far hb⟩
theorem LgO.is {B : Nat} {w : World} {p : Option Addr} {S : Lg} (h : LgO B w p S) (x : Int) : Calls Tryd.prog 28 #[.pointer p, .int .i64 x] w (Gives (.bool (isP S.l x)) w) := by
  rcases h with ⟨rfl, h⟩ | ⟨b, rfl, h⟩
  · have e : isP S.l x = false := by rw [h]; unfold isP; simp
    rw [e]; exact is_nil x w
  · exact is_any h x
/-- The loop over a set: what holds between two rounds, one box of the call's own. -/
structure RndS (T : Nat → Prop) (w6 : World) (K : Nat) (t : TypeId) (v : Value) (W : World) : Prop where
  keep : KS T w6 W
  acc : Boxed W K t v
theorem RndS.far {T : Nat → Prop} {w6 : World} {K : Nat} {t : TypeId} {v : Value} {A B : World} (h : RndS T w6 K t v A) (hK : K < w6.heap.size) (hb : Below w6.heap.size A B) : RndS T w6 K t v B :=
  ⟨h.keep.far hb, (hb.block _ hK).trans h.acc⟩
set_option maxRecDepth 100000 in
set_option maxHeartbeats 4000000 in
theorem Least_any {B : Nat} {p : Option Addr} {w : World} {S : Lg} (hl8 : S.l.length ≤ 8) (h : LgO B w p S) (hZ : Tz w) (s : Nat) (hs : s < 18446744073709551616) :
    Calls Tryd.prog 10 #[.pointer p, .int .u64 s] w (Gives (.int .i64 (encB (leastF S.l s))) w) := by
  have HH := hid h
  have HZ := hid hZ
  have HE := hid (least_bits hl8 s)
  have hZlt := hZ.lt
  clear h hZ
  refine (callsIn_wide (n := 5)).1 ?_
  refine callsIn_of_wp_marks Tryd.func10 rfl trivial ?_ rfl
  refine wpIn_wide.2 ?_
  simp only [Tryd.ntmps10, List.size_toArray, List.length_cons, List.length_nil, Nat.reduceAdd, Nat.reduceSub, Array.replicate_succ, Array.replicate_zero, List.push_toArray, List.append_toArray, List.nil_append, List.cons_append]
  have bL := Boxed.new w 25 (.pointer p)
  have bK := Boxed.new (w.alloc (.cells #[.pointer p] 25)) 3 (.int .i64 (-1))
  have bL2 := bL.alloc (.cells #[.int .i64 (-1)] 3)
  obtain ⟨W3, eW3⟩ : ∃ W3, W3 = (w.alloc (.cells #[.pointer p] 25)).alloc (.cells #[.int .i64 (-1)] 3) := ⟨_, rfl⟩
  simp only [World.size_alloc] at bK
  have hb3 : Below w.heap.size w W3 := by rw [eW3]; exact ((Below.refl _ w).alloc (Nat.le_refl _) _).alloc (by simp) _
  have hs3 : W3.heap.size = w.heap.size + 1 + 1 := by rw [eW3]; simp
  rw [← eW3] at bL2 bK
  have EW3 := hid eW3
  clear eW3 bL
  go_wp2_with fail
  rw [← EW3.out]
  refine (idAll_any (s : Int) W3).mono ?_
  rintro _ w6 ⟨rfl, hb6', hs6, hx6⟩
  have hb6 := below_trans' hb3 hb6'
  have bL6 : Boxed w6 w.heap.size 25 (.pointer p) := (hb6'.block _ (by omega)).trans bL2
  have bK6 : Boxed w6 (w.heap.size + 1) 3 (.int .i64 (-1)) := (hb6'.block _ (by omega)).trans bK
  rw [hs3] at hx6
  rw [hs3]
  clear bL2 bK EW3 hb6'
  obtain ⟨T, eT⟩ : ∃ T : Nat → Prop, T = fun k => k = w.heap.size + 1 := ⟨_, rfl⟩
  have hK6 : w.heap.size + 1 < w6.heap.size := bK6.lt
  have hTK : T (w.heap.size + 1) := by rw [eT]
  have hTw : ∀ k, T k → k < w6.heap.size := by rw [eT]; rintro k rfl; exact hK6
  have hTb : ∀ k, T k → w.heap.size ≤ k := by rw [eT]; rintro k rfl; omega
  have hTx : ¬ T (w.heap.size + 1 + 1) := by rw [eT]; intro h; omega
  have hTL : ¬ T w.heap.size := by rw [eT]; intro h; omega
  have hTZ : ¬ T 0 := fun h => by have := hTb _ h; omega
  have hseq := idAll_seq (5 - 1) (by omega) w6 (w.heap.size + 1 + 1) s hs T hx6 hTx (HZ.out.below hb6) hTZ
  have HSEQ := hid hseq
  have HBW := hid (fun W (hk : KS T w6 W) => hb6.trans (hk.under hTb hb6.size))
  clear hseq eT hx6
  go_wp2_with fail
  refine (wpIn_wide (n := 5)).1 ?_
  apply wpIn_rangeFunc_E rfl (by omega) (gf := 43) (lb := #[.pointer (some ⟨w.heap.size + 1 + 1, 0, none⟩)]) rfl trivial (enters_of Tryd.func43 (by kernel_rfl) rfl) HSEQ.out hTw (KS.refl _ _) (fun _ => rfl)
    (fun pre W => RndS T w6 (w.heap.size + 1) 3 (.int .i64 (encB (pre.foldl (stepL S.l) none))) W)
    (fun _ _ _ => False)
    (fun _ _ _ h hb => h.far hK6 hb)
    (fun _ _ _ _ h _ => h)
    ⟨KS.refl _ _, bK6⟩
    _ ?assign ?body ?done ?stop
  case assign =>
    intro lq x W K hK
    simp only [encN]
    gi_wp2
    exact hK
  case body =>
    rintro lq pre x W hsW hJ hlen hsp
    have hbw := HBW.out W hJ.keep
    have hlgo := HH.out.far hbw
    have bL7 := hJ.keep.boxed hTL bL6
    have q1 := bL7.cell
    have q4 := hJ.acc.cell
    have f4 := hJ.acc.frozen
    have lt4 := hJ.acc.lt
    obtain ⟨bo, ebo⟩ : ∃ bo, pre.foldl (stepL S.l) none = bo := ⟨_, rfl⟩
    have hbo : ∀ j, bo = some j → j < S.l.length := by rw [← ebo]; exact foldl_least_lt pre none (fun j h => by cases h)
    have HEN := hid (show (pre ++ [x]).foldl (stepL S.l) none = stepL S.l bo x by rw [List.foldl_append, ebo]; rfl)
    rw [ebo] at q4
    have HBB := hid (show Boxed W (w.heap.size + 1) 3 (.int .i64 (encB bo)) by rw [← ebo]; exact hJ.acc)
    have HJ := hid hJ
    have HBX := hid hbw
    have HW := hid hlgo
    have HI := hid (fun W' (hb : Below w.heap.size w W') => (HH.out.far hb).is (x : Int))
    clear hJ hbw hlgo ebo HSEQ hsp bL7
    have HF := hid (show ∀ (a : Act) (W2 : World), KS T W W2 → Boxed W2 (w.heap.size + 1) 3 (.int .i64 (encB (stepL S.l bo x))) → postC T (fun pre W => RndS T w6 (w.heap.size + 1) 3 (.int .i64 (encB (pre.foldl (stepL S.l) none))) W) (fun _ _ _ => False) (pre ++ [x]) W .normal a W2 from fun _ W2 hk hb => ⟨hk, ⟨HJ.out.keep.trans hk, by rw [HEN.out]; exact hb⟩⟩)
    have hbx2 : ∀ (x : Past), Boxed (W.past x) (w.heap.size + 1) 3 (.int .i64 (encB bo)) := fun x => (W.below_past x).block _ lt4 |>.trans (HBB.out)
    have HBX2 := hid hbx2
    have HSET := hid (fun (xq : Past) => (show KS T W ((W.setCell ⟨w.heap.size + 1, 0, none⟩ (.int .i64 (x : Int))).past xq) by rw [← World.setCell_past lt4]; exact (KS.of_below (S := T) (W.below_past xq)).setCell hTK 0 (.int .i64 (x : Int))))
    have HSETB := hid (fun (xq : Past) => (show Boxed ((W.setCell ⟨w.heap.size + 1, 0, none⟩ (.int .i64 (x : Int))).past xq) (w.heap.size + 1) 3 (.int .i64 (x : Int)) by rw [← World.setCell_past lt4]; exact (HBX2.out xq).set (.int .i64 (x : Int))))
    clear hbx2 HEN
    by_cases hx : x < S.l.length
    · have e : isP S.l (x : Int) = true := by unfold isP; simp; omega
      rw [e] at HI
      rcases HW.out with ⟨_, h0⟩ | ⟨b, ep, hL⟩
      · rw [h0] at hx; simp at hx
      subst ep
      obtain ⟨g, cap, c0, c1, c2, c3⟩ := hL.party hx
      have HPJ := hid (fun j (hj : j < S.l.length) => hL.pty c0 hj)
      have hbo2 : ∀ j, bo = some j → j < S.l.length := hbo
      obtain ⟨n, en⟩ : ∃ n, S.l.length = n := ⟨_, rfl⟩
      rw [en] at c0 hx HPJ hbo2
      have EN := hid en
      have HBO := hid hbo2
      clear hL e en hbo hbo2
      cases bo with
      | none =>
        have HS := hid (show stepL S.l none x = some x by unfold stepL; rw [if_pos ⟨by rw [EN.out]; exact hx, fun j h => by cases h⟩])
        simp only [encB] at q4
        gi_wp2_with fail
        refine wpIn_region_pastR (by kernel_rfl) (by kernel_rfl) (by kernel_rfl) ?_
        repeat (gi_big_quiet_step ((first | (gi_at_call 28; with_reducible exact CallsIn.past_wide (HI.out _ (HBX.out.past _))) | (gi_at_call 28; exact CallsIn.past_wide (HI.out _ (HBX.out.past _))))))
        refine wpQuietIn_nil ?_
        rintro _ ⟨xq, rfl⟩
        gi_wp2
        refine HF.out _ _ (HSET.out xq) ?_
        rw [HS.out]; exact HSETB.out xq
      | some j =>
        have hj := HBO.out j rfl
        obtain ⟨d1, d2, d3⟩ := HPJ.out j hj
        have hj0 : decide ((j : Int) < 0) = false := by simp
        simp only [encB] at q4
        by_cases hv : (pt S.l x).v < (pt S.l j).v
        · have HS := hid (show stepL S.l (some j) x = some x by unfold stepL; rw [if_pos ⟨by rw [EN.out]; exact hx, fun i h => by cases h; exact hv⟩])
          have hvb : decide ((pt S.l x).v < (pt S.l j).v) = true := by simpa using hv
          clear hv
          gi_wp2_with fail
          refine wpIn_region_pastR (by kernel_rfl) (by kernel_rfl) (by kernel_rfl) ?_
          repeat (gi_big_quiet_step ((first | (gi_at_call 28; with_reducible exact CallsIn.past_wide (HI.out _ (HBX.out.past _))) | (gi_at_call 28; exact CallsIn.past_wide (HI.out _ (HBX.out.past _))))))
          refine wpQuietIn_nil ?_
          rintro _ ⟨xq, rfl⟩
          gi_wp2
          refine HF.out _ _ (HSET.out xq) ?_
          rw [HS.out]; exact HSETB.out xq
        · have HS := hid (show stepL S.l (some j) x = some j by unfold stepL; rw [if_neg (fun h => hv (h.2 j rfl))])
          have hvb : decide ((pt S.l x).v < (pt S.l j).v) = false := by simpa using hv
          clear hv
          gi_wp2_with fail
          refine wpIn_region_pastR (by kernel_rfl) (by kernel_rfl) (by kernel_rfl) ?_
          repeat (gi_big_quiet_step ((first | (gi_at_call 28; with_reducible exact CallsIn.past_wide (HI.out _ (HBX.out.past _))) | (gi_at_call 28; exact CallsIn.past_wide (HI.out _ (HBX.out.past _))))))
          refine wpQuietIn_nil ?_
          rintro _ ⟨xq, rfl⟩
          gi_wp2
          refine HF.out _ _ (KS.of_below (W.below_past xq)) ?_
          rw [HS.out]; exact HBX2.out xq
    · have e : isP S.l (x : Int) = false := by unfold isP; simp; omega
      have HS := hid (show stepL S.l bo x = bo by unfold stepL; rw [if_neg (by omega)])
      rw [e] at HI
      clear e
      gi_wp2_with fail
      refine wpIn_region_pastR (by kernel_rfl) (by kernel_rfl) (by kernel_rfl) ?_
      repeat (gi_big_quiet_step ((first | (gi_at_call 28; with_reducible exact CallsIn.past_wide (HI.out _ (HBX.out.past _))) | (gi_at_call 28; exact CallsIn.past_wide (HI.out _ (HBX.out.past _))))))
      refine wpQuietIn_nil ?_
      rintro _ ⟨xq, rfl⟩
      gi_wp2
      refine HF.out _ _ (KS.of_below (W.below_past xq)) ?_
      rw [HS.out]; exact HBX2.out xq
  case stop =>
    rintro D c pre W hD hSp h hK
    exact h.elim
  case done =>
    rintro D pre W hD hS hJ hK
    have q4 := hJ.acc.cell
    rw [hS, HE.out] at q4
    have HBX := hid (below_putObj (hb6.trans (hJ.keep.under hTb hb6.size)) (show w.heap.size ≤ D by omega) (.deferred none))
    have HKD := hid hK
    clear hJ HSEQ hK
    go_wp2_with fail
    refine ⟨by simp, .inl ⟨_, _, rfl, run_takeDeferred HKD.out, ?_⟩⟩
    exact ⟨.int .i64 (encB (leastF S.l s)), by simp [results, Tryd.results10, go_sem], Gives.mk rfl HBX.out⟩
end Go.Proofs.YtookaodcdglhfaaDoor
