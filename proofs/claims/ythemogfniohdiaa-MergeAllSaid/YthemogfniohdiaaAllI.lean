/-
  Layer 32: any lists, brought into one: the iterator's contract. No condition but on how many.
-/
import Derived.Test.YthemogfniohdiaaAllR
import Derived.Test.YthemogfniohdiaaPastIn
import Derived.Test.YthemogfniohdiaaRangeD
import Derived.Test.YthemogfniohdiaaRegTo
namespace Go.Proofs.Ythemogfniohdiaa
open Go.RowKit Go.Shelf
attribute [local go_sem] Oper.semAt_some
theorem LessG (a b : Int) (w : World) : Calls Try.prog 21 #[.int .i64 a, .int .i64 b] w (Gives (.bool (ltI a b)) w) :=
  (less_any a b w).mono fun _ _ h => by rw [h.1, h.2]; exact Gives.refl rfl
theorem yield_two {e : Ending} {p q : Prop} (h : (e = .returned (.bool true) ∧ p) ∨ (e = .returned (.bool false) ∧ q)) : ∃ bb : Bool, e = .returned (.bool bb) ∧ ((bb = true ∧ p) ∨ (bb = false ∧ q)) := by
  rcases h with ⟨h, hp⟩ | ⟨h, hq⟩
  · exact ⟨true, h, .inl ⟨rfl, hp⟩⟩
  · exact ⟨false, h, .inr ⟨rfl, hq⟩⟩
/-- A row of places of the iterator's own. -/
structure Own1 (B : Nat) (wr : World) (g n : Nat) (L : List Int) : Prop where
  own : wr.ownsRow B 3 1 (.slice (some ⟨g, 0, none⟩) n n) n (i64s L)
theorem Own1.len {B : Nat} {wr : World} {g n : Nat} {L : List Int} (h : Own1 B wr g n L) : L.length = n := by have := h.own.1; simpa [i64s] using this
theorem Own1.lt {B : Nat} {wr : World} {g n : Nat} {L : List Int} (h : Own1 B wr g n L) : B ≤ g ∧ g < wr.heap.size := h.own.lt g rfl
theorem Own1.cell {B : Nat} {wr : World} {g n : Nat} {L : List Int} (h : Own1 B wr g n L) {k : Nat} (hk : k < n) : wr.cell? ⟨g, k, none⟩ = some (.int .i64 (atL L k)) := by
  rw [h.own.cellAt k (by omega)]
  have := h.len
  simp [i64s, atL, show k < L.length by omega]
theorem Own1.frozen {B : Nat} {wr : World} {g n : Nat} {L : List Int} (h : Own1 B wr g n L) (k : Nat) : wr.frozen? ⟨g, k, none⟩ = false := h.own.frozenAt k
theorem Own1.set {B : Nat} {wr : World} {g n : Nat} {L : List Int} (h : Own1 B wr g n L) (k : Nat) (x : Int) : Own1 B (wr.setCell ⟨g, k, none⟩ (.int .i64 x)) g n (L.set k x) := by
  refine ⟨?_⟩
  have := (h.own.stored k (.int .i64 x)).1
  have e : i64s (L.set k x) = (i64s L).set k (.int .i64 x) := by simp [i64s, List.map_set]
  rw [e]
  exact this
theorem Own1.keep {T : Nat → Prop} {B : Nat} {wr w' : World} {g n : Nat} {L : List Int} (h : Own1 B wr g n L) (hk : KS T wr w') (hT : ∀ k, B ≤ k → ¬ T k) : Own1 B w' g n L := ⟨own_rest h.own fun k h1 h2 => hk.block k h2 (hT k h1)⟩
theorem Own1.drew {B : Nat} {wr : World} {g n : Nat} {L : List Int} (h : Own1 B wr g n L) : Own1 B wr.drew g n L := ⟨own_rest h.own fun _ _ _ => rfl⟩
theorem Own1.below {B : Nat} {wr w' : World} {g n : Nat} {L : List Int} (h : Own1 B wr g n L) (hk : Below wr.heap.size wr w') : Own1 B w' g n L := ⟨own_rest h.own fun k _ hk2 => hk.block k hk2⟩
def readAt (wr : World) (g i : Nat) : Nat := match wr.cell? ⟨g, i, none⟩ with | some (.int _ z) => z.toNat | _ => 0
theorem sum_at {B : Nat} {wr : World} {g n j : Nat} {len : Nat → Nat} {v : Nat → Nat → Int} (h : Own1 B wr g n (posV (posF len v n j) n)) (hj : ∀ i, i < j → 0 ≤ nextF len v n i) : sumN (readAt wr g) n = j := by
  rw [← pos_sum len v n j hj]
  refine sum_same _ _ n fun i hi => ?_
  unfold readAt
  rw [h.cell hi, posV_at _ hi]
  simp
set_option maxRecDepth 100000 in
set_option maxHeartbeats 40000000 in
theorem all1_in (m : Nat) (hm : 1 ≤ m) (lp : Nat) (w0 : World) (Bx : Nat) (A : Option Addr) (ca n : Nat) (l : List Rw) (en : l.length = n) (T : Nat → Prop) (hT : ∀ k, T k → k < w0.heap.size) (wb : World) (hwb : Below wb.heap.size wb w0) (hTb : ∀ k, T k → wb.heap.size ≤ k) (hBx : w0.cell? ⟨Bx, 0, none⟩ = some (.slice A n ca)) (hBT : ¬ T Bx) (hw : RowsW wb A l) (hn : n ≤ 8) (h30 : ∀ i, i < n → lenF l i ≤ 30)
    (N : Nat) (hN : N ≤ 240) (hb : ∀ i, i < N → 0 ≤ nextF (lenF l) (vF l) n i) (he : nextF (lenF l) (vF l) n N = -1) (J Jx : List (Int × Int) → World → Prop) (W : World) (hW : KS T w0 W)
    (hJ : ∀ s A B, J s A → Below W.heap.size A B → J s B)
    (hY : ∀ pre x W1, W.heap.size ≤ W1.heap.size → J pre W1 → pre.length < N → YieldAt Fence.wide (m - 1) Try.prog lp #[.int .i64 x.1, .int .i64 x.2] W1 fun e W' =>
      (e = .returned (.bool true) ∧ J (pre ++ [x]) W' ∧ KS (TT T w0.heap.size W.heap.size) W1 W') ∨ (e = .returned (.bool false) ∧ Jx (pre ++ [x]) W' ∧ KS (TT T w0.heap.size W.heap.size) W1 W'))
    (h0 : J [] W) :
    CallsIn Fence.wide m Try.prog 22 #[.func (.yield lp) #[] #[], .pointer (some ⟨Bx, 0, none⟩)] W fun e W' => (∃ v, e = .returned v) ∧
      ((∃ ys, ys = itemsF (lenF l) (vF l) n N ∧ J ys W') ∨ (∃ pre, pre <+: itemsF (lenF l) (vF l) n N ∧ Jx pre W')) := by
  obtain ⟨i0, hi, hz0, hz1, hz2⟩ := info_parts info_i64
  have HWW := hid hW
  have EN := hid en
  have HBX := hid (fun W' (h : KS T w0 W') => h.cell hBT hBx)
  have HROWS := hid (fun W' (h : KS T w0 W') => hw.below (hwb.trans (h.under hTb hwb.size)))
  have HT := hid hT
  have HBEST := hid hb
  have HEND := hid he
  have H30 := hid h30
  have HJC := hid hJ
  have cbx := HBX.out W hW
  have hsW := hW.size
  clear en hBx hw hb he h30 hJ hW hT hwb hTb hBT
  refine callsIn_of_wp Try.func22 rfl trivial ?_ rfl
  simp only [Try.ntmps22, List.size_toArray, List.length_cons, List.length_nil, Nat.reduceAdd, Nat.reduceSub, Array.replicate_succ, Array.replicate_zero, List.push_toArray, List.append_toArray, List.nil_append, List.cons_append]
  gi_wp2_with (gi_at_make; refine wpListIn_make_full _ rfl (.tmp 8) (.tmp 8) 22 rfl W.heap.size 3 i0 (.int .i64 0) 1 Try.underlying22 hi hz0 hz1 .i64 .i64 n rfl rfl ?_ ?_ (Nat.le_refl _) ?_; (· rw [hz2]; omega); (· unfold maxLen; omega); intro w2 hrow hg2; have hb2 := hid ((Below.refl W.heap.size W).grown hg2 (Nat.le_refl _) (fun _ h => by cases h)); have hrow := hid hrow; clear hg2)
  obtain ⟨g, hg⟩ : ∃ g, g = W.heap.size := ⟨_, rfl⟩
  have hrow2 : Own1 W.heap.size w2 g n (posV (fun _ => 0) n) := ⟨by
    have := hrow.out
    rw [posV_zero, hg]
    simpa [toList_madeCells_one, Value.cells] using this⟩
  have ROW2 := hid hrow2
  have J2 := HJC.out _ _ _ h0 hb2.out
  have B2 := hid (HWW.out.trans (KS.of_below hb2.out))
  have S2 := hid hb2.out.size
  clear hrow hrow2 hb2 cbx h0
  rw [← hg]
  clear hg
  gi_loopw [4] (fun b wr => ∃ (j : Nat), j ≤ N ∧ J (itemsF (lenF l) (vF l) n j) wr ∧ Hid (KS T w0 wr) ∧ Hid (Own1 W.heap.size wr g n (posV (posF (lenF l) (vF l) n j) n)) ∧ Hid (W.heap.size ≤ wr.heap.size)) (fun _ wr => N - sumN (readAt wr g) n)
  case atStart => exact ⟨0, by omega, J2, B2, ROW2, S2⟩
  case round =>
    clear J2 B2 ROW2 S2
    obtain ⟨wo, ewo⟩ : ∃ wo, wo = wr := ⟨_, rfl⟩
    subst ewo
    obtain ⟨j, hj, hJ, HB, HR, HS⟩ := hrel
    have HSUM := hid (sum_at HR.out (fun i hi => HBEST.out i (by omega)))
    obtain ⟨pos, epos⟩ : ∃ pos, posF (lenF l) (vF l) n j = pos := ⟨_, rfl⟩
    rw [epos] at HR
    have hnx : nextF (lenF l) (vF l) n j = bestF (lenF l) (vF l) pos n := by unfold nextF; rw [epos]
    have hps : posF (lenF l) (vF l) n (j + 1) = bump pos (bestF (lenF l) (vF l) pos n) := by rw [posF, epos]
    have hit : itemF (lenF l) (vF l) n j = (bestF (lenF l) (vF l) pos n, vF l (bestF (lenF l) (vF l) pos n).toNat (pos (bestF (lenF l) (vF l) pos n).toNat)) := by unfold itemF; rw [hnx, epos]
    have HNX := hid hnx
    have HPS := hid hps
    have HIT := hid hit
    have cbx := HBX.out wo HB.out
    clear epos hnx hps hit
    gi_wp2
    clear cbx
    gi_loopw [4, 12] (fun b i wr' => ∃ (k : Nat) (bv : Int), i = .int .i64 k ∧ b = .int .i64 bv ∧ k ≤ n ∧ Hid (Below wo.heap.size wo wr') ∧ Hid (bestF (lenF l) (vF l) pos k = bv)) (fun _ i _ => n - (intOf i).toNat)
    case atStart => exact ⟨0, -1, rfl, rfl, by omega, hid (Below.refl _ _), hid rfl⟩
    case round =>
      obtain ⟨k, bv, rfl, rfl, hk, HK, HBV⟩ := hrel
      have HBW := hid (HB.out.trans (KS.of_below HK.out))
      have HR2 := hid (HR.out.below HK.out)
      have cbx := HBX.out wr HBW.out
      by_cases hlt : k < n
      · obtain ⟨b1, o1, R, c1, eA, hck, hRk⟩ := (HROWS.out wr HBW.out).at (show k < l.length by rw [EN.out]; exact hlt)
        subst eA
        have hpk := HR2.out.cell hlt
        rw [posV_at pos hlt] at hpk
        obtain ⟨p, ep⟩ : ∃ p, pos k = p := ⟨_, rfl⟩
        obtain ⟨L, eL⟩ : ∃ L, lenF l k = L := ⟨_, rfl⟩
        rw [ep] at hpk
        rw [eL] at hck
        have EP := hid ep
        have EL := hid eL
        by_cases hpl : p < L
        · obtain ⟨b2, o2, eR, hv⟩ := RowsW.val hRk (show p < lenF l k by rw [eL]; exact hpl)
          subst eR
          obtain ⟨q, eq⟩ : ∃ q, vF l k p = q := ⟨_, rfl⟩
          rw [eq] at hv
          have EQ := hid eq
          clear hRk eq ep eL
          rcases best_in (lenF l) (vF l) pos k with e | ⟨b, e, hbk, hpb⟩
          · have hbv : bv = -1 := by rw [← HBV.out, e]
            have HB2 := hid (show bestF (lenF l) (vF l) pos (k + 1) = (k : Int) by
              rw [bestF, if_pos ⟨by rw [EP.out, EL.out]; exact hpl, .inl (by rw [e]; omega)⟩])
            subst hbv
            clear e HBV
            gi_wp2
            refine wpIn_region_past rfl (by kernel_rfl) (by kernel_rfl) ?_
            repeat (gi_big_quiet_step (fail))
            refine wpQuietIn_nil ?_
            rintro _ ⟨xq, rfl⟩
            gi_wp2
            go_roundw
            case rel => exact ⟨k + 1, k, by go_num, rfl, by omega, hid (RowKit.Below.past HK.out _), HB2⟩
            case measure => simp [intOf]; omega
          · have hbv : bv = (b : Int) := by rw [← HBV.out, e]
            obtain ⟨b3, o3, R3, c3, eA3, hcb, hRb⟩ := (HROWS.out wr HBW.out).at (show b < l.length by rw [EN.out]; omega)
            injection eA3 with eA3
            injection eA3 with e1 e2
            subst e1; subst e2
            have hpb2 := HR2.out.cell (show b < n by omega)
            rw [posV_at pos (show b < n by omega)] at hpb2
            obtain ⟨p2, ep2⟩ : ∃ p2, pos b = p2 := ⟨_, rfl⟩
            obtain ⟨L2, eL2⟩ : ∃ L2, lenF l b = L2 := ⟨_, rfl⟩
            rw [ep2] at hpb2 hpb
            rw [eL2] at hcb hpb
            obtain ⟨b4, o4, eR, hv2⟩ := RowsW.val hRb (show p2 < lenF l b by rw [eL2]; exact hpb)
            subst eR
            obtain ⟨q2, eq2⟩ : ∃ q2, vF l b p2 = q2 := ⟨_, rfl⟩
            rw [eq2] at hv2
            have hval : vF l (bestF (lenF l) (vF l) pos k).toNat (pos (bestF (lenF l) (vF l) pos k).toNat) = q2 := by rw [e, Int.toNat_natCast, ep2, eq2]
            have hneg : decide ((b : Int) < 0) = false := by rw [decide_eq_false_iff_not]; omega
            have hless := fun w => LessG q q2 w
            rcases Bool.eq_false_or_eq_true (ltI q q2) with hb | hb
            · have HB2 := hid (show bestF (lenF l) (vF l) pos (k + 1) = (k : Int) by
                rw [bestF, if_pos ⟨by rw [EP.out, EL.out]; exact hpl, .inr (by rw [hval, EP.out, EQ.out]; simpa [ltI] using hb)⟩])
              rw [hb] at hless
              have HLS := hid hless
              subst hbv
              clear e HBV hval hRb ep2 eL2 eq2 hless hb
              gi_wp2
              refine wpIn_region_past rfl (by kernel_rfl) (by kernel_rfl) ?_
              repeat (gi_big_quiet_step ((gi_at_call 21; first | with_reducible exact CallsIn.past_wide (HLS.out _) | exact CallsIn.past_wide (HLS.out _))))
              refine wpQuietIn_nil ?_
              rintro _ ⟨xq, rfl⟩
              gi_wp2
              go_roundw
              case rel => exact ⟨k + 1, k, by go_num, rfl, by omega, hid (RowKit.Below.past HK.out _), HB2⟩
              case measure => simp [intOf]; omega
            · have HB2 := hid (show bestF (lenF l) (vF l) pos (k + 1) = (b : Int) by
                rw [bestF, if_neg (by
                  rintro ⟨_, h | h⟩
                  · rw [e] at h; omega
                  · rw [hval, EP.out, EQ.out] at h; simp [ltI] at hb; omega), e])
              rw [hb] at hless
              have HLS := hid hless
              subst hbv
              clear e HBV hval hRb ep2 eL2 eq2 hless hb
              gi_wp2
              refine wpIn_region_past rfl (by kernel_rfl) (by kernel_rfl) ?_
              repeat (gi_big_quiet_step ((gi_at_call 21; first | with_reducible exact CallsIn.past_wide (HLS.out _) | exact CallsIn.past_wide (HLS.out _))))
              refine wpQuietIn_nil ?_
              rintro _ ⟨xq, rfl⟩
              gi_wp2
              go_roundw
              case rel => exact ⟨k + 1, b, by go_num, rfl, by omega, hid (RowKit.Below.past HK.out _), HB2⟩
              case measure => simp [intOf]; omega
        · have HB2 := hid (show bestF (lenF l) (vF l) pos (k + 1) = bv by
            rw [bestF, if_neg (by rintro ⟨h, _⟩; rw [ep, eL] at h; omega)]; exact HBV.out)
          clear hRk ep eL HBV
          gi_wp2
          refine wpIn_region_past rfl (by kernel_rfl) (by kernel_rfl) ?_
          repeat (gi_big_quiet_step (fail))
          refine wpQuietIn_nil ?_
          rintro _ ⟨xq, rfl⟩
          gi_wp2
          go_roundw
          case rel => exact ⟨k + 1, bv, by go_num, rfl, by omega, hid (RowKit.Below.past HK.out _), HB2⟩
          case measure => simp [intOf]; omega
      · obtain rfl : k = n := by omega
        have hJ2 := HJC.out _ _ _ hJ (HK.out.mono HS.out)
        have hsr := HK.out.size
        have hsr2 := HS.out
        rcases best_in (lenF l) (vF l) pos k with e | ⟨b, e, hbk, hpb⟩
        · have hbv : bv = -1 := by rw [← HBV.out, e]
          have hjN : j = N := by
            rcases Nat.lt_or_ge j N with h | h
            · have := HBEST.out j h; rw [HNX.out, e] at this; omega
            · omega
          subst hbv
          subst hjN
          clear e HBV hJ
          gi_wp2
          refine wpIn_region_past rfl (by kernel_rfl) (by kernel_rfl) ?_
          repeat (gi_big_quiet_step (fail))
          refine wpQuietIn_nil ?_
          rintro _ ⟨xq, rfl⟩
          gi_wp2
          refine bodyPost_ret (results_none rfl _ _ _) rfl ?_
          exact ⟨⟨_, rfl⟩, .inl ⟨_, rfl, HJC.out _ _ _ hJ2 ((wr.below_past _).mono (by omega))⟩⟩
        · have hbv : bv = (b : Int) := by rw [← HBV.out, e]
          have hjN : j < N := by
            rcases Nat.lt_or_ge j N with h | h
            · exact h
            · obtain rfl : j = N := by omega
              have := HEND.out; rw [HNX.out, e] at this; omega
          obtain ⟨b1, o1, R, c1, eA, hcb, hRb⟩ := (HROWS.out wr HBW.out).at (show b < l.length by rw [EN.out]; omega)
          subst eA
          have hpb2 := HR2.out.cell hbk
          rw [posV_at pos hbk] at hpb2
          obtain ⟨p2, ep2⟩ : ∃ p2, pos b = p2 := ⟨_, rfl⟩
          obtain ⟨L2, eL2⟩ : ∃ L2, lenF l b = L2 := ⟨_, rfl⟩
          have hL30 := H30.out b hbk
          rw [ep2] at hpb2 hpb
          rw [eL2] at hcb hpb hL30
          obtain ⟨b4, o4, eR, hv2⟩ := RowsW.val hRb (show p2 < lenF l b by rw [eL2]; exact hpb)
          subst eR
          obtain ⟨q2, eq2⟩ : ∃ q2, vF l b p2 = q2 := ⟨_, rfl⟩
          rw [eq2] at hv2
          have HITEM := hid (show itemF (lenF l) (vF l) k j = ((b : Int), q2) by rw [HIT.out, e, Int.toNat_natCast, ep2, eq2])
          have HPOS := hid (show (posV pos k).set b ((p2 : Int) + 1) = posV (posF (lenF l) (vF l) k (j + 1)) k by rw [HPS.out, e, ← posV_bump, ep2])
          have hneg : decide ((b : Int) < 0) = false := by rw [decide_eq_false_iff_not]; omega
          subst hbv
          have EP2 := hid ep2
          have HY := hid hY
          clear e HBV hRb ep2 eL2 eq2 HIT HPS HNX hJ hY
          gi_wp2
          refine wpIn_region_to (C := fun w' => ∃ x : Past, w' = wr.past x) 15 3 rfl (by kernel_rfl) (by kernel_rfl) rfl (by kernel_rfl) (past_of ⟨rfl, rfl, rfl, Nat.le_refl _, fun _ _ => rfl⟩) ?_
          simp only [List.take_succ_cons, List.take_zero]
          repeat (gi_big_quiet_step (fail))
          refine wpQuietIn_nil ?_
          rintro _ ⟨xq, rfl⟩
          have hbx := wr.below_past xq
          have hR3 := HR2.out.below hbx
          have hB3 := HBW.out.trans (KS.of_below hbx)
          obtain ⟨fy, ty, asy, bdy, hyy, hRy⟩ := HY.out (itemsF (lenF l) (vF l) k j) ((b : Int), q2) (wr.past xq) (by have := hbx.size; omega) (HJC.out _ _ _ hJ2 (hbx.mono (by omega))) (by rw [items_length]; exact hjN)
          rw [← HITEM.out, items_snoc] at hRy
          have HRY := hid hRy
          clear hRy hJ2 HY hi hz0 hz1 hz2 i0
          refine wpAnyIn_ready (rs := [15]) (by kernel_rfl) (by simp) ?_
          refine AllReadyIn.cons rfl (fun K hK => ?_) AllReadyIn.nil
          gi_wp2_with ((refine HRY.out.mono ?_; rintro e W3 hE; obtain ⟨bb, eE, hE2⟩ := yield_two hE; clear hE; subst eE))
          refine wpAnyIn_ready (rs := [16]) (by kernel_rfl) (by simp) ?_
          refine AllReadyIn.cons rfl (fun K hK => ?_) AllReadyIn.nil
          go_simp
          refine hK _ _ ?_
          clear hK K
          refine wpAnyIn_ready (rs := [17]) (by kernel_rfl) (by simp) ?_
          refine AllReadyIn.cons rfl (fun K hK => ?_) AllReadyIn.nil
          go_simp
          refine hK _ _ ?_
          clear hK K
          refine wpAnyIn_done (by kernel_rfl) ?_ _
          rcases hE2 with ⟨rfl, hJ3, hk3⟩ | ⟨rfl, hJx3, hk3⟩
          · have hR4 := hR3.keep hk3 (fun q h1 h2 => by rcases h2 with h2 | ⟨_, h2⟩; (have := HT.out q h2; omega); omega)
            have hp4 := hR4.cell hbk
            rw [posV_at pos hbk, EP2.out] at hp4
            have hf4 := hR4.frozen b
            have hs4 := hk3.size
            have HB4 := hid (hB3.on hk3 (by have := hB3.size; have := hbx.size; omega))
            have HR5 := hid (hR4.set b ((p2 : Int) + 1))
            have e1 : IntKind.i64.wrap ((p2 : Int) + 1) = (p2 : Int) + 1 := by rw [IntKind.wrap_i64]; omega
            have hg4 := hR4.lt
            clear hR4
            gi_wp2
            go_roundw
            case rel =>
              refine ⟨j + 1, by omega, HJC.out _ _ _ hJ3 (RowKit.Below.setCell (p := ⟨g, b, none⟩) (Below.refl _ W3) hg4.1 _), hid (HB4.out.far (RowKit.Below.setCell (p := ⟨g, b, none⟩) (Below.refl _ W3) (by simp; omega) _)), hid ?_, hid ?_⟩
              · rw [← HPOS.out]; exact HR5.out
              · have := hbx.size
                simp [World.setCell]
                omega
            case measure =>
              have h5 := HR5.out
              rw [HPOS.out] at h5
              rw [sum_at h5 (fun i hi => HBEST.out i (by omega)), HSUM.out]
              omega
          · gi_wp2
            refine bodyPost_ret (results_none rfl _ _ _) rfl ?_
            exact ⟨⟨_, rfl⟩, .inr ⟨_, items_take _ _ _ _ _ hjN, hJx3⟩⟩
end Go.Proofs.Ythemogfniohdiaa
