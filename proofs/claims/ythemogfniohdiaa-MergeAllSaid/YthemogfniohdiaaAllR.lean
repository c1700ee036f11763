/-
  Layer 32: the document's All. No condition but on how many.
-/
import Derived.Test.YthemogfniohdiaaAllP
import Derived.Test.YthemogfniohdiaaRowW
import Derived.Test.YthemogfniohdiaaTab
import Derived.Deep.CutRange
import Derived.Deep.RegionHeld3
namespace Go.Proofs.Ythemogfniohdiaa
open Go.RowKit
abbrev Rw := Option Addr × Nat × List Int
def rowV (r : Rw) : List Value := [.slice r.1 r.2.2.length r.2.1]
theorem rowV_length (r : Rw) : (rowV r).length = 1 := rfl
def rAt (l : List Rw) (i : Nat) : Rw := l[i]?.getD (none, 0, [])
def lenF (l : List Rw) (i : Nat) : Nat := (rAt l i).2.2.length
def vF (l : List Rw) (i p : Nat) : Int := atL (rAt l i).2.2 p
structure RowsW (w : World) (A : Option Addr) (l : List Rw) : Prop where
  cells : Cells w A (tab rowV l)
  each : ∀ i, i < l.length → Cells w (rAt l i).1 (i64s (rAt l i).2.2)
theorem RowsW.below {w w' : World} {A : Option Addr} {l : List Rw} (h : RowsW w A l) (hb : Below w.heap.size w w') : RowsW w' A l := ⟨h.cells.below hb, fun i hi => (h.each i hi).below hb⟩
theorem RowsW.at {w : World} {A : Option Addr} {l : List Rw} (h : RowsW w A l) {i : Nat} (hi : i < l.length) :
    ∃ (b o : Nat) (R : Option Addr) (c : Nat), A = some ⟨b, o, none⟩ ∧ w.cell? ⟨b, o + i, none⟩ = some (.slice R (lenF l i) c) ∧ Cells w R (i64s (rAt l i).2.2) := by
  obtain ⟨b, o, e, hc⟩ := h.cells.tab_at rowV_length (k := i) (x := rAt l i) (by simp [rAt, hi]) (by omega)
  refine ⟨b, o, (rAt l i).1, (rAt l i).2.1, e, ?_, h.each i hi⟩
  have := hc 0 (.slice (rAt l i).1 (lenF l i) (rAt l i).2.1) rfl
  simpa using this
theorem RowsW.val {w : World} {R : Option Addr} {l : List Rw} {i : Nat} (h : Cells w R (i64s (rAt l i).2.2)) {p : Nat} (hp : p < lenF l i) :
    ∃ b o : Nat, R = some ⟨b, o, none⟩ ∧ w.cell? ⟨b, o + p, none⟩ = some (.int .i64 (vF l i p)) := i64_at h hp
def lenV : Value → Nat | .slice _ n _ => n | _ => 0
theorem info_item : (Try.prog.info? 39).map (fun i => (i.zero, i.size, i.bytes)) = some (some (.agg #[.int .i64 0, .int .i64 0]), 2, 16) := by kernel_rfl
set_option maxHeartbeats 4000000 in
theorem RAll_any (A : Option Addr) (ca n : Nat) (l : List Rw) (en : l.length = n) (hn : n ≤ 8) (h30 : ∀ i, i < n → lenF l i ≤ 30) (w : World) (hw : RowsW w A l)
    (N : Nat) (hN : N ≤ 240) (hb : ∀ i, i < N → 0 ≤ nextF (lenF l) (vF l) n i) (he : nextF (lenF l) (vF l) n N = -1) :
    Calls Try.prog 13 #[.slice A n ca] w (GivesOwn 39 2 N (tab pairI (itemsF (lenF l) (vF l) n N)) w) := by
  obtain ⟨i0, hi, hz0, hz1, hz2⟩ := info_parts info_i64
  obtain ⟨j0, ji, jz0, jz1, jz2⟩ := info_parts info_item
  have HJ := hid (show Try.prog.info? 39 = some j0 ∧ j0.zero = some (.agg #[.int .i64 0, .int .i64 0]) ∧ j0.size = 2 ∧ j0.bytes = 16 from ⟨ji, jz0, jz1, jz2⟩)
  have EN := hid en
  have HW := hid hw
  have HBEST := hid hb
  have HEND := hid he
  have H30 := hid h30
  clear en hw hb he ji jz0 jz1 jz2 h30
  go_enter Try.func13, Try.ntmps13
  go_wp2_with (at_make; refine wpList_make_full _ rfl (.tmp 8) (.tmp 8) 22 rfl w.heap.size 3 i0 (.int .i64 0) 1 Try.underlying22 hi hz0 hz1 .i64 .i64 _ _ n rfl rfl rfl rfl ?_ ?_ (Nat.le_refl _) ?_; (· rw [hz2]; omega); (· unfold maxLen; omega); intro w2 hrow hg2; have hb2 := hid ((Below.refl w.heap.size w).grown hg2 (Nat.le_refl _) (fun _ h => by cases h)); have hrow := hid hrow; clear hg2)
  obtain ⟨g, hg⟩ : ∃ g, g = w.heap.size := ⟨_, rfl⟩
  have hrow2 : RowW w w2 g n n (posV (fun _ => 0) n) := ⟨hb2.out, by
    have := hrow.out
    rw [posV_zero, hg]
    simpa [toList_madeCells_one, Value.cells] using this⟩
  clear hrow
  rw [← hg]
  obtain ⟨s, es⟩ : ∃ s, w2.heap.size = s := ⟨_, rfl⟩
  have hgs : g < s := by rw [← es]; exact hrow2.lt.2
  have ROW2 := hid hrow2
  have ES := hid es
  clear hrow2 es hb2 hg
  go_loopw [3] (fun v wr => ∃ (j : Nat) (wb : World) (x : Past), j ≤ N ∧ wr = wb.past x ∧ Hid (wb.heap.size = s) ∧ Hid (RowW w wb g n n (posV (posF (lenF l) (vF l) n j) n)) ∧ Hid ((wb.past x).ownsRow s 39 2 v j (tab pairI (itemsF (lenF l) (vF l) n j)))) (fun v _ => N - lenV v)
  case atStart => exact ⟨0, w2, _, by omega, World.past_refl w2, ES, ROW2, hid (World.ownsRow_nil _ _ _ _)⟩
  case round =>
    obtain ⟨j, wb, x, hj, rfl, HS, HR, HO⟩ := hrel
    clear ROW2 ES
    have HLU := hid (show lenV u3 = j by obtain ⟨U, cU, hU⟩ := own_shape HO.out; rw [hU]; rfl)
    obtain ⟨pos, epos⟩ : ∃ pos, posF (lenF l) (vF l) n j = pos := ⟨_, rfl⟩
    rw [epos] at HR
    have hnx : nextF (lenF l) (vF l) n j = bestF (lenF l) (vF l) pos n := by unfold nextF; rw [epos]
    have hps : posF (lenF l) (vF l) n (j + 1) = bump pos (bestF (lenF l) (vF l) pos n) := by rw [posF, epos]
    have hit : itemF (lenF l) (vF l) n j = (bestF (lenF l) (vF l) pos n, vF l (bestF (lenF l) (vF l) pos n).toNat (pos (bestF (lenF l) (vF l) pos n).toNat)) := by unfold itemF; rw [hnx, epos]
    have HNX := hid hnx
    have HPS := hid hps
    have HIT := hid hit
    have HWb := hid (HW.out.below HR.out.below)
    have hgw : g < wb.heap.size := by rw [HS.out]; exact hgs
    have hws : w.heap.size ≤ s := by have := HR.out.lt.1; omega
    clear epos hnx hps hit
    go_wp2_with fail
    go_loopw [5, 6] (fun b i wr => ∃ (k : Nat) (bv : Int) (y : Past), i = .int .i64 k ∧ b = .int .i64 bv ∧ k ≤ n ∧ wr = wb.past y ∧ Hid (bestF (lenF l) (vF l) pos k = bv) ∧ Hid ((wb.past y).ownsRow s 39 2 u3 j (tab pairI (itemsF (lenF l) (vF l) n j)))) (fun _ i _ => n - (intOf i).toNat)
    case atStart => exact ⟨0, -1, _, rfl, rfl, by omega, rfl, hid rfl, HO⟩
    case round =>
      clear HO
      obtain ⟨k, bv, y, rfl, rfl, hk, rfl, HBV, HO⟩ := hrel
      by_cases hlt : k < n
      · obtain ⟨b1, o1, R, c1, eA, hck, hRk⟩ := HWb.out.at (show k < l.length by rw [EN.out]; exact hlt)
        subst eA
        have hpk := HR.out.cell hlt
        rw [posV_at pos hlt] at hpk
        obtain ⟨p, ep⟩ : ∃ p, pos k = p := ⟨_, rfl⟩
        obtain ⟨L, eL⟩ : ∃ L, lenF l k = L := ⟨_, rfl⟩
        rw [ep] at hpk
        rw [eL] at hck
        have EP := hid ep
        have EL := hid eL
        by_cases hpl : p < L
        · obtain ⟨b2, o2, eR, hv⟩ := RowsW.val hRk (show p < lenF l k by rw [eL]; exact hpl)
          subst eR
          obtain ⟨q, eq⟩ : ∃ q, vF l k p = q := ⟨_, rfl⟩
          rw [eq] at hv
          have EQ := hid eq
          clear hRk eq ep eL
          rcases best_in (lenF l) (vF l) pos k with e | ⟨b, e, hbk, hpb⟩
          · have hbv : bv = -1 := by rw [← HBV.out, e]
            have HB2 := hid (show bestF (lenF l) (vF l) pos (k + 1) = (k : Int) by
              rw [bestF, if_pos ⟨by rw [EP.out, EL.out]; exact hpl, .inl (by rw [e]; omega)⟩])
            subst hbv
            clear e HBV
            go_wp2_with fail
            refine wp_region_past (by kernel_rfl) (by kernel_rfl) ?_
            repeat (go_big_quiet_step ((fail)))
            refine wpQuiet_nil ?_
            rintro _ ⟨_, rfl⟩
            go_wp2_with fail
            go_roundw
            case rel => exact ⟨k + 1, k, _, by go_num, rfl, by omega, rfl, HB2, hid (own_and HO.out _)⟩
            case measure => simp [intOf]; omega
          · have hbv : bv = (b : Int) := by rw [← HBV.out, e]
            obtain ⟨b3, o3, R3, c3, eA3, hcb, hRb⟩ := HWb.out.at (show b < l.length by rw [EN.out]; omega)
            injection eA3 with eA3
            injection eA3 with e1 e2
            subst e1; subst e2
            have hpb2 := HR.out.cell (show b < n by omega)
            rw [posV_at pos (show b < n by omega)] at hpb2
            obtain ⟨p2, ep2⟩ : ∃ p2, pos b = p2 := ⟨_, rfl⟩
            obtain ⟨L2, eL2⟩ : ∃ L2, lenF l b = L2 := ⟨_, rfl⟩
            rw [ep2] at hpb2 hpb
            rw [eL2] at hcb hpb
            obtain ⟨b4, o4, eR, hv2⟩ := RowsW.val hRb (show p2 < lenF l b by rw [eL2]; exact hpb)
            subst eR
            obtain ⟨q2, eq2⟩ : ∃ q2, vF l b p2 = q2 := ⟨_, rfl⟩
            rw [eq2] at hv2
            have hval : vF l (bestF (lenF l) (vF l) pos k).toNat (pos (bestF (lenF l) (vF l) pos k).toNat) = q2 := by rw [e, Int.toNat_natCast, ep2, eq2]
            have hneg : decide ((b : Int) < 0) = false := by rw [decide_eq_false_iff_not]; omega
            rcases dec_cases (q < q2) with hb | hb
            · have HB2 := hid (show bestF (lenF l) (vF l) pos (k + 1) = (k : Int) by
                rw [bestF, if_pos ⟨by rw [EP.out, EL.out]; exact hpl, .inr (by rw [hval, EP.out, EQ.out]; simpa using hb)⟩])
              subst hbv
              clear e HBV hval hRb ep2 eL2 eq2
              go_wp2_with fail
              refine wp_region_past (by kernel_rfl) (by kernel_rfl) ?_
              repeat (go_big_quiet_step ((fail)))
              refine wpQuiet_nil ?_
              rintro _ ⟨_, rfl⟩
              go_wp2_with fail
              go_roundw
              case rel => exact ⟨k + 1, k, _, by go_num, rfl, by omega, rfl, HB2, hid (own_and HO.out _)⟩
              case measure => simp [intOf]; omega
            · have HB2 := hid (show bestF (lenF l) (vF l) pos (k + 1) = (b : Int) by
                rw [bestF, if_neg (by
                  rintro ⟨_, h | h⟩
                  · rw [e] at h; omega
                  · rw [hval, EP.out, EQ.out] at h; simp at hb; omega), e])
              subst hbv
              clear e HBV hval hRb ep2 eL2 eq2
              go_wp2_with fail
              refine wp_region_past (by kernel_rfl) (by kernel_rfl) ?_
              repeat (go_big_quiet_step ((fail)))
              refine wpQuiet_nil ?_
              rintro _ ⟨_, rfl⟩
              go_wp2_with fail
              go_roundw
              case rel => exact ⟨k + 1, b, _, by go_num, rfl, by omega, rfl, HB2, hid (own_and HO.out _)⟩
              case measure => simp [intOf]; omega
        · have HB2 := hid (show bestF (lenF l) (vF l) pos (k + 1) = bv by
            rw [bestF, if_neg (by rintro ⟨h, _⟩; rw [ep, eL] at h; omega)]; exact HBV.out)
          clear hRk ep eL HBV
          go_wp2_with fail
          refine wp_region_past (by kernel_rfl) (by kernel_rfl) ?_
          repeat (go_big_quiet_step ((fail)))
          refine wpQuiet_nil ?_
          rintro _ ⟨_, rfl⟩
          go_wp2_with fail
          go_roundw
          case rel => exact ⟨k + 1, bv, _, by go_num, rfl, by omega, rfl, HB2, hid (own_and HO.out _)⟩
          case measure => simp [intOf]; omega
      · obtain rfl : k = n := by omega
        rcases best_in (lenF l) (vF l) pos k with e | ⟨b, e, hbk, hpb⟩
        · have hbv : bv = -1 := by rw [← HBV.out, e]
          have hjN : j = N := by
            rcases Nat.lt_or_ge j N with h | h
            · have := HBEST.out j h; rw [HNX.out, e] at this; omega
            · omega
          subst hbv
          subst hjN
          clear e HBV
          obtain ⟨A', c', rfl⟩ := own_shape HO.out
          go_wp2
          go_ret
          exact ⟨A', c', rfl, RowKit.Below.past HR.out.below _, own_base HO.out hws⟩
        · have hbv : bv = (b : Int) := by rw [← HBV.out, e]
          have hjN : j < N := by
            rcases Nat.lt_or_ge j N with h | h
            · exact h
            · obtain rfl : j = N := by omega
              have := HEND.out; rw [HNX.out, e] at this; omega
          obtain ⟨b1, o1, R, c1, eA, hcb, hRb⟩ := HWb.out.at (show b < l.length by rw [EN.out]; omega)
          subst eA
          have hpb2 := HR.out.cell hbk
          rw [posV_at pos hbk] at hpb2
          obtain ⟨p2, ep2⟩ : ∃ p2, pos b = p2 := ⟨_, rfl⟩
          obtain ⟨L2, eL2⟩ : ∃ L2, lenF l b = L2 := ⟨_, rfl⟩
          have hL30 := H30.out b hbk
          rw [ep2] at hpb2 hpb
          rw [eL2] at hcb hpb hL30
          obtain ⟨b4, o4, eR, hv2⟩ := RowsW.val hRb (show p2 < lenF l b by rw [eL2]; exact hpb)
          subst eR
          obtain ⟨q2, eq2⟩ : ∃ q2, vF l b p2 = q2 := ⟨_, rfl⟩
          rw [eq2] at hv2
          have HITEM := hid (show itemF (lenF l) (vF l) k j = ((b : Int), q2) by rw [HIT.out, e, Int.toNat_natCast, ep2, eq2])
          have HROW := hid (show RowW w (wb.setCell ⟨g, b, none⟩ (.int .i64 ((p2 : Int) + 1))) g k k (posV (posF (lenF l) (vF l) k (j + 1)) k) by
            have h := HR.out.set b ((p2 : Int) + 1)
            have e' : (posV pos k).set b ((p2 : Int) + 1) = posV (posF (lenF l) (vF l) k (j + 1)) k := by rw [HPS.out, e, ← posV_bump, ep2]
            rw [e'] at h
            exact h)
          have hfz := HR.out.frozen b
          have hneg : decide ((b : Int) < 0) = false := by rw [decide_eq_false_iff_not]; omega
          have e1 : IntKind.i64.wrap ((p2 : Int) + 1) = (p2 : Int) + 1 := by rw [IntKind.wrap_i64]; omega
          have hlb1 : b1 < wb.heap.size := World.block_lt_of_cell? wb _ hcb
          have hlb4 : b4 < wb.heap.size := World.block_lt_of_cell? wb _ hv2
          subst hbv
          clear e HBV hRb ep2 eL2 eq2 HIT HPS HNX
          have HOb := hid (show (wb.past y).ownsRow wb.heap.size 39 2 u3 j (tab pairI (itemsF (lenF l) (vF l) k j)) by rw [HS.out]; exact HO.out)
          go_wp2_with fail
          go_region_held3 (fun w' => w'.cell? ⟨b1, o1 + b, none⟩ = some (.slice (some ⟨b4, o4, none⟩) L2 c1) ∧ w'.cell? ⟨g, b, none⟩ = some (.int .i64 p2) ∧ w'.cell? ⟨b4, o4 + p2, none⟩ = some (.int .i64 q2)) ((first | (simp [go_sem, *]; done) | exact ⟨below_cell HB3.out (Nat.le_refl _) _ _ hcb, below_cell HB3.out (Nat.le_refl _) _ _ hpb2, below_cell HB3.out (Nat.le_refl _) _ _ hv2⟩)) ((first | (refine step_pushO rfl (.tmp 57) (.tmp 70) 33 rfl 39 j0 (.agg #[.int .i64 0, .int .i64 0]) 2 16 Try.underlying33 HJ.out.1 HJ.out.2.1 HJ.out.2.2.1 HJ.out.2.2.2 rfl (by decide) (w0 := wb) ?_ _ _ _ ?_ (by first | exact HOb.out | exact HOb.out.drew | exact HOb.out.drewN _) _ #[.int .i64 b, .int .i64 q2] rfl ?_ rfl ?_ ?_ ?_ ?_; (· first | exact wb.below_past _ | exact (wb.below_past _).drew | exact RowKit.Below.drewN' (wb.below_past _) _); (· rfl); (· simp [go_sem]); (· simp [Value.oneCell']); (· omega); (· unfold maxLen; omega); intro w3 g3 c3 hb3 ho3 _; have HB3 := hid hb3; have HO3 := hid ho3; clear hb3 ho3)))
          obtain ⟨x3, rfl⟩ := past_of HB3.out
          have hO4 : ((wb.setCell ⟨g, b, none⟩ (.int .i64 ((p2 : Int) + 1))).past x3).ownsRow s 39 2 (.slice (some ⟨g3, 0, none⟩) (j + 1) c3) (j + 1) (tab pairI (itemsF (lenF l) (vF l) k (j + 1))) := by
            have h := ownsRow_setCell_below HO3.out (a := ⟨g, b, none⟩) (show g < wb.heap.size from hgw) (.int .i64 ((p2 : Int) + 1))
            rw [World.setCell_past hgw] at h
            rw [← items_snoc, HITEM.out, ← tab_snoc, ← HS.out]
            exact h
          have HO4 := hid hO4
          clear hO4 HO3 HB3
          go_wp2_with fail
          go_roundw
          case rel => exact ⟨j + 1, _, x3, by omega, rfl, hid (by simp [HS.out]), HROW, HO4⟩
          case measure =>
            have hl1 : lenV (.slice (some ⟨g3, 0, none⟩) (j + 1) c3) = j + 1 := rfl
            have hl2 := HLU.out
            simp [hl1, hl2]; omega
end Go.Proofs.Ythemogfniohdiaa
