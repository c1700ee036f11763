/-
  Layer 44, the document's: may a bank be, can a client be served? No condition but that rows are not long.
-/
import Derived.Test.YtddngloojacceaaBkP
namespace Go.Proofs.Ytddngloojacceaa
open Go Go.RowKit
attribute [local go_sem] Oper.semAt_some
set_option maxHeartbeats 1000000 in
theorem rrow_any (A : Option Addr) (ca n : Nat) (l : List Int) (en : l.length = n) (hn : n ≤ 1000000) (k : Int) (w : World) (ha : Cells w A (i64s l)) :
    Calls Try.prog 21 #[.slice A n ca, .int .i64 k] w (Gives (.bool (rowF l k)) w) := by
  have EN := hid en
  have HA := hid ha
  clear en ha
  go_enter Try.func21, Try.ntmps21
  go_wp2
  go_loopw [5] (fun i wr => ∃ (q : Nat) (x : Past), i = .int .i64 q ∧ q ≤ n ∧ wr = w.past x ∧ Hid (∀ j, j < q → mayN (atL l j) = true)) (fun i _ => n - (intOf i).toNat)
  case atStart => exact ⟨0, _, rfl, by omega, World.past_refl w, hid (fun j h => by omega)⟩
  case round =>
    obtain ⟨q, x, rfl, hq, rfl, HJ⟩ := hrel
    by_cases hlt : q < n
    · obtain ⟨b1, o1, rfl, hc1⟩ := i64_at HA.out (k := q) (by rw [EN.out]; exact hlt)
      obtain ⟨y, ey⟩ : ∃ y, atL l q = y := ⟨_, rfl⟩
      rw [ey] at hc1
      have EY := hid ey
      clear ey
      have hbad : mayN y = false → rowF l k = false := fun h => by
        unfold rowF
        have : mayR l = false := by
          cases h2 : mayR l with
          | false => rfl
          | true => have := mayR_iff.1 h2 q (by rw [EN.out]; exact hlt); rw [EY.out, h] at this; cases this
        rw [this, Bool.and_false]
      have HBAD := hid hbad
      clear hbad
      by_cases h1 : y < 0
      · have HF := hid (HBAD.out (by simp [mayN]; omega))
        go_wp2_with fail
        go_ret
        refine Gives.mk (by rw [HF.out]; rfl) ?_
        (repeat (first | exact Below.refl _ _ | refine RowKit.Below.past ?_ _ | refine RowKit.Below.alloc' ?_ _ | refine RowKit.Below.drew' ?_ | refine RowKit.Below.drewN' ?_ _ | refine RowKit.Below.setCell' ?_ (by simp [go_sem]) _))
      · by_cases h2 : 1000000 < y
        · have HF := hid (HBAD.out (by simp [mayN]; omega))
          go_wp2_with fail
          go_ret
          refine Gives.mk (by rw [HF.out]; rfl) ?_
          (repeat (first | exact Below.refl _ _ | refine RowKit.Below.past ?_ _ | refine RowKit.Below.alloc' ?_ _ | refine RowKit.Below.drew' ?_ | refine RowKit.Below.drewN' ?_ _ | refine RowKit.Below.setCell' ?_ (by simp [go_sem]) _))
        · go_wp2_with fail
          go_roundw
          case rel => exact ⟨q + 1, _, by go_num, by omega, by first | rfl | trivial, hid (fun j hj => by
            by_cases e : j = q
            · subst e; rw [EY.out]; simp [mayN]; omega
            · exact HJ.out j (by omega))⟩
          case measure => simp [intOf]; omega
    · obtain rfl : q = n := by omega
      have HF : Hid (rowF l k = ((q : Int) == k)) := hid (by
        unfold rowF
        rw [mayR_iff.2 (fun j hj => HJ.out j (by rw [← EN.out]; exact hj)), Bool.and_true, EN.out])
      go_wp2
      go_ret
      refine Gives.mk (by rw [HF.out]; rfl) ?_
      (repeat (first | exact Below.refl _ _ | refine RowKit.Below.past ?_ _ | refine RowKit.Below.alloc' ?_ _ | refine RowKit.Below.drew' ?_ | refine RowKit.Below.drewN' ?_ _ | refine RowKit.Below.setCell' ?_ (by simp [go_sem]) _))
set_option maxRecDepth 100000 in
set_option maxHeartbeats 2000000 in
theorem rcan_any (x : Bk) (k nh : Nat) (ok : x.Ok k nh) (i : Nat) (hi : i < nh) (F : Option Addr) (cf : Nat) (free : List Int) (el : free.length = k) (w : World) (hx : x.In w) (hF : Cells w F (i64s free)) :
    Calls Try.prog 33 #[.agg x.cs, .int .i64 i, .slice F k cf] w (Gives (.bool (canK x free i k)) w) := by
  obtain ⟨w1, ew1⟩ : ∃ w1, w1 = w.alloc (.cells x.cs 25) := ⟨_, rfl⟩
  have hb1 : Below w.heap.size w w1 := by rw [ew1]; exact (Below.refl _ w).alloc (Nat.le_refl _) _
  have hrec : Rec w1 w.heap.size 25 x.cs := by rw [ew1]; exact Rec.new w _ _
  have hcs : x.cs = #[.slice x.F.1 k x.F.2.1, .slice x.AH nh x.cH, .slice x.AM nh x.cM] := by unfold Bk.cs; rw [ok.ef, ok.eh, ok.em]
  have hX := hx.below hb1
  have hF1 := hF.below hb1
  have r1 := Rec.cell hrec 1
  have r2 := Rec.cell hrec 2
  obtain ⟨bh, oh, Rh, ch, eh, q1, k1⟩ := hX.h.at (i := i) (by rw [ok.eh]; exact hi)
  obtain ⟨bm, om, Rm, cm, em, q2, k2⟩ := hX.m.at (i := i) (by rw [ok.em]; exact hi)
  rw [eh, em] at hcs
  rw [hcs] at r1 r2 ew1 ⊢
  simp at r1 r2
  have eh2 : (rAt x.H i).2.2.length = k := ok.hl i hi
  have em2 : (rAt x.M i).2.2.length = k := ok.ml i hi
  rw [eh2] at q1
  rw [em2] at q2
  have hk1 := ok.k1
  have hk4 := ok.k4
  have h8 := ok.h8
  have hbh : ∀ j, j < k → 0 ≤ atL (hasR x i) j ∧ atL (hasR x i) j ≤ 1000000 := ok.hv i hi
  have hbm : ∀ j, j < k → 0 ≤ atL (mostR x i) j ∧ atL (mostR x i) j ≤ 1000000 := ok.mv i hi
  have EW1 := hid ew1
  have HB1 := hid hb1
  have K1 := hid k1
  have K2 := hid k2
  have KF := hid hF1
  have E2 := hid (And.intro eh2 em2)
  have EL := hid el
  have BH := hid hbh
  have BM := hid hbm
  have hml : (mostR x i).length = k := em2
  have HML := hid hml
  clear ew1 hb1 hrec hcs hX hF1 k1 k2 eh em eh2 em2 hx hF ok el hbh hbm hml
  go_enter Try.func33, Try.ntmps33
  go_upto_region 1 with (fail)
  rw [← EW1.out]
  go_wp2_with fail
  go_loopw [7] (fun q wr => ∃ (j : Nat) (y : Past), q = .int .i64 j ∧ j ≤ k ∧ wr = w1.past y ∧ Hid (∀ p, p < j → atL (plusF (mostR x i) (hasR x i) (-1)) p ≤ atL free p)) (fun q _ => k - (intOf q).toNat)
  case atStart => exact ⟨0, _, rfl, by omega, World.past_refl w1, hid (fun j h => by omega)⟩
  case round =>
    obtain ⟨j, y, rfl, hj, rfl, HJ⟩ := hrel
    by_cases hlt : j < k
    · obtain ⟨b1, o1, rfl, hc1⟩ := i64_at K1.out (k := j) (by rw [E2.out.1]; exact hlt)
      obtain ⟨b2, o2, rfl, hc2⟩ := i64_at K2.out (k := j) (by rw [E2.out.2]; exact hlt)
      obtain ⟨b3, o3, rfl, hc3⟩ := i64_at KF.out (k := j) (by rw [EL.out]; exact hlt)
      have a1 := BH.out j hlt
      have a2 := BM.out j hlt
      have EP : Hid (atL (plusF (mostR x i) (hasR x i) (-1)) j = atL (mostR x i) j + -1 * atL (hasR x i) j) := hid (plusF_at (by rw [HML.out]; exact hlt))
      change w1.cell? _ = some (.int .i64 (atL (hasR x i) j)) at hc1
      change w1.cell? _ = some (.int .i64 (atL (mostR x i) j)) at hc2
      obtain ⟨u, eu⟩ : ∃ u, atL (hasR x i) j = u := ⟨_, rfl⟩
      obtain ⟨v, ev⟩ : ∃ v, atL (mostR x i) j = v := ⟨_, rfl⟩
      obtain ⟨z, ez⟩ : ∃ z, atL free j = z := ⟨_, rfl⟩
      rw [eu] at hc1 a1 EP
      rw [ev] at hc2 a2 EP
      rw [ez] at hc3
      have EZ := hid ez
      have hwr : IntKind.i64.wrap (v - u) = v - u := by rw [IntKind.wrap_i64]; omega
      clear eu ev ez
      by_cases hv : z < v - u
      · have HF : Hid (canK x free i k = false) := hid (by
          cases h : canK x free i k with
          | false => rfl
          | true => have := withK_iff.1 h j hlt; rw [EP.out, EZ.out] at this; omega)
        go_wp2_with fail
        refine wp_region_past (by kernel_rfl) (by kernel_rfl) ?_
        repeat (go_big_quiet_step ((first | (go_at_call 16; first | with_reducible exact Calls.in_past (True) | with_reducible exact Calls.in_past2 (True)) | (go_at_call 16; first | exact Calls.in_past (True) | exact Calls.in_past2 (True)))))
        refine wpQuiet_nil ?_
        rintro _ ⟨_, rfl⟩
        go_wp2_with fail
        go_ret
        refine Gives.mk (by rw [HF.out]; rfl) (by repeat (first | exact HB1.out | refine RowKit.Below.past ?_ _))
      · go_wp2_with fail
        refine wp_region_past (by kernel_rfl) (by kernel_rfl) ?_
        repeat (go_big_quiet_step ((first | (go_at_call 16; first | with_reducible exact Calls.in_past (True) | with_reducible exact Calls.in_past2 (True)) | (go_at_call 16; first | exact Calls.in_past (True) | exact Calls.in_past2 (True)))))
        refine wpQuiet_nil ?_
        rintro _ ⟨_, rfl⟩
        go_wp2_with fail
        go_roundw
        case rel => exact ⟨j + 1, _, by go_num, by omega, by first | rfl | trivial, hid (fun p hp => by
          by_cases e : p = j
          · subst e; rw [EP.out, EZ.out]; omega
          · exact HJ.out p (by omega))⟩
        case measure => simp [intOf]; omega
    · obtain rfl : j = k := by omega
      have HF := hid (show canK x free i j = true from withK_iff.2 HJ.out)
      go_wp2_with fail
      go_ret
      refine Gives.mk (by rw [HF.out]; rfl) (by repeat (first | exact HB1.out | refine RowKit.Below.past ?_ _))
end Go.Proofs.Ytddngloojacceaa
