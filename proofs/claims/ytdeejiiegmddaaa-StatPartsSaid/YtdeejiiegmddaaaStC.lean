/-
  Layer 25: Kinds, by the program. No condition.
-/
import Derived.Test.YtdeejiiegmddaaaStB
namespace Go.Proofs.Ytdeejiiegmddaaa
open Go Go.RowKit
theorem below_set {s b : Nat} {w W : World} (h : Below s w W) (hb : s ≤ b) (i : Nat) (u : Value) : Below s w (W.setCell ⟨b, i, none⟩ u) := h.setCell (p := ⟨b, i, none⟩) hb u
abbrev tKs : TypeId := 28
theorem list15 : ∀ {L : List Int}, L.length = 15 → ∃ z0 z1 z2 z3 z4 z5 z6 z7 z8 z9 z10 z11 z12 z13 z14 : Int, L = [z0, z1, z2, z3, z4, z5, z6, z7, z8, z9, z10, z11, z12, z13, z14]
  | [a0, a1, a2, a3, a4, a5, a6, a7, a8, a9, a10, a11, a12, a13, a14], _ => ⟨a0, a1, a2, a3, a4, a5, a6, a7, a8, a9, a10, a11, a12, a13, a14, rfl⟩
set_option maxRecDepth 100000 in
set_option maxHeartbeats 4000000 in
theorem Kinds_any (A : Option Addr) (ca n : Nat) (l : List Ev) (en : l.length = n) (hn : n ≤ maxLen) (w : World) (ha : Cells w A (tab evV l)) :
    Calls Try.prog 10 #[.slice A n ca] w (Gives (.agg (i64s (kinK l n)).toArray) w) := by
  have HA := hid ha
  have EN := hid en
  clear ha en
  go_enter Try.func10, Try.ntmps10
  go_upto_region 2 with (fail)
  obtain ⟨s, es⟩ : ∃ s, w.heap.size = s := ⟨_, rfl⟩
  obtain ⟨W0, eW0⟩ : ∃ W0, W0 = (w.alloc (.cells (i64s (kinK l 0)).toArray tKs)).alloc (.cells (i64s (kinK l 0)).toArray tKs) := ⟨_, rfl⟩
  have hr2 : Rec W0 s tKs (i64s (kinK l 0)).toArray := by rw [eW0, ← es]; exact (Rec.new w _ _).alloc _
  have hr3 : Rec W0 (s + 1) tKs (i64s (kinK l 0)).toArray := by
    have := Rec.new (w.alloc (.cells (i64s (kinK l 0)).toArray tKs)) tKs (i64s (kinK l 0)).toArray
    rw [show (w.alloc (.cells (i64s (kinK l 0)).toArray tKs)).heap.size = s + 1 by rw [← es]; simp [go_sem]] at this
    rw [eW0]; exact this
  have hb0 : Below s w W0 := by rw [eW0, ← es]; exact ((Below.refl _ w).alloc (Nat.le_refl _) _).alloc (by simp [go_sem]) _
  have H0 := hid (And.intro hr2 (And.intro hr3 hb0))
  have ES := hid es
  change Code.wp _ _ _ _ ((w.alloc (.cells (i64s (kinK l 0)).toArray tKs)).alloc (.cells (i64s (kinK l 0)).toArray tKs))
  rw [← eW0, es]
  clear hr2 hr3 hb0 eW0 es
  go_wp2_with fail
  go_loopw [5, 8] (fun _ v wr => ∃ k : Nat, v = .int .i64 (k : Int) ∧ k ≤ n ∧ Hid (Rec wr s tKs (i64s (kinK l 0)).toArray ∧ Rec wr (s + 1) tKs (i64s (kinK l k)).toArray ∧ Below s w wr)) (fun _ v _ => n - (intOf v).toNat)
  case atStart => exact ⟨0, rfl, Nat.zero_le _, H0⟩
  case round =>
    clear H0
    obtain ⟨k, rfl, hk, H⟩ := hrel
    by_cases hlt : k < n
    · obtain ⟨gA, oA, rfl, q0, q1, q2, q3, q4⟩ := ev_at (HA.out.below (by rw [ES.out]; exact H.out.2.2)) (k := k) (by rw [EN.out]; exact hlt)
      have HT := hid (show kinK l (k + 1) = (kinK l k).set (kxF (evA l k).kind) (atL (kinK l k) (kxF (evA l k).kind) + 1) from rfl)
      have hin := kinK_in l k (kxF (evA l k).kind)
      have hjl := kx_lt (evA l k).kind
      have hkl := kinK_length l k
      obtain ⟨⟨xt, xk, xa, xl, xn⟩, ex⟩ : ∃ z, evA l k = z := ⟨_, rfl⟩
      rw [ex] at HT q0 q1 q2 q3 q4 hin hjl
      simp only at HT q0 q1 q2 q3 q4 hin hjl
      obtain ⟨L, eL⟩ : ∃ L, kinK l k = L := ⟨_, rfl⟩
      rw [eL] at HT hin hkl H
      obtain ⟨j, ej⟩ : ∃ j, kxF xk = j := ⟨_, rfl⟩
      rw [ej] at HT hin hjl
      obtain ⟨v, ev⟩ : ∃ v, atL L j = v := ⟨_, rfl⟩
      rw [ev] at HT hin
      have EV := hid ev
      have e1 : IntKind.i64.wrap ((k : Int) + 1) = (k : Int) + 1 := by rw [IntKind.wrap_i64]; unfold maxLen at hn; omega
      have e2 : IntKind.i64.wrap (v + 1) = v + 1 := by rw [IntKind.wrap_i64]; unfold maxLen at hn; omega
      obtain ⟨K, eK⟩ : ∃ K, wr.heap.size = K := ⟨_, rfl⟩
      obtain ⟨w5, ew5⟩ : ∃ w5, w5 = wr.alloc (.cells (evV ⟨xt, xk, xa, xl, xn⟩).toArray tEv) := ⟨_, rfl⟩
      have hsK : s + 1 < K := by rw [← eK]; exact H.out.2.1.lt
      have r5 : Rec w5 K tEv (evV ⟨xt, xk, xa, xl, xn⟩).toArray := by rw [ew5, ← eK]; exact Rec.new wr _ _
      have H5 := hid (show Rec w5 s tKs (i64s (kinK l 0)).toArray ∧ Rec w5 (s + 1) tKs (i64s L).toArray ∧ Below s w w5 from by
        rw [ew5]; exact ⟨H.out.1.alloc _, H.out.2.1.alloc _, H.out.2.2.alloc (by rw [eK]; omega) _⟩)
      have EW5 := hid ew5
      have hgl := World.block_lt_of_cell? _ _ q0
      simp only at hgl
      clear ex eL ev ew5 H
      go_upto_region 5 with (fail)
      change Code.wp _ _ _ _ (wr.alloc (.cells (evV ⟨xt, xk, xa, xl, xn⟩).toArray tEv))
      rw [← EW5.out]
      obtain ⟨b, eb⟩ : ∃ b, s + 1 = b := ⟨_, rfl⟩
      rw [eb] at H5 hsK ⊢
      have EB := hid eb
      have d1 := Rec.cell r5 1
      have hl5 := r5.lt
      have cj := Rec.cell H5.out.2.1 j
      have fj := Rec.frozen H5.out.2.1 j
      have hl3 := H5.out.2.1.lt
      have hne : ¬ K = b := by omega
      have hne2 : ¬ b = K := by omega
      simp [evV] at d1
      have cj2 : w5.cell? ⟨b, j, none⟩ = some (.int .i64 v) := by
        rw [cj, ← EV.out]
        have : j < L.length := by omega
        simp [i64s, atL, List.getElem?_eq_getElem this]
      have HU : Hid (Rec (w5.setCell ⟨b, j, none⟩ (.int .i64 (v + 1))) b tKs (i64s (kinK l (k + 1))).toArray) := by
        have h7 := H5.out.2.1.set j (.int .i64 (v + 1))
        unfold Rec at h7 ⊢
        rw [HT.out, h7]
        congr 1
        simp [i64s, List.map_set]
      have HS : Hid (Rec (w5.setCell ⟨b, j, none⟩ (.int .i64 (v + 1))) s tKs (i64s (kinK l 0)).toArray) := hid (H5.out.1.set_other (p := ⟨b, j, none⟩) (by have := EB.out; show b ≠ s; omega) _)
      have HBB : Hid (Below s w (w5.setCell ⟨b, j, none⟩ (.int .i64 (v + 1)))) := hid (H5.out.2.2.setCell (p := ⟨b, j, none⟩) (by have h8 := EB.out; show s ≤ b; rw [← h8]; exact Nat.le_succ s) _)
      clear eb q0 q1 q2 q3 q4 eK hgl cj r5 H5 HT
      by_cases h1 : 0 < xk
      · by_cases h2 : xk < 15
        · obtain ⟨m, rfl⟩ : ∃ m : Nat, xk = (m : Int) := ⟨xk.toNat, by omega⟩
          obtain rfl : m = j := by rw [← ej, kxF, if_pos ⟨h1, h2⟩]; rfl
          clear ej
          go_wp2_with fail
          have hEB := EB.out
          subst hEB
          go_roundw
          case rel => first | exact ⟨k + 1, by go_num, by omega, hid ⟨HS.out, HU.out, HBB.out⟩⟩ | exact ⟨_, _, ⟨k + 1, by go_num, by omega, hid ⟨HS.out, HU.out, HBB.out⟩⟩, rfl, rfl, rfl⟩
          case measure => simp [intOf]; omega
        · obtain rfl : 0 = j := by rw [← ej, kxF, if_neg (by omega)]
          clear ej
          go_wp2_with fail
          have hEB := EB.out
          subst hEB
          go_roundw
          case rel => first | exact ⟨k + 1, by go_num, by omega, hid ⟨HS.out, HU.out, HBB.out⟩⟩ | exact ⟨_, _, ⟨k + 1, by go_num, by omega, hid ⟨HS.out, HU.out, HBB.out⟩⟩, rfl, rfl, rfl⟩
          case measure => simp [intOf]; omega
      · obtain rfl : 0 = j := by rw [← ej, kxF, if_neg (by omega)]
        clear ej
        go_wp2_with fail
        have hEB := EB.out
        subst hEB
        go_roundw
        case rel => first | exact ⟨k + 1, by go_num, by omega, hid ⟨HS.out, HU.out, HBB.out⟩⟩ | exact ⟨_, _, ⟨k + 1, by go_num, by omega, hid ⟨HS.out, HU.out, HBB.out⟩⟩, rfl, rfl, rfl⟩
        case measure => simp [intOf]; omega
    · obtain rfl : k = n := by omega
      obtain ⟨z0, z1, z2, z3, z4, z5, z6, z7, z8, z9, z10, z11, z12, z13, z14, ez⟩ := list15 (kinK_length l k)
      have EZ := hid ez
      have ht := H.out.2.1
      rw [ez] at ht
      have hr := H.out.1
      have c0 := Rec.cell ht 0
      have f0 := Rec.frozen hr 0
      have g0 := Rec.cell hr 0
      have c1 := Rec.cell ht 1
      have f1 := Rec.frozen hr 1
      have g1 := Rec.cell hr 1
      have c2 := Rec.cell ht 2
      have f2 := Rec.frozen hr 2
      have g2 := Rec.cell hr 2
      have c3 := Rec.cell ht 3
      have f3 := Rec.frozen hr 3
      have g3 := Rec.cell hr 3
      have c4 := Rec.cell ht 4
      have f4 := Rec.frozen hr 4
      have g4 := Rec.cell hr 4
      have c5 := Rec.cell ht 5
      have f5 := Rec.frozen hr 5
      have g5 := Rec.cell hr 5
      have c6 := Rec.cell ht 6
      have f6 := Rec.frozen hr 6
      have g6 := Rec.cell hr 6
      have c7 := Rec.cell ht 7
      have f7 := Rec.frozen hr 7
      have g7 := Rec.cell hr 7
      have c8 := Rec.cell ht 8
      have f8 := Rec.frozen hr 8
      have g8 := Rec.cell hr 8
      have c9 := Rec.cell ht 9
      have f9 := Rec.frozen hr 9
      have g9 := Rec.cell hr 9
      have c10 := Rec.cell ht 10
      have f10 := Rec.frozen hr 10
      have g10 := Rec.cell hr 10
      have c11 := Rec.cell ht 11
      have f11 := Rec.frozen hr 11
      have g11 := Rec.cell hr 11
      have c12 := Rec.cell ht 12
      have f12 := Rec.frozen hr 12
      have g12 := Rec.cell hr 12
      have c13 := Rec.cell ht 13
      have f13 := Rec.frozen hr 13
      have g13 := Rec.cell hr 13
      have c14 := Rec.cell ht 14
      have f14 := Rec.frozen hr 14
      have g14 := Rec.cell hr 14
      have hl3 := ht.lt
      have hl2 := hr.lt
      simp [i64s] at c0 c1 c2 c3 c4 c5 c6 c7 c8 c9 c10 c11 c12 c13 c14
      simp [i64s, kinK] at g0 g1 g2 g3 g4 g5 g6 g7 g8 g9 g10 g11 g12 g13 g14
      have HR := hid hr
      clear hr ht ez
      have HB := hid H.out.2.2
      clear H
      go_wp2_with fail
      refine bodyPost_ret (results_cell_row rfl _ _ s tKs (i64s [z0, z1, z2, z3, z4, z5, z6, z7, z8, z9, z10, z11, z12, z13, z14]).toArray (0, 0) _ rfl ?rec Try.underlying28 rfl (by kernel_rfl)) rfl ?_
      case rec =>
        have h7 := (((((((((((((((HR.out.set 0 (.int .i64 z0)).set 1 (.int .i64 z1)).set 2 (.int .i64 z2)).set 3 (.int .i64 z3)).set 4 (.int .i64 z4)).set 5 (.int .i64 z5)).set 6 (.int .i64 z6)).set 7 (.int .i64 z7)).set 8 (.int .i64 z8)).set 9 (.int .i64 z9)).set 10 (.int .i64 z10)).set 11 (.int .i64 z11)).set 12 (.int .i64 z12)).set 13 (.int .i64 z13)).set 14 (.int .i64 z14))
        unfold Rec at h7
        simpa [i64s, kinK] using h7
      refine Gives.mk (by rw [EZ.out]) ?_
      rw [ES.out]
      iterate 15 (refine below_set ?_ (Nat.le_refl _) _ _)
      exact HB.out
end Go.Proofs.Ytdeejiiegmddaaa
