/-
  Layer 43: when one is done by levels, by the document. No condition but that they are ints.
-/
import Derived.Test.YtjkmakaahghddaaRtaD
namespace Go.Proofs.Ytjkmakaahghddaa
open Go.RowKit
set_option maxHeartbeats 4000000 in
theorem RDone_ok (A : Option Addr) (ca n : Nat) (l : List Wk) (at' : Nat) (until' : Int) (U : Nat) (hU : (U : Int) = clampF until' 0 10000) (w : World) (hw : LsW l n ca A w) (hm : mayF l = true) (hat : at' < n) :
    Calls Try.prog 10 #[.slice A n ca, .int .i64 at', .int .i64 until'] w (Gives (.int .i64 (doneF l at' U)) w) := by
  obtain ⟨i0, hi, hz0, hz1, hz2⟩ := info_parts info_i64
  have hM := RMay_any A ca n l hw.len (by have := hw.few; unfold maxLen; omega) w hw.cells
  rw [hm] at hM
  have HM := hid hM
  have WK := hid (hw.wks hm)
  have h6 := WK.out.six
  have hU1 : U ≤ 10000 := by unfold clampF at hU; split at hU <;> (try split at hU) <;> omega
  have hbr := fun w' => Bring43_any until' 0 10000 w'
  rw [← hU] at hbr
  have HBR := hid hbr
  obtain ⟨b1, o1, rfl, hc1, hc2, hc3⟩ := wk_at WK.out.cells (show at' < l.length by rw [WK.out.len]; exact hat)
  obtain ⟨C, eC⟩ : ∃ C, (wk l at').c = C := ⟨_, rfl⟩
  have hok := (wk_ok WK.out.ok at').1
  rw [eC] at hc1 hok
  have EC := hid eC
  clear hM hw hm hU hbr hc2 hc3 eC
  obtain ⟨R, eR⟩ : ∃ R, doneF l at' U = R := ⟨_, rfl⟩
  rw [eR]
  have HR0 : Hid (simD l n at' (U - 0) 0 (List.replicate n 0) 0 = R) := hid (by rw [Nat.sub_zero, done_big hat]; exact eR)
  clear eR
  go_enter Try.func10, Try.ntmps10
  go_upto_region 5 with (first | (go_at_call 11; refine HM.out.mono ?_; rintro _ _ ⟨rfl, x0, rfl⟩) | (go_at_call 22; refine (HBR.out _).mono ?_; rintro _ _ ⟨rfl, x1, rfl⟩) | (at_make; refine wpList_make_full _ rfl (.tmp 28) (.tmp 28) 25 rfl w.heap.size 3 i0 (.int .i64 0) 1 Try.underlying25 hi hz0 hz1 .i64 .i64 _ _ n rfl rfl rfl rfl ?_ ?_ ?_ ?_; (· rw [hz2]; omega); (· unfold maxLen; omega); (· simp [go_sem]); intro w2 hrow hg2))
  obtain ⟨g, hg⟩ : ∃ g, g = (w.past (x0.and x1)).heap.size := ⟨_, rfl⟩
  have hg' : w.heap.size + (x0.and x1).more = g := by rw [hg]; simp [go_sem]
  rw [hg']
  rw [← hg] at hrow
  have HW0 : Hid (LeftW w w2 g n (List.replicate n 0)) := hid (by
    refine ⟨(RowKit.Below.past (Below.refl _ w) (x0.and x1)).grown hg2 (by simp [go_sem]) (fun _ h => by cases h), ?_⟩
    simpa [i64s, toList_madeCells_one, Value.cells] using hrow)
  have hc1 := below_cell HW0.out.below (Nat.le_refl _) _ _ hc1
  clear hrow hg2 hg hg'
  have hc1' := hid hc1
  go_wp2_with fail
  clear hc1
  go_loopw [8, 9] (fun v i wr => ∃ (t : Nat) (L : List Int) (d : Int), i = .int .i64 t ∧ t ≤ U ∧ v = .int .i64 (C - d) ∧ (0 ≤ d ∧ d < C) ∧ Hid (LeftW w wr g n L) ∧ Hid (∀ j, 0 ≤ atL L j ∧ atL L j ≤ 100 * t) ∧ Hid (simD l n at' (U - t) t L d = R)) (fun _ i _ => U - (intOf i).toNat)
  case atStart => exact ⟨0, _, 0, rfl, by omega, by simp, by omega, HW0, hid (fun j => by rw [atL_rep]; omega), HR0⟩
  case round =>
    clear HW0 HR0
    obtain ⟨t, L, d, rfl, ht, rfl, hd, HL, HN, HR⟩ := hrel
    by_cases hlt : t < U
    · have hlg := HL.out.lt
      go_wp2_with fail
      go_loopw [10] (fun i wr => ∃ (k : Nat), i = .int .i64 k ∧ k ≤ n ∧ Hid (LeftW w wr g n (arrK l t L k))) (fun i _ => n - (intOf i).toNat)
      case atStart => exact ⟨0, rfl, by omega, HL⟩
      case round =>
        obtain ⟨k, rfl, hk, HK⟩ := hrel
        by_cases hlt2 : k < n
        · obtain ⟨b2, o2, eA, hc1, hc2, hc3⟩ := wk_at (WK.out.below HK.out.below).cells (show k < l.length by rw [WK.out.len]; omega)
          injection eA with eA
          injection eA with eb eo
          subst eb; subst eo
          have hok2 := wk_ok WK.out.ok k
          obtain ⟨C2, eC⟩ : ∃ C2, (wk l k).c = C2 := ⟨_, rfl⟩
          obtain ⟨P, eP⟩ : ∃ P, (wk l k).p = P := ⟨_, rfl⟩
          obtain ⟨⟨g1, g2⟩, ⟨g3, g4⟩, _⟩ := hok2
          rw [eC] at g1 g2 hc1
          rw [eP] at g3 g4 hc2
          have hstep : arrK l t L (k + 1) = if ((t : Int) % P == 0) = true then (arrK l t L k).set k (atL (arrK l t L k) k + C2) else arrK l t L k := by rw [arrK, eP, eC]
          have hnow : atL (arrK l t L k) k = atL L k := by
            rw [arrK_at _ _ _ _ _ (by have := HL.out.len; omega), if_neg (by omega)]
          rw [hnow] at hstep
          have hck := HK.out.cell (k := k) (by omega)
          rw [hnow] at hck
          have hfk := HK.out.frozen k
          have hlk := HK.out.lt
          obtain ⟨y, ey⟩ : ∃ y, atL L k = y := ⟨_, rfl⟩
          have hy := HN.out k
          rw [ey] at hstep hck hy
          have e1 : (t : Int).tmod P = (t : Int) % P := Int.tmod_eq_emod_of_nonneg (by omega)
          have e2 : IntKind.i64.wrap (y + C2) = y + C2 := by rw [IntKind.wrap_i64]; omega
          have p0 : ¬ P = 0 := by omega
          have HS := hid hstep
          clear hstep hnow eC eP ey g1 g2 g3 g4 hc3
          rcases beq_cases ((t : Int) % P) 0 with hb | hb
          · have HK2 : Hid (LeftW w ((wr.setCell ⟨g, k, none⟩ (.int .i64 (y + C2))).drew) g n (arrK l t L (k + 1))) := hid (by
              rw [HS.out, if_pos hb]
              exact (HK.out.set k _).drew)
            go_wp2_with fail
            go_region
            go_wp2_with fail
            go_roundw
            case rel => exact ⟨k + 1, by go_num, by omega, HK2⟩
            case measure => simp [intOf]; omega
          · have HK2 : Hid (LeftW w wr g n (arrK l t L (k + 1))) := hid (by
              rw [HS.out, if_neg (by rw [hb]; simp)]
              exact HK.out)
            go_wp2_with fail
            go_roundw
            case rel => exact ⟨k + 1, by go_num, by omega, HK2⟩
            case measure => simp [intOf]; omega
        · obtain rfl : k = n := by omega
          have hMl := HK.out.len
          have hMn : ∀ j, 0 ≤ atL (arrK l t L k) j ∧ atL (arrK l t L k) j ≤ 100 * (t + 1) := by
            intro j
            have h1 := (wk_ok WK.out.ok j).1
            have h2 := HN.out j
            rw [arrK_at _ _ _ _ _ (by have := HL.out.len; omega)]
            split <;> omega
          have hR := HR.out
          rw [show U - t = (U - (t + 1)) + 1 by omega, simD] at hR
          generalize arrK l t L k = M at HK hMl hMn hR
          have HR2 := hid hR
          have HMN := hid hMn
          have HML := hid hMl
          have et : ((t + 1 : Nat) : Int) = (t : Int) + 1 := by omega
          have ET := hid et
          clear et
          clear HL HN HR hR hMn hMl
          go_wp2_with fail
          go_loopw [8, 11] (fun v i wr => ∃ (j : Nat), i = .int .i64 j ∧ j ≤ k ∧ v = .int .i64 (C - d) ∧ Hid (LeftW w wr g k M) ∧ Hid (∀ i, i < j → atL M i ≤ 0)) (fun _ i _ => k - (intOf i).toNat)
          case atStart => exact ⟨0, rfl, by omega, rfl, HK, hid (fun i h => by omega)⟩
          case round =>
            clear HK
            obtain ⟨p, rfl, hp, rfl, HK, HJ⟩ := hrel
            have hlk := HK.out.lt
            by_cases hlt3 : p < k
            · have hcp := HK.out.cell hlt3
              have hfp := HK.out.frozen p
              obtain ⟨y, ey⟩ : ∃ y, atL M p = y := ⟨_, rfl⟩
              have hy := HMN.out p
              rw [ey] at hcp hy
              have e2 : IntKind.i64.wrap (y - 1) = y - 1 := by rw [IntKind.wrap_i64]; omega
              have EY := hid ey
              clear ey
              rcases dec_cases (0 < y) with hpos | hpos
              · have hpos' : 0 < y := by simpa using hpos
                have hfpos : fpos M = p := fpos_of (by rw [HML.out]; exact hlt3) (by rw [EY.out]; exact hpos') HJ.out
                have hR := HR2.out
                rw [hfpos, if_pos hlt3, EY.out] at hR
                have HP2 : ∀ j, 0 ≤ atL (M.set p (y - 1)) j ∧ atL (M.set p (y - 1)) j ≤ 100 * (t + 1) := by
                  intro j
                  have := HMN.out j
                  rw [atL_set (by rw [HML.out]; exact hlt3)]
                  split <;> omega
                have HP2 := hid HP2
                have HR3 := hid hR
                clear hfpos hR
                by_cases hpa : p = at'
                · subst hpa
                  have hR := HR3.out
                  rw [if_pos rfl, EC.out] at hR
                  have e3 : IntKind.i64.wrap (C - d - 1) = C - d - 1 := by rw [IntKind.wrap_i64]; omega
                  have e4 : IntKind.i64.wrap ((t : Int) + 1) = (t : Int) + 1 := by rw [IntKind.wrap_i64]; omega
                  clear HR3
                  rcases beq_cases (C - d - 1) 0 with hb | hb
                  · rw [if_pos (by simp at hb; omega)] at hR
                    have HR4 := hid hR
                    clear hR
                    go_wp2
                    go_ret
                    exact Gives.mk (by rw [← HR4.out]; rfl) (HK.out.set p (y - 1)).below
                  · have hneb : C - d - 1 ≠ 0 := by simpa using hb
                    rw [if_neg (by omega)] at hR
                    have HR4 := hid hR
                    clear hR
                    go_wp2_with fail
                    go_roundw
                    case rel => exact ⟨t + 1, M.set p (y - 1), d + 1, by go_num, by omega, congrArg (Value.int .i64) (by omega), by omega, hid (HK.out.set p _), hid (by rw [ET.out]; exact HP2.out), hid (by rw [ET.out]; exact HR4.out)⟩
                    case measure => simp [intOf]; omega
                · have hR := HR3.out
                  rw [if_neg hpa] at hR
                  have HR4 := hid hR
                  have hne0 : ((C - d) == 0) = false := by simp; omega
                  clear HR3 hR
                  go_wp2_with fail
                  go_roundw
                  case rel => exact ⟨t + 1, M.set p (y - 1), d, by go_num, by omega, rfl, hd, hid (HK.out.set p _), hid (by rw [ET.out]; exact HP2.out), hid (by rw [ET.out]; exact HR4.out)⟩
                  case measure => simp [intOf]; omega
              · go_wp2_with fail
                go_roundw
                case rel => exact ⟨p + 1, by go_num, by omega, rfl, HK, hid (fun i hi => by
                  by_cases e : i = p
                  · subst e; rw [EY.out]; simpa using hpos
                  · exact HJ.out i (by omega))⟩
                case measure => simp [intOf]; omega
            · obtain rfl : p = k := by omega
              have hfpos : fpos M = M.length := fpos_none (fun j hj => HJ.out j (by rw [← HML.out]; exact hj))
              have hR := HR2.out
              rw [hfpos, HML.out, if_neg (by omega)] at hR
              have HR4 := hid hR
              have hne0 : ((C - d) == 0) = false := by simp; omega
              clear hR HR2 hfpos
              go_wp2_with fail
              go_roundw
              case rel => exact ⟨t + 1, M, d, by go_num, by omega, rfl, hd, HK, hid (by rw [ET.out]; exact HMN.out), hid (by rw [ET.out]; exact HR4.out)⟩
              case measure => simp [intOf]; omega
    · obtain rfl : t = U := by omega
      have hR := HR.out
      rw [Nat.sub_self, simD] at hR
      have HR2 := hid hR
      clear hR
      go_wp2
      go_ret
      refine Gives.mk (by rw [← HR2.out]; rfl) HL.out.below
end Go.Proofs.Ytjkmakaahghddaa
