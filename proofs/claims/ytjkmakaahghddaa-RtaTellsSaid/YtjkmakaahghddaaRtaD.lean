/-
  Layer 43: when one is done by levels, by the program and by the document. No condition but that they are ints.
-/
import Derived.Test.YtjkmakaahghddaaRtaC
import Derived.Test.YtjkmakaahghddaaRtaE
import Derived.Deep.CutRange
namespace Go.Proofs.Ytjkmakaahghddaa
open Go.RowKit
theorem pos_any (x : Int) (w : World) : Calls Try.prog 21 #[.int .i64 x] w (Gives (.bool (decide (0 < x))) w) := by
  go_enter Try.func21, Try.ntmps21
  go_wp2
  go_ret
  exact Gives.refl rfl
def idxF (L : List Int) : Int := if fpos L < L.length then (fpos L : Int) else -1
set_option maxHeartbeats 1000000 in
theorem indexPos_any (A : Option Addr) (ca n : Nat) (L : List Int) (en : L.length = n) (hn : n ≤ 1000000) (w : World) (ha : Cells w A (i64s L)) :
    Calls Try.prog 20 #[.slice A n ca, .func (.func 21) #[] #[]] w (Gives (.int .i64 (idxF L)) w) := by
  have EN := hid en
  have HA := hid ha
  clear en ha
  go_enter Try.func20, Try.ntmps20
  go_wp2
  go_loopw [8] (fun i wr => ∃ (k : Nat) (x : Past), i = .int .i64 k ∧ k ≤ n ∧ wr = w.past x ∧ Hid (∀ j, j < k → atL L j ≤ 0)) (fun i _ => n - (intOf i).toNat)
  case atStart => exact ⟨0, _, rfl, by omega, World.past_refl w, hid (fun j h => by omega)⟩
  case round =>
    obtain ⟨k, x, rfl, hk, rfl, HJ⟩ := hrel
    by_cases hlt : k < n
    · obtain ⟨b1, o1, rfl, hc1⟩ := i64_at HA.out (show k < L.length by rw [EN.out]; exact hlt)
      obtain ⟨y, hy⟩ : ∃ y, atL L k = y := ⟨_, rfl⟩
      rw [hy] at hc1
      have HY := hid hy
      clear hy
      rcases dec_cases (0 < y) with h | h
      · have hf : idxF L = k := by
          have hp : fpos L = k := fpos_of (by rw [EN.out]; exact hlt) (by rw [HY.out]; simpa using h) HJ.out
          unfold idxF
          rw [hp, EN.out, if_pos hlt]
        have HF := hid hf
        clear hf
        go_wp2_with (go_at_call 21; refine (pos_any _ _).mono ?_; rintro _ _ ⟨rfl, _, rfl⟩)
        go_ret
        refine Gives.mk (by rw [HF.out]; rfl) ?_
        (repeat (first | exact Below.refl _ _ | refine RowKit.Below.past ?_ _ | refine RowKit.Below.alloc' ?_ _ | refine RowKit.Below.drew' ?_ | refine RowKit.Below.drewN' ?_ _ | refine RowKit.Below.setCell' ?_ (by simp [go_sem]) _))
      · go_wp2_with (go_at_call 21; refine (pos_any _ _).mono ?_; rintro _ _ ⟨rfl, _, rfl⟩)
        go_roundw
        case rel => exact ⟨k + 1, _, by go_num, by omega, rfl, hid (fun j hj => by
          by_cases e : j = k
          · subst e; rw [HY.out]; simpa using h
          · exact HJ.out j (by omega))⟩
        case measure => simp [intOf]; omega
    · obtain rfl : k = n := by omega
      have hf : idxF L = -1 := by
        have hp : fpos L = L.length := fpos_none (fun j hj => HJ.out j (by rw [← EN.out]; exact hj))
        unfold idxF
        rw [hp, if_neg (by omega)]
      have HF := hid hf
      clear hf
      go_wp2
      go_ret
      refine Gives.mk (by rw [HF.out]; rfl) ?_
      (repeat (first | exact Below.refl _ _ | refine RowKit.Below.past ?_ _ | refine RowKit.Below.alloc' ?_ _ | refine RowKit.Below.drew' ?_ | refine RowKit.Below.drewN' ?_ _ | refine RowKit.Below.setCell' ?_ (by simp [go_sem]) _))
/-- The row of what is left, in a block of the call's own. -/
structure LeftW (w wr : World) (g m : Nat) (L : List Int) : Prop where
  below : Below w.heap.size w wr
  own : wr.ownsRow w.heap.size 3 1 (.slice (some ⟨g, 0, none⟩) m m) m (i64s L)
theorem LeftW.past {w wr : World} {g m : Nat} {L : List Int} (h : LeftW w wr g m L) (x : Past) : LeftW w (wr.past x) g m L := ⟨RowKit.Below.past h.below x, own_past h.own x⟩
theorem LeftW.alloc {w wr : World} {g m : Nat} {L : List Int} (h : LeftW w wr g m L) (o : Obj) : LeftW w (wr.alloc o) g m L := ⟨RowKit.Below.alloc' h.below o, h.own.alloc o⟩
theorem LeftW.drew {w wr : World} {g m : Nat} {L : List Int} (h : LeftW w wr g m L) : LeftW w wr.drew g m L := ⟨h.below.drew, h.own.drew⟩
theorem LeftW.len {w wr : World} {g m : Nat} {L : List Int} (h : LeftW w wr g m L) : L.length = m := by have := h.own.1; simpa [i64s] using this
theorem LeftW.lt {w wr : World} {g m : Nat} {L : List Int} (h : LeftW w wr g m L) : w.heap.size ≤ g ∧ g < wr.heap.size := h.own.lt g rfl
theorem LeftW.cell {w wr : World} {g m : Nat} {L : List Int} (h : LeftW w wr g m L) {k : Nat} (hk : k < m) : wr.cell? ⟨g, k, none⟩ = some (.int .i64 (atL L k)) := by
  rw [h.own.cellAt k (by omega)]
  have := h.len
  simp [i64s, atL, show k < L.length by omega]
theorem LeftW.frozen {w wr : World} {g m : Nat} {L : List Int} (h : LeftW w wr g m L) (k : Nat) : wr.frozen? ⟨g, k, none⟩ = false := h.own.frozenAt k
theorem LeftW.set {w wr : World} {g m : Nat} {L : List Int} (h : LeftW w wr g m L) (k : Nat) (x : Int) : LeftW w (wr.setCell ⟨g, k, none⟩ (.int .i64 x)) g m (L.set k x) := by
  refine ⟨h.below.setCell (p := ⟨g, k, none⟩) h.lt.1 _, ?_⟩
  have := (h.own.stored k (.int .i64 x)).1
  have e : i64s (L.set k x) = (i64s L).set k (.int .i64 x) := by simp [i64s, List.map_set]
  rw [e]
  exact this
def DoneAll (l : List Wk) (at' until' : Int) : Int := if (mayF l = true ∧ 0 ≤ at' ∧ at' < l.length) then doneF l at'.toNat (clampF until' 0 10000).toNat else -1
set_option maxHeartbeats 4000000 in
theorem Done_ok (A : Option Addr) (ca n : Nat) (l : List Wk) (at' : Nat) (until' : Int) (U : Nat) (hU : (U : Int) = clampF until' 0 10000) (w : World) (hw : LsW l n ca A w) (hm : mayF l = true) (hat : at' < n) :
    Calls Try.prog 9 #[.slice A n ca, .int .i64 at', .int .i64 until'] w (Gives (.int .i64 (doneF l at' U)) w) := by
  obtain ⟨i0, hi, hz0, hz1, hz2⟩ := info_parts info_i64
  have hM := hw.may
  rw [hm] at hM
  have HM := hid hM
  have WK := hid (hw.wks hm)
  have h6 := WK.out.six
  have hU1 : U ≤ 10000 := by unfold clampF at hU; split at hU <;> (try split at hU) <;> omega
  have HU := hid hU
  have a1 : IntKind.i64.wrap ((at' : Int) + 1) = ((at' + 1 : Nat) : Int) := by rw [IntKind.wrap_i64]; omega
  clear hM hw hm hU
  obtain ⟨R, eR⟩ : ∃ R, doneF l at' U = R := ⟨_, rfl⟩
  rw [eR]
  have HR0 : Hid (simD l (at' + 1) at' (U - 0) 0 (List.replicate (at' + 1) 0) 0 = R) := hid eR
  clear eR
  go_enter Try.func9, Try.ntmps9
  go_upto_region 5 with (first | (go_at_call 15; refine HM.out.mono ?_; rintro _ _ ⟨rfl, x0, rfl⟩) | (at_make; refine wpList_make_full _ rfl (.tmp 27) (.tmp 27) 25 rfl w.heap.size 3 i0 (.int .i64 0) 1 Try.underlying25 hi hz0 hz1 .i64 .i64 _ _ (at' + 1) rfl rfl (by go_num) (by go_num) ?_ ?_ ?_ ?_; (· rw [hz2]; omega); (· unfold maxLen; omega); (· simp [go_sem]); intro w2 hrow hg2))
  obtain ⟨g, hg⟩ : ∃ g, g = (w.past x0).heap.size := ⟨_, rfl⟩
  have hg' : w.heap.size + x0.more = g := by rw [hg]; simp [go_sem]
  rw [hg']
  rw [← hg] at hrow
  have HW0 : Hid (LeftW w w2 g (at' + 1) (List.replicate (at' + 1) 0)) := hid (by
    refine ⟨(RowKit.Below.past (Below.refl _ w) x0).grown hg2 (by simp [go_sem]) (fun _ h => by cases h), ?_⟩
    simpa [i64s, toList_madeCells_one, Value.cells] using hrow)
  clear hrow hg2 hg hg'
  go_cut [31, 32] from 29 to 83 (fun v i wx => v = .int .i64 (U : Int) ∧ i = .int .i64 0 ∧ w2 = wx)
  case first =>
    go_wp2_with fail
    all_goals
      go_meet
      case rel => exact ⟨congrArg (Value.int .i64) (by have := HU.out; unfold clampF at this; split at this <;> (try split at this) <;> omega), rfl, rfl⟩
  case rest =>
    obtain ⟨rfl, rfl, rfl⟩ := hcut
    go_wp2_with fail
    go_loopw [8, 32] (fun v i wr => ∃ (t : Nat) (L : List Int) (d : Int), i = .int .i64 t ∧ t ≤ U ∧ v = .int .i64 d ∧ (0 ≤ d ∧ d ≤ 100) ∧ Hid (d < (wk l at').c) ∧ Hid (LeftW w wr g (at' + 1) L) ∧ Hid (∀ j, 0 ≤ atL L j ∧ atL L j ≤ 100 * t) ∧ Hid (simD l (at' + 1) at' (U - t) t L d = R)) (fun _ i _ => U - (intOf i).toNat)
    case atStart => exact ⟨0, _, 0, rfl, by omega, rfl, by omega, hid (by have := (wk_ok WK.out.ok at').1; omega), HW0, hid (fun j => by rw [atL_rep]; omega), HR0⟩
    case round =>
      clear HW0 HR0
      obtain ⟨t, L, d, rfl, ht, rfl, hd, HDC, HL, HN, HR⟩ := hrel
      by_cases hlt : t < U
      · have hlg := HL.out.lt
        obtain ⟨b1, o1, eA, hq1, hq2, hq3⟩ := wk_at (WK.out.below HL.out.below).cells (show at' < l.length by rw [WK.out.len]; exact hat)
        have hcap := WK.out.cap
        clear hq1 hq2 hq3
        subst eA
        go_wp2_with fail
        go_loopw [40] (fun i wr => ∃ (k : Nat), i = .int .i64 k ∧ k ≤ at' + 1 ∧ Hid (LeftW w wr g (at' + 1) (arrK l t L k))) (fun i _ => at' + 1 - (intOf i).toNat)
        case atStart => exact ⟨0, rfl, by omega, HL⟩
        case round =>
          obtain ⟨k, rfl, hk, HK⟩ := hrel
          by_cases hlt2 : k < at' + 1
          · obtain ⟨b2, o2, eA, hc1, hc2, hc3⟩ := wk_at (WK.out.below HK.out.below).cells (show k < l.length by rw [WK.out.len]; omega)
            injection eA with eA
            injection eA with eb eo
            subst eb; subst eo
            have hok := wk_ok WK.out.ok k
            obtain ⟨C, eC⟩ : ∃ C, (wk l k).c = C := ⟨_, rfl⟩
            obtain ⟨P, eP⟩ : ∃ P, (wk l k).p = P := ⟨_, rfl⟩
            obtain ⟨D, eD⟩ : ∃ D, (wk l k).d = D := ⟨_, rfl⟩
            obtain ⟨⟨g1, g2⟩, ⟨g3, g4⟩, _⟩ := hok
            rw [eC] at g1 g2 hc1
            rw [eP] at g3 g4 hc2
            rw [eD] at hc3
            have hstep : arrK l t L (k + 1) = if ((t : Int) % P == 0) = true then (arrK l t L k).set k (atL (arrK l t L k) k + C) else arrK l t L k := by rw [arrK, eP, eC]
            have hnow : atL (arrK l t L k) k = atL L k := by
              rw [arrK_at _ _ _ _ _ (by have := HL.out.len; omega), if_neg (by omega)]
            rw [hnow] at hstep
            have hck := HK.out.cell (k := k) (by omega)
            rw [hnow] at hck
            have hfk := HK.out.frozen k
            have hlk := HK.out.lt
            obtain ⟨y, ey⟩ : ∃ y, atL L k = y := ⟨_, rfl⟩
            have hy := HN.out k
            rw [ey] at hstep hck hy
            have e1 : (t : Int).tmod P = (t : Int) % P := Int.tmod_eq_emod_of_nonneg (by omega)
            have e2 : IntKind.i64.wrap (y + C) = y + C := by rw [IntKind.wrap_i64]; omega
            have p0 : ¬ P = 0 := by omega
            have HS := hid hstep
            clear hstep hnow eC eP eD ey g1 g2 g3 g4
            rcases beq_cases ((t : Int) % P) 0 with hb | hb
            · have HK2 : Hid (LeftW w (((wr.setCell ⟨g, k, none⟩ (.int .i64 (y + C))).alloc (.cells #[.int .i64 C, .int .i64 P, .int .i64 D] 32)).drew) g (at' + 1) (arrK l t L (k + 1))) := hid (by
                rw [HS.out, if_pos hb]
                exact ((HK.out.set k _).alloc _).drew)
              go_wp2_with fail
              go_region
              go_wp2_with fail
              go_roundw
              case rel => exact ⟨k + 1, by go_num, by omega, HK2⟩
              case measure => simp [intOf]; omega
            · have HK2 : Hid (LeftW w (wr.alloc (.cells #[.int .i64 C, .int .i64 P, .int .i64 D] 32)) g (at' + 1) (arrK l t L (k + 1))) := hid (by
                rw [HS.out, if_neg (by rw [hb]; simp)]
                exact HK.out.alloc _)
              go_wp2_with fail
              go_roundw
              case rel => exact ⟨k + 1, by go_num, by omega, HK2⟩
              case measure => simp [intOf]; omega
          · obtain rfl : k = at' + 1 := by omega
            have hMl := HK.out.len
            have hMn : ∀ j, 0 ≤ atL (arrK l t L (at' + 1)) j ∧ atL (arrK l t L (at' + 1)) j ≤ 100 * (t + 1) := by
              intro j
              have h1 := (wk_ok WK.out.ok j).1
              have h2 := HN.out j
              rw [arrK_at _ _ _ _ _ (by have := HL.out.len; omega)]
              split <;> omega
            have hR := HR.out
            rw [show U - t = (U - (t + 1)) + 1 by omega, simD] at hR
            generalize arrK l t L (at' + 1) = M at HK hMl hMn hR
            have HR2 := hid hR
            have HMN := hid hMn
            have HML := hid hMl
            have hidx := hid (indexPos_any (some ⟨g, 0, none⟩) (at' + 1) (at' + 1) M HML.out (by omega) wr (Cells.of_own HK.out.own))
            have et : ((t + 1 : Nat) : Int) = (t : Int) + 1 := by omega
            have ET := hid et
            clear et
            have hlk := HK.out.lt
            clear HL HN HR hR hMn hMl
            rcases fpos_spec M with ⟨p1, p2, p3⟩ | ⟨p1, p2⟩
            · obtain ⟨p, ep⟩ : ∃ p, fpos M = p := ⟨_, rfl⟩
              rw [ep] at p1 p2
              rw [HML.out] at p1
              have hif : idxF M = (p : Int) := by unfold idxF; rw [ep, HML.out, if_pos p1]
              rw [hif] at hidx
              have hR := HR2.out
              rw [ep, if_pos p1] at hR
              have hcp := HK.out.cell p1
              have hfp := HK.out.frozen p
              obtain ⟨y, ey⟩ : ∃ y, atL M p = y := ⟨_, rfl⟩
              have hy := HMN.out p
              rw [ey] at hcp p2 hR hy
              have e2 : IntKind.i64.wrap (y - 1) = y - 1 := by rw [IntKind.wrap_i64]; omega
              have HP2 : ∀ j, 0 ≤ atL (M.set p (y - 1)) j ∧ atL (M.set p (y - 1)) j ≤ 100 * (t + 1) := by
                intro j
                have := HMN.out j
                rw [atL_set (by rw [HML.out]; exact p1)]
                split <;> omega
              have HP2 := hid HP2
              have HR3 := hid hR
              clear p3 ep hif hR HR2 ey hy
              by_cases hpa : p = at'
              · subst hpa
                obtain ⟨b2, o2, eA, hc1, hc2, hc3⟩ := wk_at (WK.out.below (HK.out.set p (y - 1)).below).cells (show p < l.length by rw [WK.out.len]; omega)
                injection eA with eA
                injection eA with eb eo
                subst eb; subst eo
                obtain ⟨C, eC⟩ : ∃ C, (wk l p).c = C := ⟨_, rfl⟩
                have hok := (wk_ok WK.out.ok p).1
                have hdc := HDC.out
                rw [eC] at hdc
                have EC := hid eC
                have hR := HR3.out
                rw [if_pos rfl, eC] at hR
                rw [eC] at hok hc1
                have e3 : IntKind.i64.wrap (d + 1) = d + 1 := by rw [IntKind.wrap_i64]; omega
                have e4 : IntKind.i64.wrap ((t : Int) + 1) = (t : Int) + 1 := by rw [IntKind.wrap_i64]; omega
                clear HR3 eC hc2 hc3
                rcases beq_cases (d + 1) C with hb | hb
                · rw [if_pos (by simpa using hb)] at hR
                  have HR4 := hid hR
                  have HB := HK.out.below
                  clear hR
                  go_wp2_with (go_at_call 20; refine hidx.out.mono ?_; rintro _ _ ⟨rfl, x5, rfl⟩)
                  go_ret
                  exact Gives.mk (by rw [← HR4.out]; rfl) (RowKit.Below.past (HK.out.set p (y - 1)).below _)
                · rw [if_neg (by simpa using hb)] at hR
                  have HR4 := hid hR
                  clear hR
                  have hneb : d + 1 ≠ C := by simpa using hb
                  go_wp2_with (go_at_call 20; refine hidx.out.mono ?_; rintro _ _ ⟨rfl, x5, rfl⟩)
                  go_roundw
                  case rel => exact ⟨t + 1, M.set p (y - 1), d + 1, by go_num, by omega, rfl, by omega, hid (by rw [EC.out]; omega), hid ((HK.out.set p _).past _), hid (by rw [ET.out]; exact HP2.out), hid (by rw [ET.out]; exact HR4.out)⟩
                  case measure => simp [intOf]; omega
              · have hR := HR3.out
                rw [if_neg hpa] at hR
                have HR4 := hid hR
                clear HR3 hR
                go_wp2_with (go_at_call 20; refine hidx.out.mono ?_; rintro _ _ ⟨rfl, x5, rfl⟩)
                go_roundw
                case rel => exact ⟨t + 1, M.set p (y - 1), d, by go_num, by omega, rfl, hd, HDC, hid ((HK.out.set p _).past _), hid (by rw [ET.out]; exact HP2.out), hid (by rw [ET.out]; exact HR4.out)⟩
                case measure => simp [intOf]; omega
            · have hif : idxF M = -1 := by unfold idxF; rw [p1, if_neg (by omega)]
              rw [hif] at hidx
              have hR := HR2.out
              rw [p1, HML.out, if_neg (by omega)] at hR
              have HR4 := hid hR
              clear hR HR2 p1 p2 hif
              go_wp2_with (go_at_call 20; refine hidx.out.mono ?_; rintro _ _ ⟨rfl, x5, rfl⟩)
              go_roundw
              case rel => exact ⟨t + 1, M, d, by go_num, by omega, rfl, hd, HDC, hid (HK.out.past _), hid (by rw [ET.out]; exact HMN.out), hid (by rw [ET.out]; exact HR4.out)⟩
              case measure => simp [intOf]; omega
      · obtain rfl : t = U := by omega
        have hR := HR.out
        rw [Nat.sub_self, simD] at hR
        have HR2 := hid hR
        clear hR
        go_wp2
        go_ret
        refine Gives.mk (by rw [← HR2.out]; rfl) HL.out.below
end Go.Proofs.Ytjkmakaahghddaa
