/-
  Layer 43: answer times, by the program and by the document. Of works that may be, up to six of them.
-/
import Derived.Test.YtjkmakaahghddaaRtaA
namespace Go.Proofs.Ytjkmakaahghddaa
open Go.RowKit
/-- Works that may be, and where they lie. -/
structure WksW (l : List Wk) (n ca : Nat) (A : Option Addr) (w : World) : Prop where
  len : l.length = n
  six : n ≤ 6
  cap : n ≤ ca
  ok : ∀ x ∈ l, WkOk x
  cells : Cells w A (tab wkV l)
theorem WksW.past {l : List Wk} {n ca : Nat} {A : Option Addr} {w : World} (h : WksW l n ca A w) (x : Past) : WksW l n ca A (w.past x) := ⟨h.len, h.six, h.cap, h.ok, h.cells.past x⟩
theorem WksW.below {l : List Wk} {n ca : Nat} {A : Option Addr} {w w' : World} (h : WksW l n ca A w) (hb : Below w.heap.size w w') : WksW l n ca A w' := ⟨h.len, h.six, h.cap, h.ok, h.cells.below hb⟩
theorem needK_in {l : List Wk} (h : ∀ x ∈ l, WkOk x) {c r : Int} (hc : 0 ≤ c ∧ c ≤ 1100) (hr : 0 ≤ r ∧ r ≤ 10000) {k : Nat} (hk : k ≤ 6) : 0 ≤ needK l c r k ∧ needK l c r k ≤ 7000000 := by
  rw [needK_eq]
  have := hiK_in h hr.1 k
  have h2 : (k : Int) * ((r + 1) * 100) ≤ 6 * ((r + 1) * 100) := Int.mul_le_mul_of_nonneg_right (by omega) (by omega)
  omega
set_option maxHeartbeats 2000000 in
theorem need_any (A : Option Addr) (ca n : Nat) (l : List Wk) (at' : Nat) (B r : Int) (w : World) (hw : WksW l n ca A w) (hat : at' < n) (hB : 0 ≤ B ∧ B ≤ 1000) (hr : 0 ≤ r ∧ r ≤ 10000) :
    Calls Try.prog 26 #[.slice A n ca, .int .i64 at', .int .i64 B, .int .i64 r] w (Gives (.int .i64 (needF l at' B r)) w) := by
  obtain ⟨b1, o1, rfl, hc1, hc2, hc3⟩ := wk_at hw.cells (show at' < l.length by rw [hw.len]; exact hat)
  have hok := wk_ok hw.ok at'
  have hsix := hw.six
  have hcap := hw.cap
  have HW := hid hw
  obtain ⟨c0, ec0⟩ : ∃ c0, (wk l at').c + B = c0 := ⟨_, rfl⟩
  have hc0 : 0 ≤ c0 ∧ c0 ≤ 1100 := by have := hok.1; omega
  have e1 : IntKind.i64.wrap ((wk l at').c + B) = c0 := by rw [ec0, IntKind.wrap_i64]; omega
  have EC0 := hid ec0
  clear hc2 hc3 hok ec0 hw
  go_enter Try.func26, Try.ntmps26
  go_wp2
  go_loopw [9, 23] (fun v i wr => ∃ (k : Nat) (x : Past), i = .int .i64 k ∧ k ≤ at' ∧ wr = w.past x ∧ v = .int .i64 (needK l c0 r k)) (fun _ i _ => at' - (intOf i).toNat)
  case atStart => exact ⟨0, _, rfl, by omega, World.past_refl w, rfl⟩
  case round =>
    clear hc1 e1
    obtain ⟨k, x, rfl, hk, rfl, rfl⟩ := hrel
    by_cases hlt : k < at'
    · obtain ⟨b2, o2, e, hc1, hc2, hc3⟩ := wk_at (HW.out.cells.past x) (show k < l.length by rw [HW.out.len]; omega)
      injection e with e
      injection e with eb eo
      subst eb; subst eo
      have hok := wk_ok HW.out.ok k
      have hcm := came_pos hok hr.1
      have hn1 := needK_in HW.out.ok hc0 hr (show k ≤ 6 by omega)
      obtain ⟨⟨g1, g2⟩, ⟨g3, g4⟩, _⟩ := hok
      obtain ⟨C, eC⟩ : ∃ C, (wk l k).c = C := ⟨_, rfl⟩
      obtain ⟨P, eP⟩ : ∃ P, (wk l k).p = P := ⟨_, rfl⟩
      obtain ⟨D, eD⟩ : ∃ D, (wk l k).d = D := ⟨_, rfl⟩
      have hcame : cameF (wk l k) r = (r + P - 1) / P * C := by unfold cameF; rw [eC, eP]
      have hns : needK l c0 r (k + 1) = needK l c0 r k + cameF (wk l k) r := rfl
      rw [hcame] at hns hcm
      rw [eC] at g1 g2 hc1
      rw [eP] at g3 g4 hc2
      rw [eD] at hc3
      obtain ⟨q, eq⟩ : ∃ q, (r + P - 1) / P = q := ⟨_, rfl⟩
      have hq0 : 0 ≤ q := by rw [← eq]; exact Int.ediv_nonneg (by omega) (by omega)
      have hq1 : q ≤ r + P - 1 := by rw [← eq]; exact Int.ediv_le_self P (by omega)
      rw [eq] at hns hcm
      obtain ⟨m, em⟩ : ∃ m, q * C = m := ⟨_, rfl⟩
      rw [em] at hns hcm
      obtain ⟨v, ev⟩ : ∃ v, needK l c0 r k = v := ⟨_, rfl⟩
      rw [ev] at hns hn1 ⊢
      have f1 : IntKind.i64.wrap (r + P) = r + P := by rw [IntKind.wrap_i64]; omega
      have f2 : IntKind.i64.wrap (r + P - 1) = r + P - 1 := by rw [IntKind.wrap_i64]; omega
      have f3 : IntKind.i64.wrap ((r + P - 1).tdiv P) = q := by rw [Int.tdiv_eq_ediv_of_nonneg (by omega), eq, IntKind.wrap_i64]; omega
      have f4 : IntKind.i64.wrap (q * C) = m := by rw [em, IntKind.wrap_i64]; omega
      have f5 : IntKind.i64.wrap (v + m) = v + m := by rw [IntKind.wrap_i64]; omega
      have p0 : ¬ P = 0 := by omega
      have HNS := hid hns
      clear hns hcm hn1 hcame eC eP eD eq em ev hq0 hq1 g1 g2 g3 g4
      go_wp2_with fail
      refine wp_region_past (by kernel_rfl) (by kernel_rfl) ?_
      repeat (go_big_quiet_step ((fail)))
      refine wpQuiet_nil ?_
      rintro _ ⟨_, rfl⟩
      go_wp2_with fail
      obtain ⟨x2, hx2⟩ := past_of (show Below w.heap.size w (((w.past x).alloc (.cells #[.int .i64 C, .int .i64 P, .int .i64 D] 32)).past _) from RowKit.Below.past (RowKit.Below.alloc' (RowKit.Below.past (Below.refl _ _) x) _) _)
      go_roundw
      case rel => exact ⟨k + 1, x2, by go_num, by omega, hx2, by rw [HNS.out]⟩
      case measure => simp [intOf]; omega
    · obtain rfl : k = at' := by omega
      go_wp2
      go_ret
      refine Gives.mk (by rw [needF, EC0.out]; rfl) ?_
      (repeat (first | exact Below.refl _ _ | refine RowKit.Below.past ?_ _ | refine RowKit.Below.alloc' ?_ _ | refine RowKit.Below.drew' ?_ | refine RowKit.Below.drewN' ?_ _ | refine RowKit.Below.setCell' ?_ (by simp [go_sem]) _))
theorem needF_in {l : List Wk} (h : ∀ x ∈ l, WkOk x) {at' : Nat} {B r : Int} (hat : at' ≤ 6) (hB : 0 ≤ B ∧ B ≤ 1000) (hr : 0 ≤ r ∧ r ≤ 10000) : 0 ≤ needF l at' B r ∧ needF l at' B r ≤ 7000000 := by
  have hok := wk_ok h at'
  have := hok.1
  exact needK_in h (c := (wk l at').c + B) ⟨by omega, by omega⟩ hr hat
theorem needF_ge {l : List Wk} (h : ∀ x ∈ l, WkOk x) (at' : Nat) (B : Int) {r : Int} (hr : 0 ≤ r) : (wk l at').c + B ≤ needF l at' B r := by
  rw [needF_eq]
  have := hiK_in h hr at'
  omega
set_option maxHeartbeats 2000000 in
theorem answer_any (A : Option Addr) (ca n : Nat) (l : List Wk) (at' : Nat) (B : Int) (w : World) (hw : WksW l n ca A w) (hat : at' < n) (hB : 0 ≤ B ∧ B ≤ 1000) :
    Calls Try.prog 16 #[.slice A n ca, .int .i64 at', .int .i64 B] w (Gives (.int .i64 (timeF l at' B)) w) := by
  obtain ⟨b1, o1, rfl, hc1, hc2, hc3⟩ := wk_at hw.cells (show at' < l.length by rw [hw.len]; exact hat)
  have hok := wk_ok hw.ok at'
  have hsix := hw.six
  have HW := hid hw
  obtain ⟨c0, ec0⟩ : ∃ c0, (wk l at').c + B = c0 := ⟨_, rfl⟩
  have hc0 : 1 ≤ c0 ∧ c0 ≤ 1100 := by have := hok.1; omega
  have e1 : IntKind.i64.wrap ((wk l at').c + B) = c0 := by rw [ec0, IntKind.wrap_i64]; omega
  have EC0 := hid ec0
  clear hc2 hc3 hok ec0 hw
  go_enter Try.func16, Try.ntmps16
  go_wp2
  go_loopw [7] (fun v wr => ∃ (r : Int) (x : Past), v = .int .i64 r ∧ c0 ≤ r ∧ r ≤ 7000000 ∧ wr = w.past x ∧ Hid (r ≤ needF l at' B r) ∧ Hid (∀ y, c0 ≤ y → y < r → needF l at' B y ≠ y)) (fun v _ => (10001 - intOf v).toNat)
  case atStart =>
    refine ⟨c0, _, rfl, by omega, by omega, World.past_refl w, hid ?_, hid (fun y h1 h2 => by omega)⟩
    have := needF_ge HW.out.ok at' B (show 0 ≤ c0 by omega)
    rw [EC0.out] at this
    exact this
  case round =>
    clear hc1 e1
    obtain ⟨r, x, rfl, hr0, hr1, rfl, HN, HJ⟩ := hrel
    by_cases hfar : r ≤ 10000
    · obtain ⟨N, eN⟩ : ∃ N, needF l at' B r = N := ⟨_, rfl⟩
      have hq := need_any _ ca n l at' B r (w.past x) (HW.out.past x) hat hB ⟨by omega, hfar⟩
      have hin := needF_in HW.out.ok (show at' ≤ 6 by omega) hB (show 0 ≤ r ∧ r ≤ 10000 by omega)
      have hle := HN.out
      rw [eN] at hq hin hle
      have HQ := hid hq
      have EN := hid eN
      clear hq eN
      rcases beq_cases N r with h | h
      · have h' : N = r := by simpa using h
        have hv : timeF l at' B = r := by
          unfold timeF
          rw [EC0.out]
          exact search_at _ _ _ _ hr0 (by omega) (by rw [EN.out, h']) HJ.out
        have HV := hid hv
        clear hv h'
        go_wp2_with fail
        refine HQ.out.mono ?_
        rintro _ _ ⟨rfl, _, rfl⟩
        go_wp2
        go_ret
        refine Gives.mk (by rw [HV.out]; rfl) ?_
        (repeat (first | exact Below.refl _ _ | refine RowKit.Below.past ?_ _ | refine RowKit.Below.alloc' ?_ _ | refine RowKit.Below.drew' ?_ | refine RowKit.Below.drewN' ?_ _ | refine RowKit.Below.setCell' ?_ (by simp [go_sem]) _))
      · have h' : N ≠ r := by simpa using h
        go_wp2_with fail
        refine HQ.out.mono ?_
        rintro _ _ ⟨rfl, x2, rfl⟩
        go_wp2_with fail
        have hm := needF_mono HW.out.ok at' B hle
        rw [EN.out] at hm
        go_roundw
        case rel =>
          refine ⟨N, _, rfl, by omega, by omega, rfl, hid hm, hid (fun y h1 h2 => ?_)⟩
          by_cases hy : y < r
          · exact HJ.out y h1 hy
          · have := needF_mono HW.out.ok at' B (show r ≤ y by omega)
            rw [EN.out] at this
            omega
        case measure => simp [intOf]; omega
    · have hv : timeF l at' B = -1 := by
        unfold timeF
        rw [EC0.out]
        exact search_none _ _ _ (fun y h1 h2 => HJ.out y h1 (by omega))
      have HV := hid hv
      clear hv
      go_wp2
      go_ret
      refine Gives.mk (by rw [HV.out]; rfl) ?_
      exact RowKit.Below.past (Below.refl _ _) _
def clampF (n lo hi : Int) : Int := if n < lo then lo else if hi < n then hi else n
set_option maxHeartbeats 400000 in
theorem Bring43_any (n lo hi : Int) (w : World) :
    Calls Try.prog 22 #[.int .i64 n, .int .i64 lo, .int .i64 hi] w (Gives (.int .i64 (clampF n lo hi)) w) := by
  rcases dec_cases (n < lo) with h | h
  · go_enter Try.func22, Try.ntmps22
    go_wp2
    go_ret
    exact Gives.refl (by simp at h; simp [clampF, h])
  · rcases dec_cases (hi < n) with h2 | h2
    all_goals
      go_enter Try.func22, Try.ntmps22
      go_wp2
      go_ret
      exact Gives.refl (by simp at h h2; simp [clampF, Int.not_lt.2 h, h2]; try omega)
set_option maxHeartbeats 4000000 in
theorem RTime_any (A : Option Addr) (ca n : Nat) (l : List Wk) (at' : Nat) (block : Int) (w : World) (hw : WksW l n ca A w) (hat : at' < n) :
    Calls Try.prog 14 #[.slice A n ca, .int .i64 at', .int .i64 block] w (Gives (.int .i64 (timeF l at' (clampF block 0 1000))) w) := by
  obtain ⟨b1, o1, rfl, hc1, hc2, hc3⟩ := wk_at hw.cells (show at' < l.length by rw [hw.len]; exact hat)
  obtain ⟨B, eB⟩ : ∃ B, clampF block 0 1000 = B := ⟨_, rfl⟩
  have hB : 0 ≤ B ∧ B ≤ 1000 := by rw [← eB]; unfold clampF; split <;> (try split) <;> omega
  have hbr := fun w' => Bring43_any block 0 1000 w'
  rw [eB] at hbr ⊢
  have HBR := hid hbr
  have hok := wk_ok hw.ok at'
  have hsix := hw.six
  have HW := hid hw
  obtain ⟨c0, ec0⟩ : ∃ c0, (wk l at').c + B = c0 := ⟨_, rfl⟩
  have hc0 : 1 ≤ c0 ∧ c0 ≤ 1100 := by have := hok.1; omega
  have e1 : IntKind.i64.wrap ((wk l at').c + B) = c0 := by rw [ec0, IntKind.wrap_i64]; omega
  have EC0 := hid ec0
  clear hc2 hc3 hok ec0 hw hbr eB
  go_enter Try.func14, Try.ntmps14
  go_wp2_with ((go_at_call 22; refine (HBR.out _).mono ?_; rintro _ _ ⟨rfl, _, rfl⟩))
  go_loopw [7] (fun v wr => ∃ (r : Int) (x : Past), v = .int .i64 r ∧ c0 ≤ r ∧ r ≤ 10001 ∧ wr = w.past x ∧ Hid (∀ y, c0 ≤ y → y < r → needF l at' B y ≠ y)) (fun v _ => (10001 - intOf v).toNat)
  case atStart => exact ⟨c0, _, rfl, by omega, by omega, rfl, hid (fun y h1 h2 => by omega)⟩
  case round =>
    obtain ⟨r, x, rfl, hr0, hr1, rfl, HJ⟩ := hrel
    by_cases hfar : r ≤ 10000
    · go_wp2_with fail
      go_loopw [8, 9] (fun v i wr => ∃ (k : Nat) (y : Past), i = .int .i64 k ∧ k ≤ at' ∧ wr = w.past y ∧ v = .int .i64 (needK l c0 r k)) (fun _ i _ => at' - (intOf i).toNat)
      case atStart => exact ⟨0, _, rfl, by omega, rfl, rfl⟩
      case round =>
        clear hc1 e1
        obtain ⟨k, x', rfl, hk, rfl, rfl⟩ := hrel
        by_cases hlt : k < at'
        · obtain ⟨b2, o2, e, hc1, hc2, hc3⟩ := wk_at HW.out.cells (show k < l.length by rw [HW.out.len]; omega)
          injection e with e
          injection e with eb eo
          subst eb; subst eo
          have hok := wk_ok HW.out.ok k
          have hr : 0 ≤ r ∧ r ≤ 10000 := ⟨by omega, hfar⟩
          have hcm := came_pos hok hr.1
          have hn1 := needK_in HW.out.ok (show 0 ≤ c0 ∧ c0 ≤ 1100 by omega) hr (show k ≤ 6 by omega)
          obtain ⟨⟨g1, g2⟩, ⟨g3, g4⟩, _⟩ := hok
          obtain ⟨C, eC⟩ : ∃ C, (wk l k).c = C := ⟨_, rfl⟩
          obtain ⟨P, eP⟩ : ∃ P, (wk l k).p = P := ⟨_, rfl⟩
          obtain ⟨D, eD⟩ : ∃ D, (wk l k).d = D := ⟨_, rfl⟩
          have hcame : cameF (wk l k) r = (r + P - 1) / P * C := by unfold cameF; rw [eC, eP]
          have hns : needK l c0 r (k + 1) = needK l c0 r k + cameF (wk l k) r := rfl
          rw [hcame] at hns hcm
          rw [eC] at g1 g2 hc1
          rw [eP] at g3 g4 hc2
          rw [eD] at hc3
          obtain ⟨q, eq⟩ : ∃ q, (r + P - 1) / P = q := ⟨_, rfl⟩
          have hq0 : 0 ≤ q := by rw [← eq]; exact Int.ediv_nonneg (by omega) (by omega)
          have hq1 : q ≤ r + P - 1 := by rw [← eq]; exact Int.ediv_le_self P (by omega)
          rw [eq] at hns hcm
          obtain ⟨m, em⟩ : ∃ m, q * C = m := ⟨_, rfl⟩
          rw [em] at hns hcm
          obtain ⟨v, ev⟩ : ∃ v, needK l c0 r k = v := ⟨_, rfl⟩
          rw [ev] at hns hn1 ⊢
          have f1 : IntKind.i64.wrap (r + P) = r + P := by rw [IntKind.wrap_i64]; omega
          have f2 : IntKind.i64.wrap (r + P - 1) = r + P - 1 := by rw [IntKind.wrap_i64]; omega
          have f3 : IntKind.i64.wrap ((r + P - 1).tdiv P) = q := by rw [Int.tdiv_eq_ediv_of_nonneg (by omega), eq, IntKind.wrap_i64]; omega
          have f4 : IntKind.i64.wrap (q * C) = m := by rw [em, IntKind.wrap_i64]; omega
          have f5 : IntKind.i64.wrap (v + m) = v + m := by rw [IntKind.wrap_i64]; omega
          have p0 : ¬ P = 0 := by omega
          have HNS := hid hns
          clear hns hcm hn1 hcame eC eP eD eq em ev hq0 hq1 g1 g2 g3 g4
          go_wp2_with fail
          refine wp_region_past (by kernel_rfl) (by kernel_rfl) ?_
          repeat (go_big_quiet_step ((fail)))
          refine wpQuiet_nil ?_
          rintro _ ⟨_, rfl⟩
          go_wp2_with fail
          go_roundw
          case rel => exact ⟨k + 1, _, by go_num, by omega, rfl, by rw [HNS.out]⟩
          case measure => simp [intOf]; omega
        · obtain rfl : k = at' := by omega
          obtain ⟨N, eN⟩ : ∃ N, needF l k B r = N := ⟨_, rfl⟩
          have hN : needK l c0 r k = N := by rw [← eN, needF, EC0.out]
          rw [hN]
          have EN := hid eN
          clear hN eN
          rcases beq_cases N r with h | h
          · have h' : N = r := by simpa using h
            have hv : timeF l k B = r := by
              unfold timeF
              rw [EC0.out]
              exact search_at _ _ _ _ hr0 (by omega) (by rw [EN.out, h']) HJ.out
            have HV := hid hv
            clear hv h'
            go_wp2
            go_ret
            refine Gives.mk (by rw [HV.out]; rfl) ?_
            exact RowKit.Below.past (Below.refl _ _) _
          · have h' : N ≠ r := by simpa using h
            have H' := hid h'
            clear h'
            go_wp2_with fail
            go_roundw
            case rel =>
              refine ⟨r + 1, _, by go_num, by omega, by omega, rfl, hid (fun y h1 h2 => ?_)⟩
              by_cases hy : y < r
              · exact HJ.out y h1 hy
              · obtain rfl : y = r := by omega
                rw [EN.out]; exact H'.out
            case measure => simp [intOf]; omega
    · have hv : timeF l at' B = -1 := by
        unfold timeF
        rw [EC0.out]
        exact search_none _ _ _ (fun y h1 h2 => HJ.out y h1 (by omega))
      have HV := hid hv
      clear hv
      go_wp2
      go_ret
      refine Gives.mk (by rw [HV.out]; rfl) ?_
      exact RowKit.Below.past (Below.refl _ _) _
end Go.Proofs.Ytjkmakaahghddaa
