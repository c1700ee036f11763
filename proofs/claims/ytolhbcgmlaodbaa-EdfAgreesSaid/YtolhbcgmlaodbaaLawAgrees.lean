/-
  Layer 42's EdfAgrees: works fit up to some time just if, by the earliest deadline, nothing is missed up to it; each then has had what it needs. No condition.
-/
import Derived.Test.YtolhbcgmlaodbaaEdW
import Derived.Test.YtolhbcgmlaodbaaEdR
import Derived.Test.YtolhbcgmlaodbaaRegSplit
namespace Go.Proofs.Ytolhbcgmlaodbaa
open Go Go.RowKit Go.ChangeShapes Go.WideShapes Go.ChangeAt
/-- What each had of the first ticks. -/
def hadL (o : List Int) (n j : Nat) : List Int := (List.range n).map fun i => exK i (o.take j)
theorem hadL_length (o : List Int) (n j : Nat) : (hadL o n j).length = n := by simp [hadL]
theorem hadL_zero (o : List Int) (n : Nat) : hadL o n 0 = List.replicate n 0 := by
  apply List.ext_getElem
  · simp [hadL]
  · intro i h1 h2
    simp [hadL, exK]
theorem hadL_get (o : List Int) (n j : Nat) {i : Nat} (hi : i < n) : (hadL o n j)[i]? = some (exK i (o.take j)) := by simp [hadL, hi]
theorem ex_snoc (i : Nat) (o : List Int) (x : Int) : exK i (o ++ [x]) = exK i o + if x = (i : Int) then 1 else 0 := by
  unfold exK
  rw [List.countP_append, List.countP_singleton]
  by_cases hx : x = (i : Int)
  · rw [if_pos hx, if_pos (by simpa using hx)]; omega
  · rw [if_neg hx, if_neg (by simpa using hx)]; omega
theorem take_next {o : List Int} {j : Nat} {x : Int} (h : o[j]? = some x) : o.take (j + 1) = o.take j ++ [x] := by
  obtain ⟨hj, rfl⟩ := List.getElem?_eq_some_iff.1 h
  exact List.take_succ_eq_append_getElem hj
theorem hadL_skip {o : List Int} {n j : Nat} {x : Int} (h : o[j]? = some x) (hx : ¬ (0 ≤ x ∧ x < n)) : hadL o n (j + 1) = hadL o n j := by
  unfold hadL
  apply List.map_congr_left
  intro i hi
  rw [take_next h, ex_snoc, if_neg (fun e => hx (by have := List.mem_range.1 hi; omega))]; omega
theorem hadL_set {o : List Int} {n j k : Nat} (h : o[j]? = some (k : Int)) (hk : k < n) : hadL o n (j + 1) = (hadL o n j).set k (exK k (o.take j) + 1) := by
  apply List.ext_getElem?
  intro i
  rw [List.getElem?_set]
  by_cases hi : i < n
  · rw [hadL_get o n _ hi, take_next h, ex_snoc, hadL_length]
    by_cases e : k = i
    · subst e; rw [if_pos rfl, if_pos rfl, if_pos hk]
    · rw [if_neg e, hadL_get o n _ hi, if_neg (by omega)]; simp
  · rw [List.getElem?_eq_none (by rw [hadL_length]; omega), if_neg (by omega), List.getElem?_eq_none (by rw [hadL_length]; omega)]
theorem ex_le (i : Nat) (o : List Int) : 0 ≤ exK i o ∧ exK i o ≤ o.length := by
  unfold exK
  have := List.countP_le_length (p := fun x => x == (i : Int)) (l := o)
  omega
set_option maxRecDepth 100000 in
set_option maxHeartbeats 4000000 in
theorem EdfAgrees_any (A : Option Addr) (ca n : Nat) (l : List Wk) (en : l.length = n) (hn : n ≤ maxLen) (u : Int) (hu : 0 ≤ u ∧ u < 65536) (w : World) (hA : Cells w A (tab wkV l)) :
    Calls Try.prog 4 #[.slice A n ca, .int .u16 u] w (Gives (.bool true) w) := by
  have HAW := hid (awake_any w)
  have HMA := hid (fun x : Past => RMay_any A ca n l en hn (w.past x) (hA.past x))
  have HA := hid hA
  have EN := hid en
  have hcase : mayF l = false ∨ (mayF l = true ∧ 400 < u) ∨ (mayF l = true ∧ ¬ 400 < u) := by
    cases mayF l <;> simp <;> omega
  rcases hcase with h1 | ⟨h1, h2⟩ | ⟨h1, h2⟩
  · rw [h1] at HMA
    clear h1 hA en
    go_enter Try.func4, Try.ntmps4
    go_wp2_with (first | (go_at_call 7; refine HAW.out.mono ?_; rintro _ _ ⟨rfl, x0, rfl⟩) | (go_at_call 12; refine (HMA.out _).mono ?_; rintro _ _ ⟨rfl, x2, rfl⟩))
    go_ret
    exact Gives.mk rfl (by (repeat (first | exact Below.refl _ _ | refine RowKit.Below.past ?_ _ | refine RowKit.Below.alloc' ?_ _ | refine RowKit.Below.drew' ?_ | refine RowKit.Below.drewN' ?_ _ | refine RowKit.Below.setCell' ?_ (by simp [go_sem]) _)))
  · rw [h1] at HMA
    clear h1 hA en
    go_enter Try.func4, Try.ntmps4
    go_wp2_with (first | (go_at_call 7; refine HAW.out.mono ?_; rintro _ _ ⟨rfl, x0, rfl⟩) | (go_at_call 12; refine (HMA.out _).mono ?_; rintro _ _ ⟨rfl, x2, rfl⟩))
    go_ret
    exact Gives.mk rfl (by (repeat (first | exact Below.refl _ _ | refine RowKit.Below.past ?_ _ | refine RowKit.Below.alloc' ?_ _ | refine RowKit.Below.drew' ?_ | refine RowKit.Below.drewN' ?_ _ | refine RowKit.Below.setCell' ?_ (by simp [go_sem]) _)))
  · rw [h1] at HMA
    have HM := hid h1
    obtain ⟨h6, hok⟩ := wks_ok h1
    rw [en] at h6
    have HOK := hid hok
    have h400 : u ≤ 400 := by omega
    have e1 : IntKind.i64.wrap u = u := by rw [IntKind.wrap_i64]; omega
    obtain ⟨U, rfl⟩ := Int.eq_ofNat_of_zero_le hu.1
    have HRU := hid (fun x : Past => Run_any A ca n l en h1 (U : Int) (w.past x) (hA.past x))
    rw [show longE (U : Int) = U by unfold longE; omega] at HRU
    have hag := agrees hok U
    have hwl := who_length l U
    obtain ⟨ms, ems⟩ : ∃ ms, missE l U = ms := ⟨_, rfl⟩
    obtain ⟨f, ef⟩ : ∃ f, fitsN l U = f := ⟨_, rfl⟩
    rw [ems, ef] at hag
    rw [ems] at HRU
    have HAG := hid hag
    have EF := hid ef
    have HWL := hid hwl
    have HI := hid (info_parts info_i64)
    clear h1 hA en hok ef ems hag hwl
    go_enter Try.func4, Try.ntmps4
    go_upto_region 6 with (first | (go_at_call 7; refine HAW.out.mono ?_; rintro _ _ ⟨rfl, x0, rfl⟩) | (go_at_call 12; refine (HMA.out _).mono ?_; clear HMA; rintro _ _ ⟨rfl, x2, rfl⟩) | (go_at_call 8; refine (HRU.out _).mono ?_; rintro _ w2 ⟨R, c, rfl, hb2, ho2⟩))
    have HB2 := hid (show Below w.heap.size w w2 from (w.below_past _).trans (hb2.mono (w.below_past _).size))
    have HO2 := hid ho2
    have HFI := hid (Fits_any A ca n l EN.out HM.out (U : Int) w2 (HA.out.below HB2.out))
    rw [show (farE (U : Int)).toNat = U by unfold farE; omega, EF.out] at HFI
    clear hb2 ho2 HRU HAW
    rcases HAG.out with ⟨rfl, rfl, hnm⟩ | ⟨g1, g2, g3⟩
    · rw [decide_eq_true rfl] at HFI
      have HNM := hid hnm
      clear HAG EF hnm
      go_upto_region 11 with (go_at_call 9; refine HFI.out.mono ?_; rintro _ _ ⟨rfl, x5, rfl⟩)
      obtain ⟨w3, ew3⟩ : ∃ W, W = w2.past x5 := ⟨_, rfl⟩
      have hb3 : Below w2.heap.size w2 w3 := by rw [ew3]; exact w2.below_past _
      rw [← ew3]
      have HO3 := hid (own_below HO2.out hb3 (Nat.le_refl _))
      have HB3 := hid (HB2.out.trans (hb3.mono HB2.out.size))
      obtain ⟨B, eB⟩ : ∃ B, w3.heap.size = B := ⟨_, rfl⟩
      obtain ⟨i0, hi, hz0, hz1, hz2⟩ := HI.out
      clear ew3 hb3 HFI HO2
      go_upto_region 12 with (at_make; refine wpList_make_full _ rfl (.tmp 53) (.tmp 53) 24 rfl w3.heap.size 3 i0 (.int .i64 0) 1 Try.underlying24 hi hz0 hz1 .i64 .i64 _ _ n rfl rfl rfl rfl ?_ ?_ (Nat.le_refl _) ?_; (· rw [hz2]; omega); (· unfold maxLen; omega); intro w4 hrow hg4)
      have HR4 := hid (show w4.ownsRow B 3 1 (.slice (some ⟨B, 0, none⟩) n n) n (i64s (hadL (whoE l U) n 0)) from by
        rw [hadL_zero, ← eB]
        simpa [i64s, toList_madeCells_one, Value.cells] using hrow)
      have HB4 := hid ((Below.refl w3.heap.size w3).grown hg4 (Nat.le_refl _) (fun _ h => by cases h))
      rw [eB] at HB4
      have HEB := hid eB
      clear hrow hg4 eB hi hz0 hz1 hz2
      go_wp2_with fail
      go_loopw [11, 57] (fun _ v wr => ∃ j : Nat, v = .int .i64 (j : Int) ∧ j ≤ U ∧ Hid (wr.ownsRow B 3 1 (.slice (some ⟨B, 0, none⟩) n n) n (i64s (hadL (whoE l U) n j))) ∧ Hid (Below B w3 wr)) (fun _ v _ => U - (intOf v).toNat)
      case atStart => exact ⟨0, rfl, Nat.zero_le _, HR4, HB4⟩
      case round =>
        clear HR4 HB4
        obtain ⟨j, rfl, hj, HR, HB⟩ := hrel
        by_cases hlt : j < U
        · obtain ⟨x, hx⟩ : ∃ x, (whoE l U)[j]? = some x := ⟨_, List.getElem?_eq_getElem (by rw [HWL.out]; exact hlt)⟩
          have hbw : Below w3.heap.size w3 wr := by rw [HEB.out]; exact HB.out
          obtain ⟨gr, orr, rfl, cx⟩ := i64_at (Cells.of_own (own_below HO3.out hbw (Nat.le_refl _))) (k := j) (by rw [HWL.out]; exact hlt)
          rw [show atL (whoE l U) j = x by unfold atL; rw [hx]; rfl] at cx
          have HX := hid hx
          have HBN := hid HB.out
          clear hx hbw
          by_cases hin : 0 ≤ x ∧ x < n
          · obtain ⟨k, rfl⟩ := Int.eq_ofNat_of_zero_le hin.1
            have hkn : k < n := by omega
            have hg := hadL_get (whoE l U) n j hkn
            have HST := hid (HR.out.stored k (.int .i64 (exK k ((whoE l U).take j) + 1)))
            have ck := HR.out.cellAt k (by omega)
            rw [show (i64s (hadL (whoE l U) n j))[k]? = some (.int .i64 (exK k ((whoE l U).take j))) by simp [i64s, hg]] at ck
            have fk := HR.out.frozenAt k
            have lk := (HR.out.lt B rfl).2
            have HHS := hid (show i64s (hadL (whoE l U) n (j + 1)) = (i64s (hadL (whoE l U) n j)).set k (.int .i64 (exK k ((whoE l U).take j) + 1)) by
              rw [hadL_set HX.out hkn]; simp [i64s, List.map_set])
            have hex := ex_le k ((whoE l U).take j)
            rw [List.length_take, HWL.out, Nat.min_eq_left (by omega)] at hex
            obtain ⟨e, ee⟩ : ∃ e, exK k ((whoE l U).take j) = e := ⟨_, rfl⟩
            rw [ee] at HST ck HHS hex
            have e2 : IntKind.i64.wrap (e + 1) = e + 1 := by rw [IntKind.wrap_i64]; omega
            have hin2 : (k : Int) < n := by omega
            have HBK := hid (HB.out.setCell (p := ⟨B, k, none⟩) (Nat.le_refl _) (.int .i64 (e + 1)))
            clear ee hg hin
            go_wp2_with fail
            exact ⟨⟨j + 1, by go_num, by omega, hid (by rw [HHS.out]; exact HST.out.1), HBK⟩, by simp [intOf]; omega⟩
          · have HHS := hid (hadL_skip HX.out hin)
            have hor : x < 0 ∨ (¬ x < 0 ∧ ¬ x < n) := by omega
            clear hin
            rcases hor with h | ⟨h, h'⟩
            all_goals
              go_wp2_with fail
              exact ⟨⟨j + 1, by go_num, by omega, hid (by rw [HHS.out]; exact HR.out), HB⟩, by simp [intOf]; omega⟩
        · obtain rfl : j = U := by omega
          have HR5 := hid HR.out
          have HB5 := hid HB.out
          obtain ⟨V, eV⟩ : ∃ V, V = wr := ⟨_, rfl⟩
          rw [← eV] at HR5 HB5
          have HW5 := hid (HB3.out.trans ((show Below w3.heap.size w3 V from by rw [HEB.out]; exact HB5.out).mono HB3.out.size))
          have HBV := hid (show Below V.heap.size V wr from by rw [eV]; exact Below.refl _ _)
          clear HR HB hlt hj eV
          go_wp2_with fail
          go_loopw [12, 13, 14, 78] (fun _ _ _ v wx => ∃ i : Nat, v = .int .i64 (i : Int) ∧ i ≤ n ∧ Hid (Below V.heap.size V wx)) (fun _ _ _ v _ => n - (intOf v).toNat)
          case atStart => exact ⟨0, rfl, Nat.zero_le _, HBV⟩
          case round =>
            clear HBV
            obtain ⟨i, rfl, hi, HBX⟩ := hrel
            by_cases hin : i < n
            · obtain ⟨gA, oA, rfl, c0, c1, c2⟩ := wk_at (HA.out.below (HW5.out.trans (HBX.out.mono HW5.out.size))) (k := i) (by rw [EN.out]; exact hin)
              have hxk := wk_ok HOK.out i
              have hneed := had_need HOK.out HNM.out (i := i) (by rw [EN.out]; exact hin)
              have HRX := hid (own_below HR5.out HBX.out (Nat.le_refl _))
              have ck := HRX.out.cellAt i (by omega)
              have hg := hadL_get (whoE l j) n j hin
              rw [show (i64s (hadL (whoE l j) n j))[i]? = some (.int .i64 (exK i ((whoE l j).take j))) by simp [i64s, hg], List.take_of_length_le (by rw [HWL.out]; exact Nat.le_refl _)] at ck
              have lk := (HRX.out.lt B rfl).2
              have hex := ex_le i (whoE l j)
              obtain ⟨y, ey⟩ : ∃ y, wk l i = y := ⟨_, rfl⟩
              rw [ey] at c0 c1 c2 hxk hneed
              obtain ⟨c', p, d⟩ := y
              simp only at c0 c1 c2
              have hd : 1 ≤ d ∧ d ≤ 1000 := hxk.2.2
              have hp : 1 ≤ p ∧ p ≤ 1000 := hxk.2.1
              have hc : 1 ≤ c' ∧ c' ≤ 100 := hxk.1
              have hzp : ¬ p = 0 := by omega
              obtain ⟨e, ee⟩ : ∃ e, exK i (whoE l j) = e := ⟨_, rfl⟩
              rw [ee] at ck hneed hex
              have e3 : IntKind.i64.wrap ((j : Int) - d) = (j : Int) - d := by rw [IntKind.wrap_i64]; omega
              obtain ⟨w5, ew5⟩ : ∃ w5, w5 = wr.alloc (.cells #[.int .i64 c', .int .i64 p, .int .i64 d] 37) := ⟨_, rfl⟩
              have hb5 : Below wr.heap.size wr w5 := by rw [ew5]; exact (Below.refl _ wr).alloc (Nat.le_refl _) _
              obtain ⟨K, eK⟩ : ∃ K, wr.heap.size = K := ⟨_, rfl⟩
              have hrK : Rec w5 K 37 #[.int .i64 c', .int .i64 p, .int .i64 d] := by rw [ew5, ← eK]; exact Rec.new wr _ _
              have HRK := hid hrK
              have EW5 := hid ew5
              have ck5 := below_cell hb5 (Nat.le_refl _) _ _ ck
              have HBX5 := hid (HBX.out.trans (hb5.mono HBX.out.size))
              clear hg ee ey hxk ew5 hb5 hrK
              go_upto_region 22 with (fail)
              rw [← EW5.out]
              clear c0 c1 c2 ck
              have r0 := Rec.cell HRK.out 0
              have r1 := Rec.cell HRK.out 1
              have r2 := Rec.cell HRK.out 2
              have rl := HRK.out.lt
              have hlB : B < w5.heap.size := World.block_lt_of_cell? w5 _ ck5
              simp at r0 r1 r2
              obtain ⟨du, edu⟩ : ∃ du, (j : Int) - d = du := ⟨_, rfl⟩
              rw [edu]
              have hdb : du ≤ 400 := by omega
              by_cases hdu : du < 0
              · have d1 : decide (0 ≤ du) = false := by simp; omega
                clear hneed hdu e3 edu
                refine wp_region_past (by kernel_rfl) (by kernel_rfl) ?_
                repeat (go_big_quiet_step ((fail)))
                refine wpQuiet_nil ?_
                rintro _ ⟨_, rfl⟩
                go_wp2_with fail
                exact ⟨⟨i + 1, by go_num, by omega, hid (HBX5.out.trans (RowKit.Below.mono (w5.below_past _) HBX5.out.size))⟩, by simp [intOf]; omega⟩
              · have d1 : decide (0 ≤ du) = true := by simp; omega
                unfold needE at hneed
                simp only at hneed
                rw [if_neg (show ¬ (j : Int) < d by omega), edu] at hneed
                have hq0 : 0 ≤ du / p := Int.ediv_nonneg (by omega) (by omega)
                have hq1 : du / p ≤ du := Int.ediv_le_self _ (by omega)
                have ht : du.tdiv p = du / p := Int.tdiv_eq_ediv_of_nonneg (by omega)
                obtain ⟨q, eq⟩ : ∃ q, du / p = q := ⟨_, rfl⟩
                rw [eq] at ht hq0 hq1 hneed
                have e4 : IntKind.i64.wrap (du.tdiv p) = q := by rw [ht, IntKind.wrap_i64]; omega
                have e5 : IntKind.i64.wrap (du / p) = q := by rw [eq, IntKind.wrap_i64]; omega
                have e6 : IntKind.i64.wrap (q + 1) = q + 1 := by rw [IntKind.wrap_i64]; omega
                have hz : 0 ≤ c' * (q + 1) ∧ c' * (q + 1) ≤ 100 * 401 := ⟨Int.mul_nonneg (by omega) (by omega), Int.mul_le_mul hc.2 (by omega) (by omega) (by omega)⟩
                rw [Int.mul_comm] at hneed
                obtain ⟨z, ez⟩ : ∃ z, c' * (q + 1) = z := ⟨_, rfl⟩
                rw [ez] at hneed hz
                have e7 : IntKind.i64.wrap (c' * (q + 1)) = z := by rw [ez, IntKind.wrap_i64]; omega
                have d3 : decide (e < z) = false := by simp; omega
                clear ht eq ez hneed hq0 hq1 e3 edu hz
                refine wp_region_past (by kernel_rfl) (by kernel_rfl) ?_
                repeat (go_big_quiet_step ((fail)))
                refine wpQuiet_nil ?_
                rintro _ ⟨_, rfl⟩
                go_wp2_with fail
                exact ⟨⟨i + 1, by go_num, by omega, hid (HBX5.out.trans (RowKit.Below.mono (w5.below_past _) HBX5.out.size))⟩, by simp [intOf]; omega⟩
            · obtain rfl : i = n := by omega
              go_wp2_with fail
              go_ret
              exact Gives.mk rfl (HW5.out.trans (HBX.out.mono HW5.out.size))
    · have d1 : decide (f = 0) = false := decide_eq_false g1
      have HG1 := hid g1
      rw [d1] at HFI
      clear g1 d1 HAG EF
      have d2 : ¬ ms < 0 := by omega
      go_wp2_with (go_at_call 9; refine HFI.out.mono ?_; rintro _ _ ⟨rfl, x5, rfl⟩)
      go_ret
      exact Gives.mk rfl (HB2.out.trans (RowKit.Below.mono (by (repeat (first | exact Below.refl _ _ | refine RowKit.Below.past ?_ _ | refine RowKit.Below.alloc' ?_ _ | refine RowKit.Below.drew' ?_ | refine RowKit.Below.drewN' ?_ _ | refine RowKit.Below.setCell' ?_ (by simp [go_sem]) _))) HB2.out.size))
theorem c_wk_3 : Try.prog.cellsOf 3 = 1 := by kernel_rfl
theorem c_wk : Try.prog.cellsOf 37 = 3 := by kernel_rfl
theorem rd_wk {H : Type} {enc : TypeId × Value → H} {W : World} {cs : Array Value} (h : Rd enc Try.prog W 37 cs.toList) : ∃ x0 x1 x2 : Int, cs = #[.int .i64 x0, .int .i64 x1, .int .i64 x2] ∧ I64 x0 ∧ I64 x1 ∧ I64 x2 := by
  obtain ⟨c0, c1, c2, e⟩ := cs_three (h.len_struct Try.underlying37 c_wk)
  rw [e] at h
  obtain ⟨x0, e0, w0⟩ := Rd.int (h.field Try.underlying37 0 3 0 1 rfl c_wk_3) Try.underlying3
  obtain ⟨x1, e1, w1⟩ := Rd.int (h.field Try.underlying37 1 3 1 1 rfl c_wk_3) Try.underlying3
  obtain ⟨x2, e2, w2⟩ := Rd.int (h.field Try.underlying37 2 3 2 1 rfl c_wk_3) Try.underlying3
  simp at e0 e1 e2
  subst e0 e1 e2
  exact ⟨x0, x1, x2, arr_of e, i64_of w0, i64_of w1, i64_of w2⟩
theorem rd_wks {H : Type} {enc : TypeId × Value → H} {W : World} {cs : List Value} (h : Rd enc Try.prog W 37 cs) : ∃ x : Wk, cs = wkV x ∧ True := by
  obtain ⟨y0, y1, y2, e, _⟩ := rd_wk (cs := cs.toArray) (by simpa using h)
  exact ⟨⟨y0, y1, y2⟩, by simpa [wkV] using congrArg Array.toList e, trivial⟩
theorem edfAgrees_own : ownKnob Try.prog.godebug = none := by kernel_rfl
theorem edfAgrees_laidOut : laidOutB Try.prog = true := by kernel_rfl
theorem edfAgrees_types : ∀ t ∈ Try.f4.params.toList, Try.prog.readableRec t = true ∧ t < Try.prog.types.size := by
  rw [Try.params4]
  intro t ht
  simp only [List.mem_cons, List.not_mem_nil, or_false] at ht
  rcases ht with rfl | rfl
  · exact ⟨by kernel_rfl, of_decide_eq_true (by kernel_rfl)⟩
  · exact ⟨by kernel_rfl, of_decide_eq_true (by kernel_rfl)⟩
set_option maxRecDepth 100000 in
theorem edfAgrees_lifted (os : Os) (started : os.Started) (H : Type) (enc : TypeId × Value → H) :
    ReturnsInHanded {} Try.checked os 4 .any (Rows.edfAgreesSpec.pre6 enc Try.prog Try.f4 Rows.edfAgreesRow.domain false) (Rows.edfAgreesSpec.post enc Try.prog Try.f4 false true false false) := by
  refine returnsInHanded_of_change (C := Try.checked) edfAgrees_own started (by kernel_rfl) Try.func4
    (ChangeSpec.witness6 (enc := enc) (C := Try.checked) false ⟨#[], #[.slice none 0 0, .int .u16 0], []⟩ 8 (by kernel_rfl) (by kernel_rfl) (by kernel_rfl) (by kernel_rfl)) ?_
  intro W base args ds gs before hval0 hW hcnd _
  have hval : ∀ (j : Nat) t v, Try.f4.params[j]? = some t → args[j]? = some v → Value.okWide Try.prog W .any base t v := hval0
  have hW' := hW
  obtain ⟨p, q, hA0, hV, hpq, hfz, hnd⟩ := hW
  have hA : DataW.TrodAll enc Try.prog W 0 (fun _ => true) true Try.f4.params.toList args.toList ds p := hA0
  rw [Try.params4] at hA hval
  obtain ⟨v0, vs0, d0, ds0, p0, q0, hargs, rfl, rfl, h0, r0⟩ := trodAll_cons hA
  obtain ⟨v1, vs1, d1, ds1, p1, q1, rfl, rfl, rfl, h1, r1⟩ := trodAll_cons r0
  obtain ⟨rfl, rfl, rfl⟩ := trodAll_nil r1
  obtain rfl : args = #[v0, v1] := by cases args; simp_all
  have k0 := hval 0 22 v0 rfl rfl
  have k1 := hval 1 35 v1 rfl rfl
  clear hA0 hval0 hval hcnd hfz hnd hpq hV hargs r1
  suffices hs : Calls Try.prog 4 #[v0, v1] W (Gives (.bool true) W) from hs.mono fun e W' ⟨he, x, hx⟩ => ⟨_, he, law_post edfAgrees_laidOut hW' rfl rfl (by kernel_rfl) (by first | exact Try.underlying4 | rfl) edfAgrees_types (hx ▸ W.below_past x)⟩
  clear hW'
  obtain ⟨A, ca, a, rfl, ha, _, hl, _⟩ := rd_tabC (f := wkV) (c := 3) (K := fun _ => True) wkV_length (by omega) (rd_slice Try.underlying22 k0 h0) Try.underlying22 c_wk (fun _ h => by obtain ⟨x, e, hk⟩ := rd_wks h; exact ⟨x, e, hk⟩)
  obtain ⟨x1, rfl, _, _, w1⟩ := open_int Try.underlying35 k1 h1
  exact EdfAgrees_any A ca _ a rfl hl x1 (u16_of w1) W ha
theorem edfAgrees_holds : Rows.EdfAgreesSaid :=
  OpenClaim.holds_of_wide 4 Try.f4 rfl rfl rfl rfl rfl rfl rfl ⟨rfl, rfl, rfl, rfl, rfl⟩ rfl rfl rfl rfl rfl (by kernel_rfl) Try.func4 (by kernel_rfl)
    (of_decide_eq_true (by kernel_rfl)) (by unfold Func.isWrapper; first | (rw [if_pos (by decide +kernel)]; kernel_rfl) | (rw [if_neg (by decide +kernel)]; exact ⟨rfl, rfl⟩))
    (fun os started H enc _ => edfAgrees_lifted os started H enc)
end Go.Proofs.Ytolhbcgmlaodbaa
