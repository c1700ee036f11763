/-
  Layer 33: the document's first gap. No condition but that ends are from -200 up to 200.
-/
import Derived.Test.YtjihhpipdhhjkaaSpT
namespace Go.Proofs.Ytjihhpipdhhjkaa
open Go.RowKit
def GapP (f : Int → Bool) (low high : Int) (w : World) (e : Ending) (w' : World) : Prop :=
  ∃ g : Int × Int × Bool, GapIs (fun x => f x = true) low high g ∧ e = .returned (.tuple #[.agg #[.int .i64 g.1, .int .i64 g.2.1], .bool g.2.2]) ∧ Below w.heap.size w w'
set_option maxRecDepth 100000 in
set_option maxHeartbeats 4000000 in
theorem RGap_any {w : World} {d : Nat} {f : Int → Bool} (h : RfAt w d f) (low high : Int) (h1 : -200 ≤ low) (h2 : high ≤ 200) (h3 : low ≤ 200) (h4 : -200 ≤ high) :
    Calls Try.prog 15 #[.pointer (some ⟨d, 0, none⟩), .int .i64 low, .int .i64 high] w (GapP f low high w) := by
  have HHS := hid (fun (W : World) (hW : Below w.heap.size w W) (x : Int) (hx : -1000 ≤ x ∧ x ≤ 1000) => RHas_any (h.far hW) x ⟨by omega, by omega⟩)
  obtain ⟨w1, ew1⟩ : ∃ W, W = w.alloc (.cells #[.int .i64 0, .int .i64 0] 39) := ⟨_, rfl⟩
  obtain ⟨K, eK⟩ : ∃ K, w.heap.size = K := ⟨_, rfl⟩
  have hr1 : Rec w1 K 39 #[.int .i64 0, .int .i64 0] := by rw [ew1, ← eK]; exact Rec.new w _ _
  have hb1 : Below w.heap.size w w1 := by rw [ew1]; exact (Below.refl _ w).alloc (Nat.le_refl _) _
  have HR1 := hid hr1
  have HB1 := hid hb1
  have EW1 := hid ew1
  have EK := hid eK
  clear ew1 eK hr1 hb1 h
  go_enter Try.func15, Try.ntmps15
  go_upto_region 1 with (fail)
  rw [EK.out, ← EW1.out]
  go_wp2_with fail
  go_loopw [8] (fun i wr => ∃ y : Int, i = .int .i64 y ∧ low ≤ y ∧ (y ≤ high ∨ high < low) ∧ y ≤ 200 ∧ Hid (∀ x, low ≤ x → x < y → f x = true) ∧ w1 = wr) (fun i _ => (high - intZ i).toNat)
  case atStart => exact ⟨low, rfl, Int.le_refl _, by omega, h3, hid (fun x h1 h2 => by omega), rfl⟩
  case round =>
    obtain ⟨y, rfl, hy1, hy2, hy3, HA, rfl⟩ := hrel
    have t0 := Rec.cell HR1.out 0
    have t1 := Rec.cell HR1.out 1
    simp at t0 t1
    have g0 := Rec.frozen HR1.out 0
    have g1 := Rec.frozen HR1.out 1
    have hdl := Rec.lt HR1.out
    by_cases hy : y < high
    · have HX := hid (HHS.out w1 HB1.out y (by omega))
      obtain ⟨z, ez⟩ : ∃ z, f y = z := ⟨_, rfl⟩
      rw [ez] at HX
      have EZ := hid ez
      clear ez
      cases z with
      | true =>
        go_wp2_with (go_at_call 19; refine HX.out.mono ?_; rintro _ w7 ⟨rfl, h7⟩; rw [h7]; clear h7 w7)
        go_roundw
        case rel => exact ⟨y + 1, rfl, by omega, by omega, by omega, hid (fun x h1 h2 => by
          by_cases e : x = y
          · subst e; exact EZ.out
          · exact HA.out x h1 (by omega)), by trivial⟩
        case measure => simp [intZ]; omega
      | false =>
        go_upto_region 5 with (go_at_call 19; refine HX.out.mono ?_; rintro _ w7 ⟨rfl, h7⟩; rw [h7]; clear h7 w7)
        go_upto_block 1 with (fail)
        obtain ⟨X, eX⟩ : ∃ X, w1.heap.size = X := ⟨_, rfl⟩
        obtain ⟨w2, ew2⟩ : ∃ W, W = w1.alloc (.cells #[.int .i64 y, .int .i64 (y + 1)] 39) := ⟨_, rfl⟩
        have hr2 : Rec w2 X 39 #[.int .i64 y, .int .i64 (y + 1)] := by rw [ew2, ← eX]; exact Rec.new w1 _ _
        have hb2 : Below X w1 w2 := by rw [ew2, ← eX]; exact (Below.refl _ w1).alloc (Nat.le_refl _) _
        have HR2 := hid hr2
        have HB2 := hid hb2
        have hXK : K < X := by omega
        have hwX : w.heap.size ≤ X := by have := HB1.out.size; omega
        rw [eX, ← ew2]
        have EX := hid eX
        clear ew2 eX hr2 hb2 t0 t1 g0 g1 HX
        go_wp2_with fail
        go_loopw [23, 24] (fun _ _ wr => ∃ q : Int, Hid (Rec wr X 39 #[.int .i64 y, .int .i64 q]) ∧ y < q ∧ q ≤ high ∧ Hid (∀ x, y ≤ x → x < q → f x = false) ∧ Hid (Below X w1 wr)) (fun _ _ wr => (high - intZ ((wr.cell? ⟨X, 1, none⟩).getD undef)).toNat)
        case atStart => exact ⟨y + 1, HR2, by omega, by omega, hid (fun x h1 h2 => by
          have e : x = y := by omega
          rw [e]; exact EZ.out), HB2⟩
        case round =>
          clear HR2 HB2
          obtain ⟨q, HR, hq1, hq2, HQ, HB⟩ := hrel
          have c1 := Rec.cell HR.out 1
          have c0 := Rec.cell HR.out 0
          simp at c0 c1
          have f1 := Rec.frozen HR.out 1
          have l1 := Rec.lt HR.out
          have hwr : Below w.heap.size w wr := HB1.out.trans (HB.out.mono hwX)
          have HWR := hid hwr
          by_cases hq : q < high
          · have HX := hid (HHS.out wr hwr q (by omega))
            obtain ⟨z, ez⟩ : ∃ z, f q = z := ⟨_, rfl⟩
            rw [ez] at HX
            have EZ2 := hid ez
            have HM := hid (show intZ ((wr.cell? ⟨X, 1, none⟩).getD undef) = q by rw [c1]; rfl)
            clear ez hwr
            cases z with
            | false =>
              have HR3 := hid (show Rec (wr.setCell ⟨X, 1, none⟩ (.int .i64 (q + 1))) X 39 #[.int .i64 y, .int .i64 (q + 1)] by
                have := HR.out.set 1 (.int .i64 (q + 1))
                simpa using this)
              have HB3 := hid (HB.out.setCell (p := ⟨X, 1, none⟩) (Nat.le_refl _) (.int .i64 (q + 1)))
              have HM3 := hid (show intZ (((wr.setCell ⟨X, 1, none⟩ (.int .i64 (q + 1))).cell? ⟨X, 1, none⟩).getD undef) = q + 1 by rw [Rec.cell HR3.out 1]; rfl)
              go_wp2_with (go_at_call 19; refine HX.out.mono ?_; rintro _ w7 ⟨rfl, h7⟩; rw [h7]; clear h7 w7)
              go_roundw
              case rel => exact ⟨q + 1, HR3, by omega, by omega, hid (fun x h1 h2 => by
                by_cases e : x = q
                · subst e; exact EZ2.out
                · exact HQ.out x h1 (by omega)), HB3⟩
              case measure => rw [HM.out, HM3.out]; omega
            | true =>
              have HG := hid (show GapIs (fun x => f x = true) low high (y, q, true) from .inr ⟨rfl, hy1, hq1, hq2, HA.out, fun x h1 h2 h3 => (by have h3' : f x = true := h3; have h5 : f x = false := HQ.out x h1 h2; rw [h5] at h3'; cases h3'), .inr EZ2.out⟩)
              have hrK := HR1.out.below HB.out (Nat.le_of_eq EX.out)
              have t0 := Rec.cell hrK 0
              have t1 := Rec.cell hrK 1
              simp at t0 t1
              have g0 := Rec.frozen hrK 0
              have g1 := Rec.frozen hrK 1
              have hdl2 := Rec.lt hrK
              clear hrK
              go_wp2_with (go_at_call 19; refine HX.out.mono ?_; rintro _ w7 ⟨rfl, h7⟩; rw [h7]; clear h7 w7)
              refine bodyPost_ret (v := .tuple #[.agg #[.int .i64 y, .int .i64 q], .bool true]) (by simp [results, Try.results15, go_sem, t0, t1, g0, g1]) rfl ?_
              refine ⟨_, HG.out, rfl, ?_⟩
              have hK1 : w.heap.size ≤ K := by have := EK.out; omega
              exact (HWR.out.setCell (p := ⟨K, 0, none⟩) hK1 _).setCell (p := ⟨K, 1, none⟩) hK1 _
          · have HG := hid (show GapIs (fun x => f x = true) low high (y, q, true) from .inr ⟨rfl, hy1, hq1, hq2, HA.out, fun x h1 h2 h3 => (by have h3' : f x = true := h3; have h5 : f x = false := HQ.out x h1 h2; rw [h5] at h3'; cases h3'), .inl (by simp only; omega)⟩)
            have hrK := HR1.out.below HB.out (Nat.le_of_eq EX.out)
            have t0 := Rec.cell hrK 0
            have t1 := Rec.cell hrK 1
            simp at t0 t1
            have g0 := Rec.frozen hrK 0
            have g1 := Rec.frozen hrK 1
            have hdl2 := Rec.lt hrK
            clear hrK hwr
            go_wp2_with fail
            refine bodyPost_ret (v := .tuple #[.agg #[.int .i64 y, .int .i64 q], .bool true]) (by simp [results, Try.results15, go_sem, t0, t1, g0, g1]) rfl ?_
            refine ⟨_, HG.out, rfl, ?_⟩
            have hK1 : w.heap.size ≤ K := by have := EK.out; omega
            exact (HWR.out.setCell (p := ⟨K, 0, none⟩) hK1 _).setCell (p := ⟨K, 1, none⟩) hK1 _
    · have HG := hid (show GapIs (fun x => f x = true) low high (0, 0, false) from .inl ⟨rfl, rfl, rfl, fun x h1 h2 => HA.out x h1 (by omega)⟩)
      go_wp2_with fail
      refine bodyPost_ret (v := .tuple #[.agg #[.int .i64 0, .int .i64 0], .bool false]) (by simp [results, Try.results15, go_sem, t0, t1, g0, g1]) rfl ?_
      refine ⟨_, HG.out, rfl, ?_⟩
      have hK1 : w.heap.size ≤ K := by have := EK.out; omega
      exact (HB1.out.setCell (p := ⟨K, 0, none⟩) hK1 _).setCell (p := ⟨K, 1, none⟩) hK1 _
end Go.Proofs.Ytjihhpipdhhjkaa
