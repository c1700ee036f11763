/-
  Layer 44: may a bank be? No condition but that its rows are not long.
-/
import Derived.Test.YtddngloojacceaaBkE
namespace Go.Proofs.Ytddngloojacceaa
open Go Go.RowKit
attribute [local go_sem] Oper.semAt_some
theorem withK_len {a b : List Int} : withK a b a.length = true ↔ ∀ i, i < a.length → atL a i ≤ atL b i := withK_iff
set_option maxRecDepth 100000 in
set_option maxHeartbeats 4000000 in
theorem May_any (x : Bk) (hF : x.F.2.2.length ≤ 1000000) (hr : ∀ i, (hasR x i).length ≤ 1000000 ∧ (mostR x i).length ≤ 1000000) (w : World) (hx : x.In w) :
    Calls Try.prog 16 #[.agg x.cs] w (Gives (.bool (mayB x)) w) := by
  obtain ⟨w1, ew1⟩ : ∃ w1, w1 = w.alloc (.cells x.cs 25) := ⟨_, rfl⟩
  have hb1 : Below w.heap.size w w1 := by rw [ew1]; exact (Below.refl _ w).alloc (Nat.le_refl _) _
  have hrec : Rec w1 w.heap.size 25 x.cs := by rw [ew1]; exact Rec.new w _ _
  have EW1 := hid ew1
  obtain ⟨k, ek⟩ : ∃ k, x.F.2.2.length = k := ⟨_, rfl⟩
  obtain ⟨nh, enh⟩ : ∃ n, x.H.length = n := ⟨_, rfl⟩
  obtain ⟨nm, enm⟩ : ∃ n, x.M.length = n := ⟨_, rfl⟩
  have r0 := Rec.cell hrec 0
  have r1 := Rec.cell hrec 1
  have r2 := Rec.cell hrec 2
  simp only [Bk.cs] at r0 r1 r2
  simp [ek, enh, enm] at r0 r1 r2
  have hX := hx.below hb1
  have HROW := hid (fun w' (h : Cells w' x.F.1 (i64s x.F.2.2)) => row_any x.F.1 x.F.2.1 k x.F.2.2 ek (by omega) (k : Int) w' h)
  have hmay : mayB x = (decide (1 ≤ k ∧ k ≤ 4 ∧ nh ≤ 8 ∧ nh = nm) && rowF x.F.2.2 k && (List.range nh).all (mayI x)) := by unfold mayB; rw [ek, enh, enm]
  have HMAY := hid hmay
  have HX := hid hX
  have HB1 := hid hb1
  have hcs : x.cs = #[.slice x.F.1 k x.F.2.1, .slice x.AH nh x.cH, .slice x.AM nm x.cM] := by unfold Bk.cs; rw [ek, enh, enm]
  rw [hcs] at EW1 ⊢
  clear ew1 hb1 hrec hx hX hmay hcs
  have HN := hid (show ¬ (1 ≤ k ∧ k ≤ 4 ∧ nh ≤ 8 ∧ nh = nm) → mayB x = false from fun h => by rw [HMAY.out, decide_eq_false h]; rfl)
  have hcs : k = 0 ∨ (1 ≤ k ∧ 4 < k) ∨ (1 ≤ k ∧ k ≤ 4 ∧ 8 < nh) ∨ (1 ≤ k ∧ k ≤ 4 ∧ nh ≤ 8 ∧ nh ≠ nm) ∨ (1 ≤ k ∧ k ≤ 4 ∧ nh ≤ 8 ∧ nh = nm) := by omega
  rcases hcs with rfl | ⟨h1, h2⟩ | ⟨h1, h2, h3⟩ | ⟨h1, h2, h3, h4⟩ | ⟨h1, h2, h3, rfl⟩
  · have HF := hid (HN.out (by omega))
    go_enter Try.func16, Try.ntmps16
    go_upto_region 1 with (fail)
    rw [← EW1.out]
    go_wp2_with (fail)
    go_ret
    exact Gives.mk (by rw [HF.out]; rfl) HB1.out
  · have HF := hid (HN.out (by omega))
    have d1 : ¬ k < 1 := by omega
    go_enter Try.func16, Try.ntmps16
    go_upto_region 1 with (fail)
    rw [← EW1.out]
    go_wp2_with (fail)
    go_ret
    exact Gives.mk (by rw [HF.out]; rfl) HB1.out
  · have HF := hid (HN.out (by omega))
    have d1 : ¬ k < 1 := by omega
    have d2 : ¬ 4 < k := by omega
    go_enter Try.func16, Try.ntmps16
    go_upto_region 1 with (fail)
    rw [← EW1.out]
    go_wp2_with (fail)
    go_ret
    exact Gives.mk (by rw [HF.out]; rfl) HB1.out
  · have HF := hid (HN.out (by omega))
    have d1 : ¬ k < 1 := by omega
    have d2 : ¬ 4 < k := by omega
    have d3 : ¬ 8 < nh := by omega
    have d4 : ((nh : Int) == nm) = false := by simp; omega
    have d4' : (nh == nm) = false := by simp; omega
    go_enter Try.func16, Try.ntmps16
    go_upto_region 1 with (fail)
    rw [← EW1.out]
    go_wp2_with (fail)
    go_ret
    exact Gives.mk (by rw [HF.out]; rfl) HB1.out
  · have d1 : ¬ k < 1 := by omega
    have d2 : ¬ 4 < k := by omega
    have d3 : ¬ 8 < nh := by omega
    have hm2 : mayB x = (rowF x.F.2.2 k && (List.range nh).all (mayI x)) := by rw [HMAY.out, decide_eq_true (show 1 ≤ k ∧ k ≤ 4 ∧ nh ≤ 8 ∧ nh = nh from ⟨h1, h2, h3, rfl⟩)]; rfl
    have HM2 := hid hm2
    have hH := HX.out.h
    have hM := HX.out.m
    obtain ⟨AH, eAH⟩ : ∃ z, x.AH = z := ⟨_, rfl⟩
    obtain ⟨AM, eAM⟩ : ∃ z, x.AM = z := ⟨_, rfl⟩
    rw [eAH] at hH r1 EW1 ⊢
    rw [eAM] at hM r2 EW1 ⊢
    have HH := hid hH
    have HMM := hid hM
    have ENH := hid enh
    have ENM := hid enm
    have hmi : ∀ i, mayI x i = (rowF (hasR x i) k && rowF (mostR x i) k && withK (hasR x i) (mostR x i) (hasR x i).length) := fun i => by unfold mayI; rw [ek]
    have HMI := hid hmi
    have HR2 := hid hr
    obtain ⟨r, er⟩ : ∃ r, rowF x.F.2.2 k = r := ⟨_, rfl⟩
    have HRW := hid (er ▸ HROW.out w1 HX.out.f)
    rw [er] at HM2
    clear hH hM eAH eAM enh enm hmi hm2 er HROW HMAY HN hr hF ek
    cases r with
    | false =>
      have HF := hid (show mayB x = false by rw [HM2.out]; rfl)
      go_enter Try.func16, Try.ntmps16
      go_upto_region 1 with (fail)
      rw [← EW1.out]
      go_wp2_with (go_at_call 31; refine HRW.out.mono ?_; rintro _ _ ⟨rfl, x1, rfl⟩)
      go_ret
      refine Gives.mk (by rw [HF.out]; rfl) (HB1.out.trans ((w1.below_past x1).mono HB1.out.size))
    | true =>
      have HM3 := hid (show mayB x = (List.range nh).all (mayI x) by rw [HM2.out]; rfl)
      go_enter Try.func16, Try.ntmps16
      go_upto_region 1 with (fail)
      rw [← EW1.out]
      go_upto_region 5 with (go_at_call 31; refine HRW.out.mono ?_; rintro _ _ ⟨rfl, x1, rfl⟩)
      go_loopw [40] (fun i wr => ∃ (j : Nat) (z : Past), i = .int .i64 j ∧ j ≤ nh ∧ wr = w1.past z ∧ Hid (∀ q, q < j → mayI x q = true)) (fun i _ => nh - (intOf i).toNat)
      case atStart => exact ⟨0, x1, rfl, by omega, rfl, hid (fun q h => by omega)⟩
      case round =>
        obtain ⟨j, z, rfl, hj, rfl, HJ⟩ := hrel
        by_cases hlt : j < nh
        · obtain ⟨bh, oh, Rh, ch, rfl, q1, k1⟩ := HH.out.at (i := j) (by rw [ENH.out]; exact hlt)
          obtain ⟨bm, om, Rm, cm, rfl, q2, k2⟩ := HMM.out.at (i := j) (by rw [ENM.out]; exact hlt)
          have hl := HR2.out j
          have hmi := HMI.out j
          change w1.cell? _ = some (.slice Rh (hasR x j).length ch) at q1
          change Cells w1 Rh (i64s (hasR x j)) at k1
          change w1.cell? _ = some (.slice Rm (mostR x j).length cm) at q2
          change Cells w1 Rm (i64s (mostR x j)) at k2
          obtain ⟨a, ea⟩ : ∃ a, hasR x j = a := ⟨_, rfl⟩
          obtain ⟨b, eb⟩ : ∃ b, mostR x j = b := ⟨_, rfl⟩
          rw [ea] at q1 k1 hl hmi
          rw [eb] at q2 k2 hl hmi
          have hA := fun y : Past => row_any Rh ch a.length a rfl hl.1 (k : Int) (w1.past y) (k1.past y)
          have hB := fun y : Past => row_any Rm cm b.length b rfl hl.2 (k : Int) (w1.past y) (k2.past y)
          have hlen : rowF a k = true → rowF b k = true → a.length ≤ b.length := fun u v => by
            unfold rowF at u v
            simp at u v
            omega
          have hW := fun (h : a.length ≤ b.length) (y : Past) => within_any Rh Rm ch cm a.length b.length a b rfl rfl h hl.1 (w1.past y) (k1.past y) (k2.past y)
          obtain ⟨na, ena⟩ : ∃ n, a.length = n := ⟨_, rfl⟩
          obtain ⟨nb, enb⟩ : ∃ n, b.length = n := ⟨_, rfl⟩
          rw [ena] at q1 hA hW hmi hlen
          rw [enb] at q2 hB hW hlen
          obtain ⟨ra, era⟩ : ∃ r, rowF a k = r := ⟨_, rfl⟩
          obtain ⟨rb, erb⟩ : ∃ r, rowF b k = r := ⟨_, rfl⟩
          obtain ⟨rw', erw⟩ : ∃ r, withK a b na = r := ⟨_, rfl⟩
          rw [era] at hA hlen hmi
          rw [erb] at hB hlen hmi
          rw [erw] at hW hmi
          have HA := hid hA
          have HB := hid hB
          have HWI := hid hW
          have HLE := hid hlen
          have HMJ := hid hmi
          have hbad : mayI x j = false → mayB x = false := fun h => by
            rw [HM3.out, List.all_eq_false]
            exact ⟨j, by simpa using hlt, by rw [h]; simp⟩
          have HBAD := hid hbad
          clear hl hmi k1 k2 ea eb hA hB hlen hW ena enb era erb erw hbad
          have HLT : Hid (na ≤ nb ∨ ra = false ∨ rb = false) := hid (by
            cases ra with
            | false => exact .inr (.inl rfl)
            | true =>
              cases rb with
              | false => exact .inr (.inr rfl)
              | true => exact .inl (HLE.out rfl rfl))
          clear HLE
          obtain ⟨rr, err⟩ : ∃ r, (ra && rb && rw') = r := ⟨_, rfl⟩
          have HMK : Hid (mayI x j = rr) := hid (by rw [HMJ.out, err])
          clear HMJ
          cases ra with
          | false =>
            cases err
            have HF := hid (HBAD.out HMK.out)
            go_wp2_with (go_at_call 31; (with_reducible refine (HA.out _).mono ?_); rintro _ _ ⟨rfl, _, rfl⟩)
            go_ret
            refine Gives.mk (by rw [HF.out]; rfl) (HB1.out.trans ((World.below_past _ _).mono HB1.out.size))
          | true =>
            cases rb with
            | false =>
              cases err
              have HF := hid (HBAD.out HMK.out)
              go_wp2_with (go_at_call 31; first | ((with_reducible refine (HA.out _).mono ?_); rintro _ _ ⟨rfl, _, rfl⟩) | ((with_reducible refine (HB.out _).mono ?_); rintro _ _ ⟨rfl, _, rfl⟩))
              go_ret
              refine Gives.mk (by rw [HF.out]; rfl) (HB1.out.trans ((World.below_past _ _).mono HB1.out.size))
            | true =>
              have HWJ := hid (HWI.out (by rcases HLT.out with h | h | h; exact h; cases h; cases h))
              clear HWI HLT
              cases rw' with
              | false =>
                cases err
                have HF := hid (HBAD.out HMK.out)
                go_wp2_with (first | (go_at_call 31; first | ((with_reducible refine (HA.out _).mono ?_); rintro _ _ ⟨rfl, _, rfl⟩) | ((with_reducible refine (HB.out _).mono ?_); rintro _ _ ⟨rfl, _, rfl⟩)) | (go_at_call 25; (with_reducible refine (HWJ.out _).mono ?_); rintro _ _ ⟨rfl, _, rfl⟩))
                go_ret
                refine Gives.mk (by rw [HF.out]; rfl) (HB1.out.trans ((World.below_past _ _).mono HB1.out.size))
              | true =>
                cases err
                go_wp2_with (first | (go_at_call 31; first | ((with_reducible refine (HA.out _).mono ?_); rintro _ _ ⟨rfl, _, rfl⟩) | ((with_reducible refine (HB.out _).mono ?_); rintro _ _ ⟨rfl, _, rfl⟩)) | (go_at_call 25; (with_reducible refine (HWJ.out _).mono ?_); rintro _ _ ⟨rfl, _, rfl⟩))
                go_roundw
                case rel => exact ⟨j + 1, _, by go_num, by omega, by first | rfl | trivial, hid (fun q hq => by
                  by_cases e : q = j
                  · subst e; exact HMK.out
                  · exact HJ.out q (by omega))⟩
                case measure => simp [intOf]; omega
        · obtain rfl : j = nh := by omega
          have HF := hid (show mayB x = true by rw [HM3.out, List.all_eq_true]; intro q hq; exact HJ.out q (by simpa using hq))
          go_wp2_with fail
          go_ret
          refine Gives.mk (by rw [HF.out]; rfl) (HB1.out.trans ((World.below_past _ _).mono HB1.out.size))
end Go.Proofs.Ytddngloojacceaa
