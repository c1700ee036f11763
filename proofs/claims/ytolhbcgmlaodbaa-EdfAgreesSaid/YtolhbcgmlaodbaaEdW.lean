/-
  Layer 42: the laws' first look. No condition.
-/
import Derived.Test.YtolhbcgmlaodbaaEdO
import Derived.Test.YtolhbcgmlaodbaaEdI
import Derived.ArgAppend
namespace Go.Proofs.Ytolhbcgmlaodbaa
open Go Go.RowKit
def aL : List Wk := [⟨1, 2, 2⟩, ⟨2, 4, 4⟩]
def aL3 : List Wk := [⟨1, 2, 2⟩, ⟨2, 4, 4⟩, ⟨1, 2, 2⟩]
theorem aL_may : mayF aL = true := by kernel_rfl
theorem aL3_may : mayF aL3 = true := by kernel_rfl
theorem aL_who : whoE aL 4 = [0, 1, 0, 1] := by kernel_rfl
theorem aL_miss : missE aL 4 = -1 := by kernel_rfl
theorem aL_ld : ldE aL = (1, 1) := by kernel_rfl
theorem aL3_fits : fitsN aL3 9 = 4 := by kernel_rfl
theorem aL_dem : demE aL 4 = 4 := by kernel_rfl
theorem info_wk : (Try.prog.info? 37).map (fun i => (i.zero, i.size, i.bytes)) = some (some (.agg #[.int .i64 0, .int .i64 0, .int .i64 0]), 3, 24) := by kernel_rfl
set_option maxRecDepth 100000 in
set_option maxHeartbeats 4000000 in
theorem awake_any (w : World) : Calls Try.prog 7 #[] w (Gives (.bool true) w) := by
  obtain ⟨s, es⟩ : ∃ s, w.heap.size = s := ⟨_, rfl⟩
  obtain ⟨w1, ew1⟩ : ∃ w1, w1 = w.alloc (.cells #[.int .i64 1, .int .i64 2, .int .i64 2, .int .i64 2, .int .i64 4, .int .i64 4] 37) := ⟨_, rfl⟩
  have hb1 : Below w.heap.size w w1 := by rw [ew1]; exact (Below.refl _ w).alloc (Nat.le_refl _) _
  have hs1 : w1.heap.size = s + 1 := by rw [ew1]; simp [es]
  have ho1 : w1.ownsRow s 37 3 (.slice (some ⟨s, 0, none⟩) 2 2) 2 (tab wkV aL) := by
    have h5 := World.ownsRow_lit (base := s) (size := 3) (e := 37) w #[.int .i64 1, .int .i64 2, .int .i64 2, .int .i64 2, .int .i64 4, .int .i64 4] 2 (by omega) (by unfold maxLen; omega) rfl
    rw [es] at h5
    rw [ew1]; exact h5
  have EW1 := hid ew1
  have HB1 := hid hb1
  have HO1 := hid ho1
  have HRUN := hid (Run_any (some ⟨s, 0, none⟩) 2 2 aL rfl aL_may 4 w1 (Cells.of_own ho1))
  rw [show longE 4 = 4 from by decide, aL_who, aL_miss] at HRUN
  clear ew1 hb1 ho1
  go_enter Try.func7, Try.ntmps7
  go_upto_region 2 with (fail)
  rw [← EW1.out]
  go_wp2_with fail
  refine HRUN.out.mono ?_
  rintro _ w2 ⟨R, c, rfl, hb2, hR⟩
  have HO2 := hid (own_below HO1.out hb2 (Nat.le_refl _))
  have HLD := hid (Load_any (some ⟨s, 0, none⟩) 2 2 aL rfl aL_may w2 (Cells.of_own HO2.out))
  rw [aL_ld] at HLD
  have HB2 := hid (HB1.out.trans (hb2.mono HB1.out.size))
  have HR2 := hid hR
  have hs2 := hb2.size
  clear hb2 hR HRUN
  go_upto_region 4 with (go_at_call 10; refine HLD.out.mono ?_; rintro _ _ ⟨rfl, x1, rfl⟩)
  obtain ⟨w3, ew3⟩ : ∃ W, W = w2.past x1 := ⟨_, rfl⟩
  have hb3 : Below w2.heap.size w2 w3 := by rw [ew3]; exact w2.below_past _
  rw [← ew3]
  have HO3 := hid (own_below HO2.out hb3 (Nat.le_refl _))
  have HR3 := hid (own_below HR2.out hb3 (Nat.le_refl _))
  have HB3 := hid (HB2.out.trans (hb3.mono HB2.out.size))
  have hs3 : w2.heap.size ≤ w3.heap.size := hb3.size
  obtain ⟨g, o, eg, c0, c1, c2⟩ := wk_at (Cells.of_own HO3.out) (k := 0) (by decide)
  injection eg with eg
  injection eg with eg1 eg2 _
  subst eg1; subst eg2
  rw [show wk aL 0 = ⟨1, 2, 2⟩ from rfl] at c0 c1 c2
  simp at c0 c1 c2
  obtain ⟨i0, ii, iz0, iz1, iz2⟩ := info_parts info_wk
  have HII := hid ii
  clear ew3 HLD ii hb3
  obtain ⟨W, eW⟩ : ∃ W, W = w3.alloc (.cells #[.int .i64 1, .int .i64 2, .int .i64 2] 37) := ⟨_, rfl⟩
  have hbW : Below w3.heap.size w3 W := by rw [eW]; exact (Below.refl _ w3).alloc (Nat.le_refl _) _
  have HOW := hid (own_below HO3.out hbW (Nat.le_refl _))
  have HCW := hid (show ∀ j u, (tab wkV aL)[j]? = some u → W.cell? ⟨s, 0 + j, none⟩ = some u from by
    obtain ⟨g, o, e, hc⟩ := Cells.of_own HOW.out (by decide)
    injection e with e
    injection e with e1 e2 _
    subst e1; subst e2
    exact hc)
  have HNW := hid (show ∀ j u, ([.int .i64 1, .int .i64 2, .int .i64 2] : List Value)[j]? = some u → W.cell? ((⟨w3.heap.size, 0, none⟩ : Addr).add j) = some u from by
    intro j u hj
    have : (⟨w3.heap.size, 0, none⟩ : Addr).add j = ⟨w3.heap.size, j, none⟩ := by unfold Addr.add; split <;> simp_all
    rw [this, eW, World.cell?_alloc_new]
    simpa using hj)
  have EW := hid eW
  have HBW := hid hbW
  clear eW hbW
  go_wp2_with (at_builtin; rw [← EW.out]; refine wpList_append_arg W rfl (.tmp 22) (.tmp 26) 22 rfl 37 i0 (.agg #[.int .i64 0, .int .i64 0, .int .i64 0]) 3 24 Try.underlying22 HII.out iz0 iz1 iz2 rfl (by decide) s 0 2 2 (tab wkV aL) rfl rfl HCW.out ⟨w3.heap.size, 0, none⟩ 1 1 [.int .i64 1, .int .i64 2, .int .i64 2] rfl rfl HNW.out (by simp [Value.oneCell']) (fun h => absurd h (by omega)) (by unfold maxLen; omega) (by omega) (fun h => absurd h (by omega)) ?_; intro _ v4 w4 ho4 hg4; obtain ⟨g4, c4, rfl, _⟩ := own_succ ho4 (by omega); have HO4 := hid ho4; have HG4 := hid hg4; clear ho4 hg4)
  have hb4 : Below W.heap.size W w4 := Below.grown (Below.refl _ W) HG4.out (Nat.le_refl _) (fun k h => by cases h)
  have hb34 : Below w3.heap.size w3 w4 := below_trans' HBW.out hb4
  have HFI := hid (Fits_any (some ⟨g4, 0, none⟩) c4 3 aL3 rfl aL3_may 9 w4 (Cells.of_own HO4.out))
  rw [show (farE 9).toNat = 9 from by decide, aL3_fits] at HFI
  refine HFI.out.mono ?_
  rintro _ _ ⟨rfl, x5, rfl⟩
  obtain ⟨w5, ew5⟩ : ∃ w5, w5 = w4.past x5 := ⟨_, rfl⟩
  have hb45 : Below w4.heap.size w4 w5 := by rw [ew5]; exact w4.below_past _
  have hb35 : Below w3.heap.size w3 w5 := below_trans' hb34 hb45
  rw [← ew5]
  have HO5 := hid (own_below HO3.out hb35 (Nat.le_refl _))
  have HR5 := hid (own_below HR3.out hb35 (Nat.le_refl _))
  have HB5 := hid (HB3.out.trans (hb35.mono HB3.out.size))
  obtain ⟨gr, cr, er, _⟩ := own_succ HR5.out (by omega)
  injection er with er1 _ er2
  subst er1
  subst er2
  obtain ⟨g', o', e', hc⟩ := Cells.of_own HR5.out (by decide)
  injection e' with e'
  injection e' with e1' e2' _
  subst e1'; subst e2'
  have r0 := hc 0 _ rfl
  have r1 := hc 1 _ rfl
  have r2 := hc 2 _ rfl
  have r3 := hc 3 _ rfl
  simp at r0 r1 r2 r3
  have HDE := hid (Demand_any (some ⟨s, 0, none⟩) 2 2 aL rfl aL_may 4 w5 (Cells.of_own HO5.out))
  rw [show farE 4 = 4 from by decide, aL_dem] at HDE
  clear hc ew5 hb35 hb45 hb34 hb4 HFI c0 c1 c2
  go_wp2_with (go_at_call 13; refine HDE.out.mono ?_; rintro _ _ ⟨rfl, x6, rfl⟩)
  go_ret
  exact Gives.mk rfl (HB5.out.trans (RowKit.Below.mono (by (repeat (first | exact Below.refl _ _ | refine RowKit.Below.past ?_ _ | refine RowKit.Below.alloc' ?_ _ | refine RowKit.Below.drew' ?_ | refine RowKit.Below.drewN' ?_ _ | refine RowKit.Below.setCell' ?_ (by simp [go_sem]) _))) HB5.out.size))
end Go.Proofs.Ytolhbcgmlaodbaa
