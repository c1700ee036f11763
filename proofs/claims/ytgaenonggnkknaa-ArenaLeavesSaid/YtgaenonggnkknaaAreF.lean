/-
  Layer 02: what is dropped of the document's object. No condition.
-/
import Derived.Test.YtgaenonggnkknaaAreE
namespace Go.Proofs.Ytgaenonggnkknaa
open Go.RowKit
set_option maxHeartbeats 1000000 in
theorem RDrop_any (B b : Nat) (most : Int) (D : Dc) (i : Int) (w : World) (hD : OkD 300 D) (h : DcAt B w b most D) (hB : B ≤ w.heap.size) :
    Calls Try.prog 11 #[.pointer (some ⟨b, 0, none⟩), .int .i64 i] w (RcP B b most (dropD D i) (.tuple #[.int .i64 (getD D i).1, .bool (getD D i).2]) w) := by
  have HI := hid (RIs_any b most D i w h.rd hD.lon)
  have HH := hid h
  by_cases g1 : isD D i = true
  · have HG := hid (show getD D i = (atL D.l i.toNat, true) from if_pos g1)
    have HE := hid (show dropD D i = ⟨D.l, D.on.set i.toNat false, D.free ++ [i.toNat]⟩ from if_pos g1)
    rw [g1] at HI
    obtain ⟨h1, h2, _⟩ := isD_iff.1 g1
    obtain ⟨k, rfl⟩ := Int.eq_ofNat_of_zero_le h1
    rw [Int.toNat_natCast] at HE HG
    have hkl : k < D.l.length := by omega
    obtain ⟨n, en⟩ : ∃ n, D.l.length = n := ⟨_, rfl⟩
    obtain ⟨m, em⟩ : ∃ m, D.free.length = m := ⟨_, rfl⟩
    obtain ⟨x, ex⟩ : ∃ x, atL D.l k = x := ⟨_, rfl⟩
    have hm300 := hD.lfr
    have EN := hid en
    have EM := hid em
    have EX := hid ex
    have LON := hid hD.lon
    rw [en] at hkl
    rw [em] at hm300
    obtain ⟨j0, ji, jz0, jz1, jz2⟩ := info_parts info_int
    have HJ := hid ji
    clear h h1 h2 g1 hD en em ji ex
    go_enter Try.func11, Try.ntmps11
    go_wp2_with fail
    refine HI.out.mono ?_
    rintro _ _ ⟨rfl, x1, rfl⟩
    obtain ⟨w1, ew1⟩ : ∃ w1, w1 = w.past x1 := ⟨_, rfl⟩
    have hb1 : Below w.heap.size w w1 := by rw [ew1]; exact w.below_past x1
    rw [← ew1]
    have hbig := HH.out.big
    obtain ⟨A1, c1, A2, c2, A3, c3, hrec, hL, hO, hF, hap⟩ := (HH.out.below hb1).ex
    rw [LON.out, EN.out, EM.out] at hrec
    rw [EN.out] at hL hap
    rw [LON.out, EN.out] at hO
    rw [EM.out] at hF hap
    obtain ⟨g1', cap1, eA, hg1⟩ := own_succ hL (by omega)
    cases eA
    obtain ⟨g2', cap2, eA, hg2⟩ := own_succ hO (by omega)
    cases eA
    have hgb2 : ¬ g2' = b := fun e => own_not_rec hO hrec (by decide) (by rw [e]; rfl)
    have hgb1 : ¬ g1' = b := fun e => own_not_rec hL hrec (by decide) (by rw [e]; rfl)
    have q2 := Rec.cell hrec 2
    simp at q2
    have hlt1 := Rec.lt hrec
    have hl2 := (hO.lt g2' rfl).2
    obtain ⟨u2, t2⟩ : ∃ u, w1.cell? ⟨g2', k, none⟩ = some u := by
      rw [hO.cellAt k (by omega)]
      exact ⟨_, List.getElem?_eq_getElem (by simp [bls, LON.out, EN.out]; exact hkl)⟩
    have p2 := hO.frozenAt k
    have st1 := hO.stored k (.bool false)
    have hr2 := Rec.grown hrec hO st1.2 (by decide)
    have hL2 := own_apart hL st1.2 (apart_types hL hO (by decide))
    have hF2 := own_apart hF st1.2 (apart_types hF hO (by decide))
    have hk2 := KeptT.grown (b := b) (ts := Tib) hO st1.2 (.inr rfl)
    have hb2 := (hb1.mono hB).setCell (p := ⟨g2', k, none⟩) hg2 (Value.bool false)
    have hO2 := st1.1
    have hB2 : B ≤ (w1.setCell ⟨g2', k, none⟩ (Value.bool false)).heap.size := by have := hb1.size; simp; omega
    have q3 := Rec.cell hr2 3
    simp at q3
    have HR := hid hr2
    have HL := hid hL2
    have HO := hid hO2
    have HF := hid hF2
    have HK := hid hk2
    have HB := hid hb2
    have HAP := hid hap
    clear ew1 hrec hL hO hF hap st1 hr2 hL2 hF2 hk2 hb2 hO2
    go_wp2_with (at_builtin; refine wpList_pushB rfl (.tmp 20) (.tmp 22) 39 rfl 3 j0 (.int .i64 0) 1 8 Try.underlying39 HJ.out jz0 jz1 jz2 rfl (by decide) B hB2 (.slice A3 m c3) m (i64s (nats D.free)) rfl HF.out _ #[.int .i64 k] ?c0 rfl rfl ?c1 ?c2 ?c3 ?_)
    case c0 => simp
    case c1 => rfl
    case c2 => omega
    case c3 => unfold maxLen; omega
    intro w3 g3 cap3 hF3 hg3 hap3
    have hr3 := Rec.grown HR.out HF.out hg3 (by decide)
    have hL3 := own_apart HL.out hg3 HAP.out
    have hO3 := own_apart HO.out hg3 (apart_types HO.out HF.out (by decide))
    have hp3 := hap3 _ HAP.out (fun k hk => by have := (HL.out.lt k hk).2; simpa using this)
    have q13 := Rec.cell hr3 1
    have q33 := Rec.cell hr3 3
    simp at q13 q33
    have f33 : w3.frozen? ⟨b, 3, none⟩ = false := Rec.frozen hr3 3
    have hlt3 := Rec.lt hr3
    have t1 : w3.cell? ⟨g1', k, none⟩ = some (.int .i64 x) := by
      rw [hL3.cellAt k (by omega)]
      have := EX.out
      unfold atL at this
      simp only [i64s, List.getElem?_map]
      rw [List.getElem?_eq_getElem (by rw [EN.out]; exact hkl)] at this ⊢
      simpa using this
    have HR3 := hid hr3
    have HL3 := hid hL3
    have HO3 := hid hO3
    have HF3 := hid hF3
    have HG3 := hid hg3
    have HP3 := hid hp3
    clear hr3 hL3 hO3 hF3 hg3 hp3 hap3
    go_wp2
    go_ret2
    have hk4 := (HK.out.trans (KeptT.grown HF.out HG3.out (.inl rfl))).trans (KeptT.setB w3 b 3 (Value.slice (some ⟨g3, 0, none⟩) (m + 1) cap3) _)
    have hb4 := (HB.out.grown HG3.out hB2 (fun k hk => (HF.out.lt k hk).1)).setCell (p := ⟨b, 3, none⟩) hbig (Value.slice (some ⟨g3, 0, none⟩) (m + 1) cap3)
    have hr4 := Rec.set HR3.out 3 (Value.slice (some ⟨g3, 0, none⟩) (m + 1) cap3)
    have hL4 := own_setB HL3.out HR3.out (by decide) 3 (Value.slice (some ⟨g3, 0, none⟩) (m + 1) cap3)
    have hO4 := own_setB HO3.out HR3.out (by decide) 3 (Value.slice (some ⟨g3, 0, none⟩) (m + 1) cap3)
    have hF4 := own_setB HF3.out HR3.out (by decide) 3 (Value.slice (some ⟨g3, 0, none⟩) (m + 1) cap3)
    have l2 : (D.on.set k false).length = n := by rw [List.length_set, LON.out, EN.out]
    have l3 : (D.free ++ [k]).length = m + 1 := by rw [List.length_append, EM.out]; rfl
    refine ⟨by rw [HG.out, EX.out]; rfl, ?_, hb4, (KeptT.of_below hb1 _ _).trans hk4⟩
    rw [HE.out]
    refine ⟨hbig, some ⟨g1', 0, none⟩, c1, some ⟨g2', 0, none⟩, c2, some ⟨g3, 0, none⟩, cap3, ?_, ?_, ?_, ?_, ?_⟩
    · simp only [EN.out, l2, l3]
      simpa using hr4
    · simp only [EN.out]
      exact hL4
    · simp only [l2]
      rw [← bls_set]
      exact hO4
    · simp only [l3]
      rw [← nats_snoc, ← i64s_snoc]
      exact hF4
    · simp only [EN.out, l3]
      exact HP3.out
  · have HE := hid (show dropD D i = D from if_neg g1)
    have HG := hid (show getD D i = (0, false) from if_neg g1)
    rw [Bool.eq_false_iff.2 g1] at HI
    clear h g1
    go_enter Try.func11, Try.ntmps11
    go_wp2_with (go_at_call 13; refine HI.out.mono ?_; rintro _ _ ⟨rfl, x1, rfl⟩)
    go_ret2
    exact ⟨by rw [HG.out]; rfl, by rw [HE.out]; exact HH.out.below (w.below_past _), (w.below_past _).mono hB, KeptT.of_below (w.below_past _) _ _⟩
end Go.Proofs.Ytgaenonggnkknaa
