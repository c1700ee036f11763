/-
  Layer 02: a pair that is put where none was dropped and there is room. No condition.
-/
import Derived.Test.YtgaenonggnkknaaTwoA
import Derived.Test.YtgaenonggnkknaaPushB
import Derived.Deep.RegionLaw
namespace Go.Proofs.Ytgaenonggnkknaa
open Go.RowKit
theorem info_slotP : (Try.prog.info? 70).map (fun i => (i.zero, i.size, i.bytes)) = some (some (.agg #[.int .i64 0, .int .i64 0, .bool false, .int .i64 0]), 4, 32) := by kernel_rfl
set_option maxHeartbeats 1000000 in
theorem TPut_any (B b : Nat) (most : Int) (S : Ar P2) (v : P2) (w : World) (hS : OkA 300 S) (h : ArT B w b most S) (hB : B ≤ w.heap.size) (h0 : S.free = 0) (hr : S.n < most) :
    Calls Try.prog 21 #[.pointer (some ⟨b, 0, none⟩), .agg #[.int .i64 v.1, .int .i64 v.2]] w (PutP 68 70 vP z2 2 B b most S v w) := by
  obtain ⟨va, vb⟩ := v
  obtain ⟨A, cp, hrec, hown⟩ := h.ex
  have hbig := h.big
  have q0 := Rec.cell hrec 0
  have q1 := Rec.cell hrec 1
  have q2 := Rec.cell hrec 2
  have q3 := Rec.cell hrec 3
  have f3 := Rec.frozen hrec 3
  simp at q0 q1 q2 q3
  have hlt := Rec.lt hrec
  have n0 := hS.n0
  have n1 := hS.n1
  have hlen := hS.len
  have e1 : IntKind.i64.wrap (S.n + 1) = S.n + 1 := by rw [IntKind.wrap_i64]; omega
  have g1 : ¬ most ≤ S.n := by omega
  have HE := hid (show putA z2 most S (va, vb) = (⟨S.l ++ [((va, vb), true, 0)], 0, S.n + 1⟩, S.l.length, 0) from by unfold putA; rw [if_neg g1, if_pos h0])
  have hz : (S.free : Int) = 0 := by omega
  rw [hz] at q2 hrec
  obtain ⟨j0, ji, jz0, jz1, jz2⟩ := info_parts info_slotP
  have HJ := hid ji
  have HR := hid hrec
  have HO := hid hown
  obtain ⟨n, en⟩ : ∃ n, S.l.length = n := ⟨_, rfl⟩
  have EN := hid en
  rw [en] at q1 hlen HR HO
  clear h hrec hown ji h0 hz en hS
  go_enter Try.func21, Try.ntmps21
  go_wp2_with fail
  obtain ⟨wv, ewv⟩ : ∃ wv, wv = w.alloc (.cells #[.int .i64 va, .int .i64 vb] 50) := ⟨_, rfl⟩
  have hbv : Below w.heap.size w wv := by rw [ewv]; exact (Below.refl _ w).alloc (Nat.le_refl _) _
  have hbox : Rec wv w.heap.size 50 #[.int .i64 va, .int .i64 vb] := by rw [ewv]; exact Rec.new w _ _
  have q0 := Rec.cell (HR.out.below hbv (Nat.le_refl _)) 0
  have q3 := Rec.cell (HR.out.below hbv (Nat.le_refl _)) 3
  simp at q0 q3
  rw [← ewv]
  have HV := hid hbv
  have HX := hid hbox
  clear ewv hbv hbox q1 q2 f3
  refine wp_region_past (by kernel_rfl) (by kernel_rfl) ?_
  repeat (go_big_quiet_step ((fail)))
  refine wpQuiet_nil ?_
  rintro _ ⟨_, rfl⟩
  rename_i x1
  obtain ⟨w1, ew1⟩ : ∃ w1, w1 = wv.past x1 := ⟨_, rfl⟩
  have hb1 : Below w.heap.size w w1 := by rw [ew1]; exact HV.out.trans ((wv.below_past x1).mono HV.out.size)
  have hbox : Rec w1 w.heap.size 50 #[.int .i64 va, .int .i64 vb] := by rw [ew1]; exact HX.out.past x1
  have hrec := HR.out.below hb1 (Nat.le_refl _)
  have hown := own_below HO.out hb1 (Nat.le_refl _)
  obtain ⟨bv, ebv⟩ : ∃ bv, w.heap.size = bv := ⟨_, rfl⟩
  have hbv : b ≠ bv := by omega
  have hBv : B ≤ bv := by omega
  rw [← ew1]
  rw [ebv] at hbox ⊢
  have hrec2 := Rec.set hrec 3 (.int .i64 (S.n + 1))
  have hown2 := own_setB hown hrec (by decide) 3 (.int .i64 (S.n + 1))
  have hbox2 := Rec.set_other hbox (p := ⟨b, 3, none⟩) hbv (.int .i64 (S.n + 1))
  have q3 := Rec.cell hrec 3
  have q2 := Rec.cell hrec 2
  have f3 := Rec.frozen hrec 3
  have hlt1 := Rec.lt hrec
  simp at q2 q3
  obtain ⟨w2, ew2⟩ : ∃ w2, w2 = w1.setCell ⟨b, 3, none⟩ (.int .i64 (S.n + 1)) := ⟨_, rfl⟩
  rw [← ew2] at hrec2 hown2 hbox2
  have hb2 : Below B w w2 := by rw [ew2]; exact (hb1.mono hB).setCell (p := ⟨b, 3, none⟩) hbig _
  have hk2 : KeptT b (fun t => t = 70) w1 w2 := by rw [ew2]; exact KeptT.setB w1 b 3 _ _
  have HR2 := hid hrec2
  have HO2 := hid hown2
  have HX2 := hid hbox2
  have EW2 := hid ew2
  have HB1 := hid hb1
  have HB2 := hid hb2
  have HK2 := hid hk2
  clear hrec hown hbox hrec2 hown2 hbox2 ew2 ew1 hb2 hk2 hb1 HV HX HR HO q0
  go_wp2_with fail
  rw [← EW2.out]
  have d1 : w2.cell? ⟨b, 1, none⟩ = some (.slice A n cp) := by rw [Rec.cell HR2.out]; simp
  have d2 : w2.cell? ⟨bv, 0, none⟩ = some (.int .i64 va) := by rw [Rec.cell HX2.out]; rfl
  have d3 : w2.cell? ⟨bv, 1, none⟩ = some (.int .i64 vb) := by rw [Rec.cell HX2.out]; rfl
  have f1 : w2.frozen? ⟨b, 1, none⟩ = false := Rec.frozen HR2.out 1
  have hlt2 := Rec.lt HR2.out
  have hs2 : B ≤ w2.heap.size := Nat.le_trans hB HB2.out.size
  clear q2 q3 f3 hlt1
  have hltv := Rec.lt HX2.out
  have hbv1 : ¬ bv = b := fun e => hbv e.symm
  have hbv2 : ¬ b = bv := hbv
  go_region_law ((refine step_pushB rfl (.tmp 36) (.tmp 39) 66 rfl 70 j0 (.agg #[.int .i64 0, .int .i64 0, .bool false, .int .i64 0]) 4 32 Try.underlying66 HJ.out jz0 jz1 jz2 rfl (by decide) B ?_ (.slice A n cp) n (tab (slV vP) S.l) ?_ HO2.out.drew _ #[.int .i64 va, .int .i64 vb, .bool true, .int .i64 0] ?_ rfl rfl ?_ ?_ ?_ ?_; (· exact hs2); (· rfl); (· simp [go_sem]); (· simp [Value.oneCell']); (· omega); (· unfold maxLen; omega); intro w3 g3 c3 ho3 hg3 _; have HO3 := hid ho3; have HG3 := hid hg3; have HR3 := hid (Rec.grown (Rec.drew HR2.out) HO2.out.drew hg3 (by decide)); have HX3 := hid (Rec.grown (Rec.drew HX2.out) HO2.out.drew hg3 (by decide)); have f13 : w3.frozen? ⟨b, 1, none⟩ = false := Rec.frozen HR3.out 1; have hlt3 := Rec.lt HR3.out; have d13 : w3.cell? ⟨b, 1, none⟩ = some (.slice A n cp) := (by rw [Rec.cell HR3.out]; simp); clear ho3 hg3))
  all_goals (
    have e2 : IntKind.i64.wrap ((n : Int) + 1 - 1) = n := by rw [IntKind.wrap_i64]; omega
    go_wp2
    go_ret2
    have hk3 := ((HK2.out.trans (KeptT.of_below (Below.refl _ _).drew _ _)).trans (KeptT.grown HO2.out.drew HG3.out rfl)).trans (KeptT.setB w3 b 1 (.slice (some ⟨g3, 0, none⟩) (n + 1) c3) _)
    refine ⟨by rw [HE.out, EN.out]; rfl, ?_, ?_, (KeptT.of_below HB1.out _ _).trans hk3⟩
    · rw [HE.out]
      have l1 : (S.l ++ [(((va, vb) : P2), true, 0)]).length = n + 1 := by rw [List.length_append, EN.out]; rfl
      refine ⟨hbig, some ⟨g3, 0, none⟩, c3, ?_, ?_⟩
      · have := Rec.set HR3.out 1 (.slice (some ⟨g3, 0, none⟩) (n + 1) c3)
        simp only [l1]
        simpa using this
      · have := own_setB HO3.out HR3.out (by decide) 1 (.slice (some ⟨g3, 0, none⟩) (n + 1) c3)
        simp only [l1]
        rw [← tab_snoc]
        exact this
    · exact ((HB2.out.drew).grown HG3.out hs2 (fun k hk => (HO2.out.drew.lt k hk).1)).setCell (p := ⟨b, 1, none⟩) hbig _)
end Go.Proofs.Ytgaenonggnkknaa
