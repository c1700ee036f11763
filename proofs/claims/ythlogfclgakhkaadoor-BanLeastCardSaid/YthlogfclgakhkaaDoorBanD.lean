/-
  Layer 21: the next turn. No condition.
-/
import Derived.Test.YthlogfclgakhkaaDoorBanC
import Derived.Test.YthlogfclgakhkaaDoorTabSet
namespace Go.Proofs.YthlogfclgakhkaaDoor
open Go.RowKit Go.Shelf
attribute [local go_sem] Oper.semAt_some
/-- A play behind a store of its turn. -/
theorem PlAt.turn {B b : Nat} {w : World} {S : Bn} (h : PlAt B w b S) (p u : Int) :
    PlAt B ((w.setCell ⟨b, 0, none⟩ (.int .i64 p)).setCell ⟨b, 1, none⟩ (.int .i64 u)) b { S with p := p, u := u } ∧ Below B w ((w.setCell ⟨b, 0, none⟩ (.int .i64 p)).setCell ⟨b, 1, none⟩ (.int .i64 u)) ∧ w.frozen? ⟨b, 0, none⟩ = false ∧ w.frozen? ⟨b, 1, none⟩ = false ∧ b < w.heap.size := by
  obtain ⟨A, c', Ag, cg, h1, h2, h3, h4, h5, h6⟩ := h.ex
  have hbig := h.big
  refine ⟨⟨h.big, A, c', Ag, cg, ?_, ?_, ?_, h4, h5, h6⟩, ((Below.refl B w).setCell (p := ⟨b, 0, none⟩) h.big _).setCell (p := ⟨b, 1, none⟩) h.big _, Rec.frozen h1 0, Rec.frozen h1 1, Rec.lt h1⟩
  · have := (h1.set 0 (.int .i64 p)).set 1 (.int .i64 u)
    simpa using this
  · exact own_setB (own_setB h2 h1 (by decide) 0 _) (h1.set 0 _) (by decide) 1 _
  · intro hne
    obtain ⟨b1, o1, e, hc⟩ := h3 hne
    refine ⟨b1, o1, e, fun i v hi => ?_⟩
    have hne2 : b1 ≠ b := fun e2 => by have := h6 b1 o1 e (fun e0 => hne (by rw [e0]; rfl)); omega
    rw [World.cell?_of_block (heap_setCell_other _ ⟨b, 1, none⟩ b1 _ hne2), World.cell?_of_block (heap_setCell_other w ⟨b, 0, none⟩ b1 _ hne2)]
    exact hc i v hi
theorem PlAt.turnK (w : World) (b : Nat) (p u : Int) (ts : TypeId → Prop) :
    KeptT b ts w ((w.setCell ⟨b, 0, none⟩ (.int .i64 p)).setCell ⟨b, 1, none⟩ (.int .i64 u)) :=
  (KeptT.setB w b 0 _ ts).trans (KeptT.setB _ b 1 _ ts)
theorem next_u64 (n : Nat) (h : n < 2 ^ 8) : U64 (n : Int) := by
  have : (2 : Nat) ^ 8 = 256 := rfl
  exact ⟨by omega, by omega⟩
theorem leftF_le (u s : Int) : 0 ≤ leftF u s ∧ leftF u s ≤ 16 := by
  unfold leftF
  have h1 := bring_le s
  have h2 := bring_le2 u _ h1.1
  omega
set_option maxRecDepth 100000 in
set_option maxHeartbeats 8000000 in
theorem next_any {B b : Nat} {w : World} {S : Bn} (h : PlAt B w b S) (hZ : Tz w) (hB : B ≤ w.heap.size) (hZB : 0 < B) (hl8 : S.v.length ≤ 8) (hwt : S.wt < 2 ^ S.v.length) (hu : I64 S.u) (k : Nat) (hk : nxP S = k) (hkn : k < S.v.length) (hvk : U64 (atD S.v k)) :
    Calls Tryd.prog 19 #[.pointer (some ⟨b, 0, none⟩)] w (fun e w' => e = .returned (.tuple #[.int .i64 (nxP S), .int .i64 (nxN S)]) ∧ PlAt B w' b (nxS S) ∧ Below B w w' ∧ KeptT b (fun t => t = 22) w w') := by
  obtain ⟨c0, c1, c2, c3⟩ := h.cells
  have hw8 : S.wt < 2 ^ 8 := Nat.lt_of_lt_of_le hwt (Nat.pow_le_pow_right (by omega) hl8)
  have HLs := hid (fun y : Past => least_any hl8 hwt (h.far (w.below_past y)) (hZ.past y))
  have HN := hid (fun W => Next_any S.p S.u S.s (S.wt : Int) (encB (leastV S.v S.wt)) W (next_u64 _ hw8))
  have HH := hid h
  have HPU := hid (show nextP S.p S.u S.s (S.wt : Int) (encB (leastV S.v S.wt)) = nxP S ∧ nextU S.p S.u S.s (S.wt : Int) = nxU S from ⟨rfl, rfl⟩)
  rw [HPU.out.1, HPU.out.2, hk] at HN
  have hnu : I64 (nxU S) := by
    show I64 (nextU S.p S.u S.s S.wt)
    unfold nextU
    split
    · exact hu
    · exact ⟨by omega, by omega⟩
  obtain ⟨n, en⟩ : ∃ n : Nat, nxN S = n := ⟨(nxN S).toNat, by have := (leftF_le (nxU S) S.s).1; show leftF (nxU S) S.s = _; unfold nxN; omega⟩
  have hn16 : n ≤ 16 := by have := (leftF_le (nxU S) S.s).2; have e : leftF (nxU S) S.s = n := en; omega
  have HLF := hid (fun W => Left_any (k : Int) (nxU S) S.s W hnu)
  have HEF := hid (fun W => End_any (k : Int) (nxU S) S.s W)
  have EN := hid en
  rw [show leftF (nxU S) S.s = n from en] at HLF
  have HNX := hid (show nxS S = { S with p := (k : Int), u := endF (nxU S) S.s, v := payF S.v S.g k n } by unfold nxS; rw [hk, en])
  have HK := hid hk
  rw [hk, en]
  clear h hZ hk en hnu hu
  go_enter Tryd.func19, Tryd.ntmps19
  go_wp2_with fail
  refine wp_region_last (C := fun w' => ∃ x : Past, w' = w.past x) 18 [] (by kernel_rfl) (by kernel_rfl) (by kernel_rfl) rfl (by kernel_rfl) (.inl rfl) (past_of ⟨rfl, rfl, rfl, Nat.le_refl _, fun _ _ => rfl⟩) ?_
  simp only [List.take_succ_cons, List.take_zero]
  repeat (go_big_quiet_step ((first | (go_at_call 15; first | with_reducible exact Calls.in_past (HLs.out _) | with_reducible exact Calls.in_past2 (HLs.out _)) | (go_at_call 16; first | with_reducible exact Calls.in_past (HN.out _) | with_reducible exact Calls.in_past2 (HN.out _)) | (go_at_call 15; first | exact Calls.in_past (HLs.out _) | exact Calls.in_past2 (HLs.out _)) | (go_at_call 16; first | exact Calls.in_past (HN.out _) | exact Calls.in_past2 (HN.out _)))))
  refine wpQuiet_nil ?_
  rintro _ ⟨xq, rfl⟩
  obtain ⟨h1, hb1, f0, f1, l1⟩ := (HH.out.far (w.below_past xq)).turn (k : Int) (nxU S)
  have H1 := hid h1
  have HB1 := hid ((w.below_past xq).mono hB |>.trans hb1)
  have HK1 := hid ((KeptT.of_below (w.below_past xq) b (fun t => t = 22)).trans (PlAt.turnK (w.past xq) b (k : Int) (nxU S) _))
  clear h1 hb1
  refine wpOp_step rfl (fun K hK => ?_)
  go_simp
  refine hK _ _ ?_
  clear hK K
  obtain ⟨w2, ew2⟩ : ∃ W, W = (((w.past xq).setCell ⟨b, 0, none⟩ (.int .i64 (k : Int))).setCell ⟨b, 1, none⟩ (.int .i64 (nxU S))) := ⟨_, rfl⟩
  rw [← ew2] at H1 HB1 HK1 ⊢
  clear ew2 f0 f1 l1 c0 c1 c2 c3
  obtain ⟨c0, c1, c2, c3⟩ := H1.out.cells
  simp only at c0 c1 c2
  go_wp2_with fail
  refine wp_region_past (by kernel_rfl) (by kernel_rfl) ?_
  repeat (go_big_quiet_step ((first | (go_at_call 26; first | with_reducible exact Calls.in_past (HLF.out _) | with_reducible exact Calls.in_past2 (HLF.out _)) | (go_at_call 26; first | exact Calls.in_past (HLF.out _) | exact Calls.in_past2 (HLF.out _)))))
  refine wpQuiet_nil ?_
  rintro _ ⟨_, rfl⟩
  rename_i x3
  obtain ⟨w3, ew3⟩ : ∃ W, W = w2.past x3 := ⟨_, rfl⟩
  have hb3 : Below w2.heap.size w2 w3 := by rw [ew3]; exact w2.below_past x3
  rw [← ew3]
  have h3 := H1.out.far hb3
  have HK3 := hid (HK1.out.trans (KeptT.of_below hb3 b _))
  have HB3 := hid (HB1.out.trans (hb3.mono (Nat.le_trans hB HB1.out.size)))
  have HP := hid (pay_any h3 (Nat.le_trans hB HB3.out.size) k hkn hvk n hn16)
  clear c0 c1 c2 c3
  obtain ⟨c0, c1, c2, c3⟩ := h3.cells
  simp only at c0 c1 c2
  clear h3 ew3 hb3
  go_upto_region 4 with (go_at_call 27; refine HP.out.mono ?_; rintro _ w4 ⟨rfl, h4, hb4, hk4⟩; have HK4 := hid (HK3.out.trans hk4); clear hk4; have H4 := hid h4; have HB4 := hid (HB3.out.trans hb4); clear h4 hb4 c0 c1 c2 c3)
  obtain ⟨c0, c1, c2, c3⟩ := H4.out.cells
  simp only at c0 c1 c2
  refine wp_region_last (C := fun w' => ∃ x : Past, w' = w4.past x) 12 [] (by kernel_rfl) (by kernel_rfl) (by kernel_rfl) rfl (by kernel_rfl) (.inl rfl) (past_of ⟨rfl, rfl, rfl, Nat.le_refl _, fun _ _ => rfl⟩) ?_
  simp only [List.take_succ_cons, List.take_zero]
  repeat (go_big_quiet_step ((first | (go_at_call 28; first | with_reducible exact Calls.in_past (HEF.out _) | with_reducible exact Calls.in_past2 (HEF.out _)) | (go_at_call 28; first | exact Calls.in_past (HEF.out _) | exact Calls.in_past2 (HEF.out _)))))
  refine wpQuiet_nil ?_
  rintro _ ⟨xq, rfl⟩
  obtain ⟨h5, hb5, f0, f1, l1⟩ := (H4.out.far (w4.below_past xq)).turn (k : Int) (endF (nxU S) S.s)
  have H5 := hid h5
  have HB5 := hid (HB4.out.trans (((w4.below_past xq).mono (Nat.le_trans hB HB4.out.size)).trans hb5))
  have HK5 := hid (HK4.out.trans ((KeptT.of_below (w4.below_past xq) b _).trans (PlAt.turnK (w4.past xq) b (k : Int) (endF (nxU S) S.s) _)))
  clear h5 hb5
  refine wpOp_step rfl (fun K hK => ?_)
  go_simp
  refine hK _ _ ?_
  clear hK K
  obtain ⟨w5, ew5⟩ : ∃ W, W = (((w4.past xq).setCell ⟨b, 0, none⟩ (.int .i64 (k : Int))).setCell ⟨b, 1, none⟩ (.int .i64 (endF (nxU S) S.s))) := ⟨_, rfl⟩
  rw [← ew5] at H5 HB5 HK5 ⊢
  clear ew5 f0 f1 l1 c0 c1 c2 c3
  obtain ⟨c0, c1, c2, c3⟩ := H5.out.cells
  simp only at c0 c1 c2
  go_wp2_with fail
  go_ret2
  refine ⟨rfl, ?_, HB5.out, HK5.out⟩
  rw [HNX.out]
  exact H5.out
end Go.Proofs.YthlogfclgakhkaaDoor
