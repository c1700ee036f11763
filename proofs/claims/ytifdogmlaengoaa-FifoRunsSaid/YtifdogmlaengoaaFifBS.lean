/-
  Layer 05: the arena of links with strings: what is put into it. No condition.
-/
import Derived.Test.YtifdogmlaengoaaFifAS
import Derived.Test.YtifdogmlaengoaaPushB
namespace Go.Proofs.Ytifdogmlaengoaa
open Go.RowKit
set_option maxHeartbeats 4000000 in
theorem LPutS_any (c B b : Nat) (most : Int) (S : Ar LkS) (v : LkS) (w : World) (hS : OkA c S) (hcc : c ≤ 100000) {G : Option Nat} (h : ArLS B w b G most S) (hB : B ≤ w.heap.size) :
    Calls Try.prog 36 #[.pointer (some ⟨b, 0, none⟩), aLS v] w (PutP 92 94 fLS zLS 4 B b G most S v w) := by
  obtain ⟨v1, v2, v3, v4⟩ := v
  show Calls Try.prog _ #[.pointer (some ⟨b, 0, none⟩), .agg #[.string v1, .int .i64 v2, .int .i64 v3, .int .i64 v4]] w _
  have hbig := h.big
  have hlt0 := h.lt
  have n0 := hS.n0
  have n1 := hS.n1
  have hlen := hS.len
  have hfree := hS.free
  have e1 : IntKind.i64.wrap (S.n + 1) = S.n + 1 := by rw [IntKind.wrap_i64]; omega
  obtain ⟨wv, ewv⟩ : ∃ wv, wv = w.alloc (.cells #[.string v1, .int .i64 v2, .int .i64 v3, .int .i64 v4] 79) := ⟨_, rfl⟩
  have hbv : Below w.heap.size w wv := by rw [ewv]; exact (Below.refl _ w).alloc (Nat.le_refl _) _
  obtain ⟨bv, ebv⟩ : ∃ bv, w.heap.size = bv := ⟨_, rfl⟩
  have hbox : Rec wv bv 79 #[.string v1, .int .i64 v2, .int .i64 v3, .int .i64 v4] := by rw [ewv, ← ebv]; exact Rec.new w _ _
  have HV := hid hbv
  have HX := hid hbox
  have HH := hid h
  have EWV := hid ewv
  have hbb : b ≠ bv := by omega
  have hBv : B ≤ bv := by omega
  have hwbv : w.heap.size ≤ bv := by rw [ebv]; exact Nat.le_refl _
  have EBV := hid ebv
  clear ewv hbv hbox ebv h
  by_cases g1 : most ≤ S.n
  · have HE := hid (show putA zLS most S (v1, v2, v3, v4) = (S, 0, 3) from if_pos g1)
    obtain ⟨A, cp, hrec, hown, hGe⟩ := (HH.out.below HV.out).ex
    have q0 := Rec.cell hrec 0
    have q3 := Rec.cell hrec 3
    simp at q0 q3
    clear hrec hown
    go_enter Try.func36, Try.ntmps36
    go_upto_region 1 with (fail)
    rw [← EWV.out, EBV.out]
    go_wp2_with fail
    refine wp_region_past (by kernel_rfl) (by kernel_rfl) ?_
    repeat (go_big_quiet_step ((fail)))
    refine wpQuiet_nil ?_
    rintro _ ⟨_, rfl⟩
    go_wp2_with fail
    go_ret2
    have hb1 := HV.out.trans ((wv.below_past ‹Past›).mono HV.out.size)
    exact ⟨by rw [HE.out]; rfl, ⟨_, by rw [HE.out]; exact HH.out.below hb1, .inl rfl⟩, hb1.mono hB, keptA_below hb1 _ _⟩
  · have g1' : (decide (S.n ≥ most)) = false := by simpa using g1
    by_cases g2 : S.free = 0
    · have HE := hid (show putA zLS most S (v1, v2, v3, v4) = (⟨S.l ++ [((v1, v2, v3, v4), true, 0)], 0, S.n + 1⟩, S.l.length, 0) from by unfold putA; rw [if_neg g1, if_pos g2])
      have hz : (S.free : Int) = 0 := by omega
      obtain ⟨j0, ji, jz0, jz1, jz2⟩ := info_parts info_slotLS
      have HJ := hid ji
      obtain ⟨A, cp, hrec, hown, hGe⟩ := HH.out.ex
      rw [hz] at hrec
      obtain ⟨n, en⟩ : ∃ n, S.l.length = n := ⟨_, rfl⟩
      have EN := hid en
      rw [en] at hrec hown hlen hGe
      subst hGe
      have q0 := Rec.cell (hrec.below HV.out (Nat.le_refl _)) 0
      have q3 := Rec.cell (hrec.below HV.out (Nat.le_refl _)) 3
      simp at q0 q3
      have HR := hid hrec
      have HO := hid hown
      clear hrec hown ji g2 hz en hS hfree
      go_enter Try.func36, Try.ntmps36
      go_upto_region 1 with (fail)
      rw [← EWV.out, EBV.out]
      go_wp2_with fail
      refine wp_region_past (by kernel_rfl) (by kernel_rfl) ?_
      repeat (go_big_quiet_step ((fail)))
      refine wpQuiet_nil ?_
      rintro _ ⟨_, rfl⟩
      rename_i y1
      obtain ⟨w1, ew1⟩ : ∃ w1, w1 = wv.past y1 := ⟨_, rfl⟩
      have hb1 : Below w.heap.size w w1 := by rw [ew1]; exact HV.out.trans ((wv.below_past y1).mono HV.out.size)
      have hbox : Rec w1 bv 79 #[.string v1, .int .i64 v2, .int .i64 v3, .int .i64 v4] := by rw [ew1]; exact HX.out.past y1
      have hrec := HR.out.below hb1 (Nat.le_refl _)
      have hown := own_below HO.out hb1 (Nat.le_refl _)
      rw [← ew1]
      have hrec2 := Rec.set hrec 3 (.int .i64 (S.n + 1))
      have hown2 := own_setB hown hrec (by decide) 3 (.int .i64 (S.n + 1))
      have hbox2 := Rec.set_other hbox (p := ⟨b, 3, none⟩) hbb (.int .i64 (S.n + 1))
      have q3 := Rec.cell hrec 3
      have q2 := Rec.cell hrec 2
      have f3 := Rec.frozen hrec 3
      have hlt1 := Rec.lt hrec
      simp at q2 q3
      obtain ⟨w2, ew2⟩ : ∃ w2, w2 = w1.setCell ⟨b, 3, none⟩ (.int .i64 (S.n + 1)) := ⟨_, rfl⟩
      rw [← ew2] at hrec2 hown2 hbox2
      have hb2 : Below B w w2 := by rw [ew2]; exact (hb1.mono hB).setCell (p := ⟨b, 3, none⟩) hbig _
      have hk2 : KeptA b (Value.slice A n cp).ownBlock w1 w2 := by rw [ew2]; exact keptA_set w1 b 3 _ _
      have HR2 := hid hrec2
      have HO2 := hid hown2
      have HX2 := hid hbox2
      have EW2 := hid ew2
      have HB1 := hid hb1
      have HB2 := hid hb2
      have HK2 := hid hk2
      clear hrec hown hbox hrec2 hown2 hbox2 ew2 ew1 hb2 hk2 hb1 HV HX HR HO q0
      go_wp2_with fail
      rw [← EW2.out]
      have d1 : w2.cell? ⟨b, 1, none⟩ = some (.slice A n cp) := by rw [Rec.cell HR2.out]; simp
      have d2 : w2.cell? ⟨bv, 0, none⟩ = some (.string v1) := by rw [Rec.cell HX2.out]; rfl
      have d3 : w2.cell? ⟨bv, 1, none⟩ = some (.int .i64 v2) := by rw [Rec.cell HX2.out]; rfl
      have d4 : w2.cell? ⟨bv, 2, none⟩ = some (.int .i64 v3) := by rw [Rec.cell HX2.out]; rfl
      have d5 : w2.cell? ⟨bv, 3, none⟩ = some (.int .i64 v4) := by rw [Rec.cell HX2.out]; rfl
      have f1 : w2.frozen? ⟨b, 1, none⟩ = false := Rec.frozen HR2.out 1
      have hlt2 := Rec.lt HR2.out
      have hs2 : B ≤ w2.heap.size := Nat.le_trans hB HB2.out.size
      have hs12 : w1.heap.size ≤ w2.heap.size := HK2.out.size
      clear q2 q3 f3 hlt1
      have hltv := Rec.lt HX2.out
      have hbv1 : ¬ bv = b := fun e => hbb e.symm
      have hbv2 : ¬ b = bv := hbb
      go_region_law ((refine step_pushB rfl (.tmp 36) (.tmp 39) 90 rfl 94 j0 (.agg #[.string ⟨#[]⟩, .int .i64 0, .int .i64 0, .int .i64 0, .bool false, .int .i64 0]) 6 56 Try.underlying90 HJ.out jz0 jz1 jz2 rfl (by decide) B ?_ (.slice A n cp) n (tab (slV fLS) S.l) ?_ HO2.out.drew _ #[.string v1, .int .i64 v2, .int .i64 v3, .int .i64 v4, .bool true, .int .i64 0] ?_ rfl rfl ?_ ?_ ?_ ?_; (· exact hs2); (· rfl); (· simp [go_sem]); (· simp [Value.oneCell']); (· omega); (· unfold maxLen; omega); intro w3 g3 c3 ho3 hg3 hor3; have HO3 := hid ho3; have HG3 := hid hg3; have HR3 := hid (Rec.grown (Rec.drew HR2.out) HO2.out.drew hg3 (by decide)); have HX3 := hid (Rec.grown (Rec.drew HX2.out) HO2.out.drew hg3 (by decide)); have f13 : w3.frozen? ⟨b, 1, none⟩ = false := Rec.frozen HR3.out 1; have hlt3 := Rec.lt HR3.out; have d13 : w3.cell? ⟨b, 1, none⟩ = some (.slice A n cp) := (by rw [Rec.cell HR3.out]; simp); have HOR3 := hid (apart_or hor3); clear ho3 hg3 hor3))
      all_goals (
        have e2 : IntKind.i64.wrap ((n : Int) + 1 - 1) = n := by rw [IntKind.wrap_i64]; omega
        go_wp2
        go_ret2
        have hk3 := ((HK2.out.trans (keptA_below (Below.refl _ _).drew _ _)).trans (keptA_grown (b := b) HG3.out)).trans (keptA_set w3 b 1 (.slice (some ⟨g3, 0, none⟩) (n + 1) c3) _)
        refine ⟨by rw [HE.out, EN.out]; rfl, ?_, ?_, (keptA_below HB1.out _ _).trans hk3⟩
        · rw [HE.out]
          have l1 : (S.l ++ [((v1, v2, v3, v4), true, 0)]).length = n + 1 := by rw [List.length_append, EN.out]; rfl
          refine ⟨some g3, ⟨hbig, some ⟨g3, 0, none⟩, c3, ?_, ?_, rfl⟩, ?_⟩
          · have := Rec.set HR3.out 1 (.slice (some ⟨g3, 0, none⟩) (n + 1) c3)
            simp only [l1]
            simpa using this
          · have := own_setB HO3.out HR3.out (by decide) 1 (.slice (some ⟨g3, 0, none⟩) (n + 1) c3)
            simp only [l1]
            rw [← tab_snoc]
            exact this
          · rcases HOR3.out with h | h
            · exact .inl h.symm
            · exact .inr ⟨g3, rfl, Nat.le_trans (Nat.le_trans HB1.out.size hs12) h⟩
        · exact ((HB2.out.drew).grown HG3.out hs2 (fun k hk => (HO2.out.drew.lt k hk).1)).setCell (p := ⟨b, 1, none⟩) hbig _)
    · obtain ⟨k, hk⟩ : ∃ k, S.free = k + 1 := ⟨S.free - 1, by omega⟩
      have hkl : k < S.l.length := by omega
      have HE := hid (show putA zLS most S (v1, v2, v3, v4) = (⟨S.l.set k ((v1, v2, v3, v4), true, 0), (slotA zLS S.l k).2.2, S.n + 1⟩, k, 0) from by unfold putA; rw [if_neg g1, if_neg g2, hk]; rfl)
      obtain ⟨A, cp, hrec, hown, hGe⟩ := (HH.out.below HV.out).ex
      obtain ⟨g, cap, eA, _⟩ := own_succ hown (by omega)
      cases eA
      obtain rfl : some g = G := hGe
      have hgb : ¬ g = b := fun e => own_not_rec hown hrec (by decide) (by rw [e]; rfl)
      have hgv : ¬ g = bv := fun e => own_not_rec hown HX.out (by decide) (by rw [e]; rfl)
      have hat := hown.cellAt (k * 6 + 5) (by omega)
      rw [tab_get (slV_length (c := 4) (fun _ => rfl)) S.l k _ 5 (slot_at (z := zLS) hkl) (by omega)] at hat
      have hat2 : wv.cell? ⟨g, k * 6 + 5, none⟩ = some (.int .i64 (slotA zLS S.l k).2.2) := hat
      generalize hnx : (slotA zLS S.l k).2.2 = nx at HE hat2
      have q0 := Rec.cell hrec 0
      have q3 := Rec.cell hrec 3
      simp at q0 q3
      have HR := hid hrec
      have HO := hid hown
      have e3 : IntKind.i64.wrap ((S.free : Int) - 1) = k := by rw [IntKind.wrap_i64, hk]; omega
      have hz : ¬ (S.free : Int) = 0 := by omega
      obtain ⟨fr, efr⟩ : ∃ fr, S.free = fr := ⟨_, rfl⟩
      obtain ⟨n, en⟩ : ∃ n, S.l.length = n := ⟨_, rfl⟩
      have EN := hid en
      have hb1' := hid hat2
      rw [efr] at HR e3 hz
      rw [en] at HR HO hkl
      clear hrec hown g2 hat hat2 hk hnx efr en hfree hlen hS
      go_enter Try.func36, Try.ntmps36
      go_upto_region 1 with (fail)
      rw [← EWV.out, EBV.out]
      go_wp2_with fail
      refine wp_region_past (by kernel_rfl) (by kernel_rfl) ?_
      repeat (go_big_quiet_step ((fail)))
      refine wpQuiet_nil ?_
      rintro _ ⟨_, rfl⟩
      rename_i y1
      obtain ⟨w1, ew1⟩ : ∃ w1, w1 = wv.past y1 := ⟨_, rfl⟩
      have hb1v : Below wv.heap.size wv w1 := by rw [ew1]; exact wv.below_past y1
      have hb1 : Below w.heap.size w w1 := HV.out.trans (hb1v.mono HV.out.size)
      have hbox : Rec w1 bv 79 #[.string v1, .int .i64 v2, .int .i64 v3, .int .i64 v4] := by rw [ew1]; exact HX.out.past y1
      have hrec := HR.out.below hb1v (Nat.le_refl _)
      have hown := own_below HO.out hb1v (Nat.le_refl _)
      have q1 := Rec.cell hrec 1
      have q2 := Rec.cell hrec 2
      have q3 := Rec.cell hrec 3
      have f2 := Rec.frozen hrec 2
      have f3 := Rec.frozen hrec 3
      have d0 := Rec.cell hbox 0
      have d1 := Rec.cell hbox 1
      have d2 := Rec.cell hbox 2
      have d3 := Rec.cell hbox 3
      have qn := below_cell hb1v (Nat.le_refl _) _ _ hb1'.out
      have hs := fun j hj => own_there hown (o := k * 6) (m := 6) (by omega) j hj
      obtain ⟨u0, t0⟩ := Option.isSome_iff_exists.1 (hs 0 (by omega)).1
      obtain ⟨u1, t1⟩ := Option.isSome_iff_exists.1 (hs 1 (by omega)).1
      obtain ⟨u2, t2⟩ := Option.isSome_iff_exists.1 (hs 2 (by omega)).1
      obtain ⟨u3, t3⟩ := Option.isSome_iff_exists.1 (hs 3 (by omega)).1
      obtain ⟨u4, t4⟩ := Option.isSome_iff_exists.1 (hs 4 (by omega)).1
      have p0 := (hs 0 (by omega)).2
      have p1 := (hs 1 (by omega)).2
      have p2 := (hs 2 (by omega)).2
      have p3 := (hs 3 (by omega)).2
      have p4 := (hs 4 (by omega)).2
      have p5 := (hs 5 (by omega)).2
      rw [Nat.add_zero] at t0 p0
      simp at q1 q2 q3 d0 d1 d2 d3
      have hlt := Rec.lt hrec
      have hltv := Rec.lt hbox
      have hltg : g < w1.heap.size := (hown.lt g rfl).2
      rw [← ew1]
      have hrec2 := Rec.set (Rec.set hrec 3 (.int .i64 (S.n + 1))) 2 (.int .i64 nx)
      have hown2 := own_setB (own_setB hown hrec (by decide) 3 (.int .i64 (S.n + 1))) (Rec.set hrec 3 (.int .i64 (S.n + 1))) (by decide) 2 (.int .i64 nx)
      have hput := own_put (slV_length (f := fLS) (c := 4) (fun _ => rfl)) (by omega) (l := S.l) (by rw [EN.out]; exact hown2) (k := k) (by rw [EN.out]; exact hkl) ((v1, v2, v3, v4), true, 0)
      have HR2 := hid hrec2
      have HO2 := hid hown2
      have HP := hid hput
      have hbv2 : ¬ b = bv := hbb
      have hbv1 : ¬ bv = b := fun e => hbb e.symm
      have hvg : ¬ bv = g := fun e => hgv e.symm
      clear ew1 hrec hown hrec2 hown2 hput hs hbox hb1'
      go_upto_region 11 with (fail)
      go_region
      go_wp2
      go_ret2
      have hk1 : KeptA b (some g) w1 ((w1.setCell ⟨b, 3, none⟩ (.int .i64 (S.n + 1))).setCell ⟨b, 2, none⟩ (.int .i64 nx)) := (keptA_set w1 b 3 _ _).trans (keptA_set _ b 2 _ _)
      have hk2 := ((keptA_below hb1 b (some g)).trans hk1).trans (keptA_grown (b := b) HP.out.2.1)
      obtain ⟨W1, eW1⟩ : ∃ W1, W1 = ((w1.setCell ⟨b, 3, none⟩ (.int .i64 (S.n + 1))).setCell ⟨b, 2, none⟩ (.int .i64 nx)).setCells g (k * (4 + 2)) (slV fLS ((v1, v2, v3, v4), true, 0)) := ⟨_, rfl⟩
      have hP := HP.out
      rw [← eW1] at hP hk2
      have main : PutP 92 94 fLS zLS 4 B b (some g) most S (v1, v2, v3, v4) w (.returned (.tuple #[.int .i64 (k : Int), .int .i64 0])) W1.drew := by
        refine ⟨by rw [HE.out]; rfl, ?_, ?_, hk2.trans (keptA_below (Below.refl _ _).drew _ _)⟩
        · rw [HE.out]
          refine ⟨some g, ⟨hbig, some ⟨g, 0, none⟩, cp, ?_, ?_, rfl⟩, .inl rfl⟩
          · have := Rec.grown HR2.out HO2.out hP.2.1 (by decide)
            simp only [List.length_set]
            rw [EN.out]
            exact this.drew
          · have := hP.1
            simp only [List.length_set]
            exact own_below this (Below.refl _ _).drew (Nat.le_refl _)
        · exact ((((hb1.mono hB).setCell (p := ⟨b, 3, none⟩) hbig _).setCell (p := ⟨b, 2, none⟩) hbig _).grown hP.2.1 (by have := hb1.size; simp; omega) (fun j hj => (HO2.out.lt j hj).1)).drew
      subst eW1
      exact main

end Go.Proofs.Ytifdogmlaengoaa
