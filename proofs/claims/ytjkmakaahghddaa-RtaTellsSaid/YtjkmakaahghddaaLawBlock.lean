/-
  Layer 43's RtaBlock: a greater block makes no answer time less; more work ahead doesn't, either. No condition.
-/
import Derived.Test.YtjkmakaahghddaaLawDone
namespace Go.Proofs.Ytjkmakaahghddaa
open Go.RowKit Go.ChangeShapes Go.WideShapes Go.ChangeAt
theorem hiK_cons (m : Wk) (l : List Wk) (r : Int) : ∀ k, hiK (m :: l) r (k + 1) = cameF m r + hiK l r k := by
  intro k
  induction k with
  | zero => simp [hiK, wk]
  | succ k ih =>
    rw [hiK, ih, hiK]
    have : wk (m :: l) (k + 1) = wk l k := by simp [wk]
    rw [this]
    omega
theorem block_more {l : List Wk} (h : ∀ x ∈ l, WkOk x) (k : Nat) {B : Int} (hB : 0 ≤ B ∧ B ≤ 1000) : 0 ≤ timeF l k (B + 1) → 0 ≤ timeF l k B ∧ timeF l k B < timeF l k (B + 1) := by
  have hok := (wk_ok h k).1
  unfold timeF
  refine time_less (f := needF l k (B + 1)) (g := needF l k B) (fun r s hrs => needF_mono h k B hrs) ((wk l k).c + (B + 1)) ((wk l k).c + B) (by omega) (fun r hr => needF_ge h k B hr) (by omega) (by omega) (fun r _ => ?_) (by omega)
  rw [needF_eq, needF_eq]; omega
theorem ahead_more {l : List Wk} (h : ∀ x ∈ l, WkOk x) {m : Wk} (hm : WkOk m) (k : Nat) {B : Int} (hB : 0 ≤ B ∧ B ≤ 1000) : 0 ≤ timeF (m :: l) (k + 1) B → 0 ≤ timeF l k B ∧ timeF l k B < timeF (m :: l) (k + 1) B := by
  have hok := (wk_ok h k).1
  have e : wk (m :: l) (k + 1) = wk l k := by simp [wk]
  unfold timeF
  rw [e]
  refine time_less (f := needF (m :: l) (k + 1) B) (g := needF l k B) (fun r s hrs => needF_mono h k B hrs) ((wk l k).c + B) ((wk l k).c + B) (by omega) (fun r hr => needF_ge h k B hr) (by omega) (by omega) (fun r hr => ?_) (by omega)
  have := (came_pos hm (show 0 ≤ r by omega)).2.1 hr
  rw [needF_eq, needF_eq, e, hiK_cons]; omega
theorem info_wk : (Try.prog.info? 32).map (fun i => (i.zero, i.size, i.bytes)) = some (some (.agg #[.int .i64 0, .int .i64 0, .int .i64 0]), 3, 24) := by kernel_rfl
theorem lit_cells (m : Wk) (W : World) : Cells (W.alloc (.cells #[.int .i64 m.c, .int .i64 m.p, .int .i64 m.d] 32)) (some ⟨W.heap.size, 0, none⟩) (tab wkV [m]) :=
  Cells.of_own (World.ownsRow_lit (base := 0) (size := 3) W #[.int .i64 m.c, .int .i64 m.p, .int .i64 m.d] 1 (Nat.zero_le _) (by unfold maxLen; omega) rfl)
theorem RMay_lit (m : Wk) (W : World) (g : Nat) (hg : g = W.heap.size) :
    Calls Try.prog 11 #[.slice (some ⟨g, 0, none⟩) 1 1] (W.alloc (.cells #[.int .i64 m.c, .int .i64 m.p, .int .i64 m.d] 32)) (fun e w' => e = .returned (.bool (okF m)) ∧ ∃ x, w' = W.past x) := by
  subst hg
  refine (RMay_any (some ⟨W.heap.size, 0, none⟩) 1 1 [m] rfl (by unfold maxLen; omega) _ (lit_cells m W)).mono ?_
  rintro _ _ ⟨rfl, x, rfl⟩
  exact ⟨by simp [mayF], past_of (RowKit.Below.past ((Below.refl _ W).alloc (Nat.le_refl _) _) _)⟩
/-- The times of works that may be, at a block that is in reach. -/
theorem times_ok {A : Option Addr} {ca n : Nat} {l : List Wk} {w : World} (h : LsW l n ca A w) (hm : mayF l = true) {B : Int} (hB : 0 ≤ B ∧ B ≤ 1000) :
    Calls Try.prog 7 #[.slice A n ca, .int .i64 B] w (GivesOwn 3 1 n (i64s (timesK l B n)) w) := by
  have := Times_any A ca n l B w h
  have e0 : clampF B 0 1000 = B := by unfold clampF; rw [if_neg (by omega), if_neg (by omega)]
  have hf : timesF l B = timesK l B n := by simp [timesF, hm, h.len]
  have hl : (timesF l B).length = n := by rw [hf, timesK_length]
  rw [e0, hl, hf] at this
  exact this
theorem times_at {l : List Wk} {B : Int} {n k : Nat} (h : k < n) : atL (timesK l B n) k = timeF l k B := by simp [timesK, atL, h]
theorem own_fits {w : World} {base : Nat} {e : TypeId} {size n c : Nat} {A : Option Addr} {xs : List Value} (h : w.ownsRow base e size (.slice A n c) n xs) : n ≤ c := by
  rcases h.2 with ⟨hv, _⟩ | ⟨g', cap', cur, hv, _, _, hnc, _⟩
  · injection hv with _ e2 e3
    omega
  · injection hv with _ _ e3
    subst e3
    exact hnc
theorem tab_one (l : List Wk) : ∀ u ∈ tab wkV l, u.oneCell' = true := by
  intro u hu
  simp only [tab, List.mem_flatMap] at hu
  obtain ⟨x, _, hx⟩ := hu
  simp only [wkV, List.mem_cons, List.not_mem_nil, or_false] at hx
  rcases hx with rfl | rfl | rfl <;> rfl
set_option maxHeartbeats 4000000 in
theorem RtaBlock_any (A : Option Addr) (ca n : Nat) (l : List Wk) (en : l.length = n) (hn : n ≤ maxLen) (hca : n ≤ ca) (B : Int) (hB : U8 B) (m : Wk) (w : World) (ha : Cells w A (tab wkV l)) :
    Calls Try.prog 5 #[.slice A n ca, .int .u8 B, .agg #[.int .i64 m.c, .int .i64 m.p, .int .i64 m.d]] w (Gives (.bool true) w) := by
  obtain ⟨i0, hi, hz0, hz1, hz2⟩ := info_parts info_wk
  have r1 : IntKind.i64.wrap B = B := by have := hB.1; have := hB.2; rw [IntKind.wrap_i64]; omega
  have r2 : IntKind.i64.wrap (B + 1) = B + 1 := by have := hB.1; have := hB.2; rw [IntKind.wrap_i64]; omega
  have hB1 : 0 ≤ B ∧ B ≤ 1000 := ⟨hB.1, by have := hB.2; omega⟩
  have hB2 : 0 ≤ B + 1 ∧ B + 1 ≤ 1000 := ⟨by have := hB.1; omega, by have := hB.2; omega⟩
  obtain ⟨W, eW⟩ : ∃ W, W = w.alloc (.cells #[.int .i64 m.c, .int .i64 m.p, .int .i64 m.d] 32) := ⟨_, rfl⟩
  have hbW : Below w.heap.size w W := by rw [eW]; exact (Below.refl _ _).alloc (Nat.le_refl _) _
  have c0 : W.cell? ⟨w.heap.size, 0, none⟩ = some (.int .i64 m.c) := by rw [eW]; simp [go_sem]
  have c1 : W.cell? ⟨w.heap.size, 1, none⟩ = some (.int .i64 m.p) := by rw [eW]; simp [go_sem]
  have c2 : W.cell? ⟨w.heap.size, 2, none⟩ = some (.int .i64 m.d) := by rw [eW]; simp [go_sem]
  have lW : w.heap.size < W.heap.size := by rw [eW]; simp
  have haW := ha.below hbW
  have hM := fun x => RMay_any A ca n l en hn (W.past x) (haW.past x)
  have HBW := hid hbW
  have EW := hid eW
  have HAW := hid haW
  have EN := hid en
  obtain ⟨mc, emc⟩ : ∃ mc, m.c = mc := ⟨_, rfl⟩
  obtain ⟨mp, emp⟩ : ∃ mp, m.p = mp := ⟨_, rfl⟩
  obtain ⟨md, emd⟩ : ∃ md, m.d = md := ⟨_, rfl⟩
  have hml := fun W' g hg => RMay_lit m W' g hg
  rw [emc, emp, emd] at hml EW ⊢
  rw [emc] at c0
  rw [emp] at c1
  rw [emd] at c2
  have HMC := hid emc
  have HMP := hid emp
  have HMD := hid emd
  clear hbW eW haW ha en emc emp emd
  by_cases hgo : mayF l = true ∧ n ≤ 5 ∧ okF m = true
  · obtain ⟨hm, h5, hom⟩ := hgo
    rw [hm] at hM
    rw [hom] at hml
    have HM := hid hM
    have HML := hid hml
    have HMAY := hid hm
    have HOM := hid ((okF_iff m).1 hom)
    have HOK := hid ((mayF_iff l).1 hm).2
    clear hM hml hm hom
    go_enter Try.func5, Try.ntmps5
    go_upto_region 1 with fail
    rw [← EW.out]
    go_wp2_with (first | (go_at_call 6; refine (awake_any _).mono ?_; rintro _ _ ⟨rfl, _, rfl⟩) | (go_at_call 11; first | ((with_reducible refine (HM.out _).mono ?_); rintro _ _ ⟨rfl, _, rfl⟩) | (refine (HML.out _ _ ?_).mono ?_; (· simp [go_sem]); rintro _ _ ⟨rfl, _, rfl⟩)))
    have HL := hid (fun x => (LsW.mk (l := l) EN.out hca (by omega) (HAW.out.past x)))
    refine (times_ok (HL.out _) HMAY.out hB1).mono ?_
    rintro _ w2 ⟨T2, c2', rfl, hb2, ho2⟩
    have HB2 := hid (show Below W.heap.size W w2 from below_trans' (by (repeat (first | exact Below.refl _ _ | refine RowKit.Below.past ?_ _ | refine RowKit.Below.alloc' ?_ _ | refine RowKit.Below.drew' ?_ | refine RowKit.Below.drewN' ?_ _ | refine RowKit.Below.setCell' ?_ (by simp [go_sem]) _))) hb2)
    have HC2 := hid (Cells.of_own ho2)
    have HL2 := hid (LsW.mk (l := l) EN.out hca (by omega) (HAW.out.below HB2.out))
    clear hb2 ho2 HL HM HML
    go_wp2_with fail
    refine (times_ok HL2.out HMAY.out hB2).mono ?_
    rintro _ w3 ⟨T3, c3', rfl, hb3, ho3⟩
    have HB3 := hid (below_trans' HB2.out hb3)
    have HC3 := hid (Cells.of_own ho3)
    have HC2' := hid (HC2.out.below hb3)
    have HL3 := hid (HL2.out.below hb3)
    have d0 := below_cell HB3.out (Nat.le_refl _) _ _ c0
    have d1 := below_cell HB3.out (Nat.le_refl _) _ _ c1
    have d2 := below_cell HB3.out (Nat.le_refl _) _ _ c2
    clear hb3 ho3 HC2 HL2 HB2 c0 c1 c2
    go_wp2_with ((at_builtin; refine wpList_appendC rfl (.tmp 37) (.tmp 38) 22 rfl 32 i0 (.agg #[.int .i64 0, .int .i64 0, .int .i64 0]) 3 24 Try.underlying22 hi hz0 hz1 hz2 rfl (by decide) (w0 := w3) ?_ _ (1) ([.int .i64 mc, .int .i64 mp, .int .i64 md]) rfl ?_ _ _ _ (tab wkV l) rfl ?_ ?_ ?_ ?_ ?_ ?_; (· (repeat (first | exact Below.refl _ _ | refine RowKit.Below.past ?_ _ | refine RowKit.Below.alloc' ?_ _ | refine RowKit.Below.drew' ?_ | refine RowKit.Below.drewN' ?_ _ | refine RowKit.Below.setCell' ?_ (by simp [go_sem]) _))); (· exact World.ownsRow_lit (size := 3) w3 #[.int .i64 mc, .int .i64 mp, .int .i64 md] 1 (Nat.le_refl _) (by unfold maxLen; omega) rfl); (· (rw [tab_length wkV_length, EN.out])); (· exact HL3.out.cells.alloc _); (· exact tab_one l); (· (unfold maxLen; omega)); (· omega); intro x4 A4 c4 ho4; have HO4 := hid ho4; clear ho4))
    have hml2 : mayF (m :: l) = true := by
      rw [mayF_iff]
      refine ⟨by rw [List.length_cons, EN.out]; omega, fun x hx => ?_⟩
      rcases List.mem_cons.1 hx with rfl | hx
      · exact HOM.out
      · exact HOK.out x hx
    have hls4 : LsW (m :: l) (1 + n) c4 A4 (w3.past x4) := by
      refine ⟨by rw [List.length_cons, EN.out]; omega, own_fits HO4.out, by omega, ?_⟩
      have := Cells.of_own HO4.out
      rw [← HMC.out, ← HMP.out, ← HMD.out] at this
      exact this
    have hT4 := times_ok hls4 hml2 hB1
    have HT4 := hid hT4
    clear hml2 hls4 hT4 HO4 HMC HMP HMD EW d0 d1 d2
    refine HT4.out.mono ?_
    rintro _ w5 ⟨T5, c5, rfl, hb5, ho5⟩
    have hb35 : Below w3.heap.size w3 w5 := below_trans' (w3.below_past x4) hb5
    have HB5 := hid (below_trans' HBW.out (below_trans' HB3.out hb35))
    have HA5 := hid (HC2'.out.below hb35)
    have HB5' := hid (HC3.out.below hb35)
    have HC5 := hid (Cells.of_own ho5)
    clear hb5 ho5 hb35 HT4 HC2' HC3
    go_wp2_with fail
    go_loopw [65] (fun i wr => ∃ (k : Nat) (x : Past), i = .int .i64 k ∧ k ≤ n ∧ wr = w5.past x) (fun i _ => n - (intOf i).toNat)
    case atStart => exact ⟨0, _, rfl, by omega, World.past_refl w5⟩
    case round =>
      obtain ⟨k, x, rfl, hk, rfl⟩ := hrel
      by_cases hlt : k < n
      · obtain ⟨b2, o2, rfl, ha2⟩ := i64_at HA5.out (show k < (timesK l B n).length by rw [timesK_length]; exact hlt)
        obtain ⟨b3, o3, rfl, ha3⟩ := i64_at HB5'.out (show k < (timesK l (B + 1) n).length by rw [timesK_length]; exact hlt)
        obtain ⟨b4, o4, rfl, ha4⟩ := i64_at HC5.out (show k + 1 < (timesK (m :: l) B (1 + n)).length by rw [timesK_length]; omega)
        rw [times_at hlt] at ha2 ha3
        rw [times_at (by omega)] at ha4
        have m1 := block_more HOK.out k hB1
        have m2 := ahead_more HOK.out HOM.out k hB1
        obtain ⟨ta, eta⟩ : ∃ ta, timeF l k B = ta := ⟨_, rfl⟩
        obtain ⟨tb, etb⟩ : ∃ tb, timeF l k (B + 1) = tb := ⟨_, rfl⟩
        obtain ⟨tc, etc⟩ : ∃ tc, timeF (m :: l) (k + 1) B = tc := ⟨_, rfl⟩
        rw [eta, etb] at m1
        rw [eta, etc] at m2
        rw [eta] at ha2
        rw [etb] at ha3
        rw [etc] at ha4
        clear eta etb etc
        rcases dec_cases (0 ≤ tb) with f1 | f1 <;> rcases dec_cases (0 ≤ tc) with f2 | f2
        · obtain ⟨g1, g2⟩ := m1 (by simpa using f1)
          obtain ⟨g3, g4⟩ := m2 (by simpa using f2)
          have f3 : decide (ta < 0) = false := by simp; omega
          have f4 : decide (tb ≤ ta) = false := by simp; omega
          have f5 : decide (tc ≤ ta) = false := by simp; omega
          clear m1 m2 g1 g2 g3 g4
          go_wp2_with fail
          refine wp_region_past (by kernel_rfl) (by kernel_rfl) ?_
          repeat (go_big_quiet_step ((fail)))
          refine wpQuiet_nil ?_
          rintro _ ⟨_, rfl⟩
          go_wp2_with fail
          go_roundw
          case rel => exact ⟨k + 1, _, by go_num, by omega, rfl⟩
          case measure => simp [intOf]; omega
        · obtain ⟨g1, g2⟩ := m1 (by simpa using f1)
          have f3 : decide (ta < 0) = false := by simp; omega
          have f4 : decide (tb ≤ ta) = false := by simp; omega
          clear m1 m2 g1 g2
          go_wp2_with fail
          refine wp_region_past (by kernel_rfl) (by kernel_rfl) ?_
          repeat (go_big_quiet_step ((fail)))
          refine wpQuiet_nil ?_
          rintro _ ⟨_, rfl⟩
          go_wp2_with fail
          go_roundw
          case rel => exact ⟨k + 1, _, by go_num, by omega, rfl⟩
          case measure => simp [intOf]; omega
        · obtain ⟨g3, g4⟩ := m2 (by simpa using f2)
          have f3 : decide (ta < 0) = false := by simp; omega
          have f5 : decide (tc ≤ ta) = false := by simp; omega
          clear m1 m2 g3 g4
          go_wp2_with fail
          refine wp_region_past (by kernel_rfl) (by kernel_rfl) ?_
          repeat (go_big_quiet_step ((fail)))
          refine wpQuiet_nil ?_
          rintro _ ⟨_, rfl⟩
          go_wp2_with fail
          go_roundw
          case rel => exact ⟨k + 1, _, by go_num, by omega, rfl⟩
          case measure => simp [intOf]; omega
        · clear m1 m2
          go_wp2_with fail
          refine wp_region_past (by kernel_rfl) (by kernel_rfl) ?_
          repeat (go_big_quiet_step ((fail)))
          refine wpQuiet_nil ?_
          rintro _ ⟨_, rfl⟩
          go_wp2_with fail
          go_roundw
          case rel => exact ⟨k + 1, _, by go_num, by omega, rfl⟩
          case measure => simp [intOf]; omega
      · obtain rfl : k = n := by omega
        go_wp2
        go_ret
        exact Gives.mk rfl (RowKit.Below.past HB5.out _)
  · have HML := hid hml
    have hc : mayF l = false ∨ (mayF l = true ∧ 5 < n) ∨ (mayF l = true ∧ n ≤ 5 ∧ okF m = false) := by
      cases h1 : mayF l
      · exact .inl rfl
      · by_cases h2 : n ≤ 5
        · cases h3 : okF m
          · exact .inr (.inr ⟨rfl, h2, rfl⟩)
          · exact (hgo ⟨h1, h2, h3⟩).elim
        · exact .inr (.inl ⟨rfl, by omega⟩)
    clear hgo hml
    rcases hc with h1 | ⟨h1, h2⟩ | ⟨h1, h2, h3⟩
    · rw [h1] at hM
      have HM := hid hM
      clear hM h1
      go_enter Try.func5, Try.ntmps5
      go_upto_region 1 with fail
      rw [← EW.out]
      go_wp2_with (first | (go_at_call 6; refine (awake_any _).mono ?_; rintro _ _ ⟨rfl, _, rfl⟩) | (go_at_call 11; (with_reducible refine (HM.out _).mono ?_); rintro _ _ ⟨rfl, _, rfl⟩))
      go_ret
      exact Gives.mk rfl (RowKit.Below.past HBW.out _)
    · rw [h1] at hM
      have HM := hid hM
      clear hM h1
      go_enter Try.func5, Try.ntmps5
      go_upto_region 1 with fail
      rw [← EW.out]
      go_wp2_with (first | (go_at_call 6; refine (awake_any _).mono ?_; rintro _ _ ⟨rfl, _, rfl⟩) | (go_at_call 11; (with_reducible refine (HM.out _).mono ?_); rintro _ _ ⟨rfl, _, rfl⟩))
      go_ret
      exact Gives.mk rfl (RowKit.Below.past HBW.out _)
    · rw [h1] at hM
      have HM := hid hM
      have H3 := hid h3
      clear hM h1 h3
      go_enter Try.func5, Try.ntmps5
      go_upto_region 1 with fail
      rw [← EW.out]
      go_wp2_with (first | (go_at_call 6; refine (awake_any _).mono ?_; rintro _ _ ⟨rfl, _, rfl⟩) | (go_at_call 11; first | ((with_reducible refine (HM.out _).mono ?_); rintro _ _ ⟨rfl, _, rfl⟩) | (refine (HML.out _ _ ?_).mono ?_; (· simp [go_sem]); rintro _ _ ⟨rfl, _, rfl⟩; rw [H3.out])))
      go_ret
      exact Gives.mk rfl (RowKit.Below.past HBW.out _)
theorem rtaBlock_own : ownKnob Try.prog.godebug = none := by kernel_rfl
theorem rtaBlock_laidOut : laidOutB Try.prog = true := by kernel_rfl
theorem rtaBlock_types : ∀ t ∈ Try.f5.params.toList, Try.prog.readableRec t = true ∧ t < Try.prog.types.size := by
  rw [Try.params5]
  intro t ht
  simp only [List.mem_cons, List.not_mem_nil, or_false] at ht
  rcases ht with rfl | rfl | rfl
  · exact ⟨by kernel_rfl, of_decide_eq_true (by kernel_rfl)⟩
  · exact ⟨by kernel_rfl, of_decide_eq_true (by kernel_rfl)⟩
  · exact ⟨by kernel_rfl, of_decide_eq_true (by kernel_rfl)⟩
set_option maxRecDepth 100000 in
theorem rtaBlock_lifted (os : Os) (started : os.Started) (H : Type) (enc : TypeId × Value → H) :
    ReturnsInHanded {} Try.checked os 5 .any (Rows.rtaBlockSpec.pre6 enc Try.prog Try.f5 Rows.rtaBlockRow.domain false) (Rows.rtaBlockSpec.post enc Try.prog Try.f5 false true false false) := by
  refine returnsInHanded_of_change (C := Try.checked) rtaBlock_own started (by kernel_rfl) Try.func5
    (ChangeSpec.witness6 (enc := enc) (C := Try.checked) false ⟨#[], #[.slice none 0 0, .int .u8 0, .agg #[.int .i64 0, .int .i64 0, .int .i64 0]], []⟩ 8 (by kernel_rfl) (by kernel_rfl) (by kernel_rfl) (by kernel_rfl)) ?_
  intro W base args ds gs before hval0 hW hcnd _
  have hval : ∀ (j : Nat) t v, Try.f5.params[j]? = some t → args[j]? = some v → Value.okWide Try.prog W .any base t v := hval0
  have hW' := hW
  obtain ⟨p, q, hA0, hV, hpq, hfz, hnd⟩ := hW
  have hA : DataW.TrodAll enc Try.prog W 0 (fun _ => true) true Try.f5.params.toList args.toList ds p := hA0
  rw [Try.params5] at hA hval
  obtain ⟨v0, vs0, d0, ds0, p0, q0, hargs, rfl, rfl, h0, r0⟩ := trodAll_cons hA
  obtain ⟨v1, vs1, d1, ds1, p1, q1, rfl, rfl, rfl, h1, r1⟩ := trodAll_cons r0
  obtain ⟨v2, vs2, d2, ds2, p2, q2, rfl, rfl, rfl, h2, r2⟩ := trodAll_cons r1
  obtain ⟨rfl, rfl, rfl⟩ := trodAll_nil r2
  obtain rfl : args = #[v0, v1, v2] := by cases args; simp_all
  have k0 := hval 0 22 v0 rfl rfl
  have k1 := hval 1 5 v1 rfl rfl
  have k2 := hval 2 32 v2 rfl rfl
  clear hA0 hval0 hval hcnd hfz hnd hpq hV hargs r2
  suffices hs : Calls Try.prog 5 #[v0, v1, v2] W (Gives (.bool true) W) from hs.mono fun e W' ⟨he, x, hx⟩ => ⟨_, he, law_post rtaBlock_laidOut hW' rfl rfl (by kernel_rfl) (by first | exact Try.underlying4 | rfl) rtaBlock_types (hx ▸ W.below_past x)⟩
  clear hW'
  obtain ⟨A, ca, l, rfl, ha, hI, hl, hc⟩ := rd_works c_work rd_wk (rd_slice Try.underlying22 k0 h0)
  obtain ⟨x1, rfl, _, _, w1⟩ := open_int Try.underlying5 k1 h1
  obtain ⟨cs, rfl, hr⟩ := rd_agg (.inl ⟨_, Try.underlying32⟩) k2 h2
  obtain ⟨y0, y1, y2, rfl, _, _, _⟩ := rd_work hr
  exact RtaBlock_any A ca _ l rfl hl hc x1 (u8_of w1) ⟨y0, y1, y2⟩ W ha
theorem rtaBlock_holds : Rows.RtaBlockSaid :=
  OpenClaim.holds_of_wide 5 Try.f5 rfl rfl rfl rfl rfl rfl rfl ⟨rfl, rfl, rfl, rfl, rfl⟩ rfl rfl rfl rfl rfl (by kernel_rfl) Try.func5 (by kernel_rfl)
    (of_decide_eq_true (by kernel_rfl)) (by unfold Func.isWrapper; first | (rw [if_pos (by decide +kernel)]; kernel_rfl) | (rw [if_neg (by decide +kernel)]; exact ⟨rfl, rfl⟩))
    (fun os started H enc _ => rtaBlock_lifted os started H enc)
end Go.Proofs.Ytjkmakaahghddaa
