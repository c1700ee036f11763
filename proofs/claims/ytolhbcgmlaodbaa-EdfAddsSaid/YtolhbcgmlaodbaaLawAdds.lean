/-
  Layer 42's EdfAdds: what two lists of works need up to some time is what each needs, added; so are their loads. No condition.
-/
import Derived.Test.YtolhbcgmlaodbaaEdW
import Derived.Test.YtolhbcgmlaodbaaAppB
namespace Go.Proofs.Ytolhbcgmlaodbaa
open Go Go.RowKit Go.ChangeShapes Go.WideShapes Go.ChangeAt
theorem u64_mod (z : Int) : IntKind.u64.wrap z = z % 18446744073709551616 := by rw [IntKind.wrap_u64]
theorem cross_any (a b c : Nat) (w : World) (ha : a < 9223372036854775808) (hb : b < 9223372036854775808) (hc : c < 9223372036854775808) : Calls Try.prog 18 #[.int .i64 (a : Int), .int .i64 (b : Int), .int .i64 (c : Int)] w (Gives (.int .u64 (((a * b * c : Nat) : Int) % 18446744073709551616)) w) := by
  have e1 : IntKind.u64.wrap (a : Int) = (a : Int) := by rw [IntKind.wrap_u64]; omega
  have e2 : IntKind.u64.wrap (b : Int) = (b : Int) := by rw [IntKind.wrap_u64]; omega
  have e3 : IntKind.u64.wrap (c : Int) = (c : Int) := by rw [IntKind.wrap_u64]; omega
  have HE := hid (show IntKind.u64.wrap (IntKind.u64.wrap ((a : Int) * (b : Int)) * (c : Int)) = ((a * b * c : Nat) : Int) % 18446744073709551616 by
    rw [u64_mod, u64_mod, Int.mul_emod ((a : Int) * b % 18446744073709551616) c, Int.emod_emod, ← Int.mul_emod]
    simp)
  go_enter Try.func18, Try.ntmps18
  go_wp2
  go_ret
  refine Gives.refl ?_
  rw [← HE.out]
  first | rfl | simp
theorem wkt_one (l : List Wk) : ∀ u ∈ tab wkV l, u.oneCell' = true := by
  intro u hu
  simp only [tab, List.mem_flatMap] at hu
  obtain ⟨x, _, hx⟩ := hu
  simp [wkV] at hx
  rcases hx with rfl | rfl | rfl <;> rfl
theorem may_append {a b : List Wk} (ha : mayF a = true) (hb : mayF b = true) (h : a.length + b.length ≤ 6) : mayF (a ++ b) = true := by
  rw [mayF_iff] at *
  refine ⟨by rw [List.length_append]; exact h, fun x hx => ?_⟩
  rcases List.mem_append.1 hx with hx | hx
  · exact ha.2 x hx
  · exact hb.2 x hx
theorem ld_top_iff {l : List Wk} (h : ∀ x ∈ l, WkOk x) : decide ((0 : Int) < ((ldE l).1 : Nat)) = decide ((0 : Int) < (l.length : Nat)) := by
  cases l with
  | nil => rfl
  | cons x l =>
    have := ld_top h l.length
    have e : (ldE (x :: l)).1 = (ldK (x :: l) (l.length + 1)).1 := rfl
    rw [e]
    apply decide_eq_decide.2
    simp
    omega
set_option maxRecDepth 100000 in
set_option maxHeartbeats 4000000 in
theorem EdfAdds_any (A B : Option Addr) (ca cb na nb : Nat) (a b : List Wk) (ena : a.length = na) (enb : b.length = nb) (hna : na ≤ maxLen) (hnb : nb ≤ maxLen) (t : Int) (w : World) (hA : Cells w A (tab wkV a)) (hB : Cells w B (tab wkV b)) :
    Calls Try.prog 6 #[.slice A na ca, .slice B nb cb, .int .i64 t] w (Gives (.bool true) w) := by
  have HAW := hid (awake_any w)
  have HMA := hid (fun x : Past => RMay_any A ca na a ena hna (w.past x) (hA.past x))
  have HMB := hid (fun x : Past => RMay_any B cb nb b enb hnb (w.past x) (hB.past x))
  have HA := hid hA
  have HB := hid hB
  have ENA := hid ena
  have ENB := hid enb
  have hcase : (3 < na) ∨ (¬ 3 < na ∧ 3 < nb) ∨ (¬ 3 < na ∧ ¬ 3 < nb ∧ mayF a = false) ∨ (¬ 3 < na ∧ ¬ 3 < nb ∧ mayF a = true ∧ mayF b = false) ∨ (¬ 3 < na ∧ ¬ 3 < nb ∧ mayF a = true ∧ mayF b = true) := by
    cases mayF a <;> cases mayF b <;> simp <;> omega
  clear hA hB ena enb
  rcases hcase with h1 | ⟨h1, h2⟩ | ⟨h1, h2, h3⟩ | ⟨h1, h2, h3, h4⟩ | ⟨h1, h2, h3, h4⟩
  · go_enter Try.func6, Try.ntmps6
    go_wp2_with (go_at_call 7; refine HAW.out.mono ?_; rintro _ _ ⟨rfl, x0, rfl⟩)
    go_ret
    exact Gives.mk rfl (by (repeat (first | exact Below.refl _ _ | refine RowKit.Below.past ?_ _ | refine RowKit.Below.alloc' ?_ _ | refine RowKit.Below.drew' ?_ | refine RowKit.Below.drewN' ?_ _ | refine RowKit.Below.setCell' ?_ (by simp [go_sem]) _)))
  · go_enter Try.func6, Try.ntmps6
    go_wp2_with (go_at_call 7; refine HAW.out.mono ?_; rintro _ _ ⟨rfl, x0, rfl⟩)
    go_ret
    exact Gives.mk rfl (by (repeat (first | exact Below.refl _ _ | refine RowKit.Below.past ?_ _ | refine RowKit.Below.alloc' ?_ _ | refine RowKit.Below.drew' ?_ | refine RowKit.Below.drewN' ?_ _ | refine RowKit.Below.setCell' ?_ (by simp [go_sem]) _)))
  · rw [h3] at HMA
    clear h3
    go_enter Try.func6, Try.ntmps6
    go_wp2_with (first | (go_at_call 7; refine HAW.out.mono ?_; rintro _ _ ⟨rfl, x0, rfl⟩) | (go_at_call 12; refine (HMA.out _).mono ?_; rintro _ _ ⟨rfl, x2, rfl⟩))
    go_ret
    exact Gives.mk rfl (by (repeat (first | exact Below.refl _ _ | refine RowKit.Below.past ?_ _ | refine RowKit.Below.alloc' ?_ _ | refine RowKit.Below.drew' ?_ | refine RowKit.Below.drewN' ?_ _ | refine RowKit.Below.setCell' ?_ (by simp [go_sem]) _)))
  · rw [h3] at HMA
    rw [h4] at HMB
    clear h3 h4
    go_enter Try.func6, Try.ntmps6
    go_wp2_with (first | (go_at_call 7; refine HAW.out.mono ?_; rintro _ _ ⟨rfl, x0, rfl⟩) | (go_at_call 12; refine (HMA.out _).mono ?_; clear HMA; rintro _ _ ⟨rfl, x2, rfl⟩) | (go_at_call 12; refine (HMB.out _).mono ?_; rintro _ _ ⟨rfl, x3, rfl⟩))
    go_ret
    exact Gives.mk rfl (by (repeat (first | exact Below.refl _ _ | refine RowKit.Below.past ?_ _ | refine RowKit.Below.alloc' ?_ _ | refine RowKit.Below.drew' ?_ | refine RowKit.Below.drewN' ?_ _ | refine RowKit.Below.setCell' ?_ (by simp [go_sem]) _)))
  · rw [h3] at HMA
    rw [h4] at HMB
    have H3 := hid h3
    have H4 := hid h4
    have HAB := hid (may_append h3 h4 (by rw [ENA.out, ENB.out]; omega))
    clear h3 h4
    go_enter Try.func6, Try.ntmps6
    go_upto_region 5 with (first | (go_at_call 7; refine HAW.out.mono ?_; rintro _ _ ⟨rfl, x0, rfl⟩) | (go_at_call 12; refine (HMA.out _).mono ?_; clear HMA; rintro _ _ ⟨rfl, x2, rfl⟩) | (go_at_call 12; refine (HMB.out _).mono ?_; rintro _ _ ⟨rfl, x3, rfl⟩))
    obtain ⟨w1, ew1⟩ : ∃ W, W = w.past ((x0.and x2).and x3) := ⟨_, rfl⟩
    have hB1 : Below w.heap.size w w1 := by rw [ew1]; exact w.below_past _
    rw [← ew1]
    obtain ⟨s, es⟩ : ∃ s, w1.heap.size = s := ⟨_, rfl⟩
    obtain ⟨V, eV⟩ : ∃ V, V = w1.alloc (.cells #[] 37) := ⟨_, rfl⟩
    have hbV : Below w1.heap.size w1 V := by rw [eV]; exact (Below.refl _ w1).alloc (Nat.le_refl _) _
    have HLIT := hid (show V.ownsRow s 37 3 (.slice (some ⟨s, 0, none⟩) 0 0) 0 [] from by
      have h5 := World.ownsRow_lit (base := s) (size := 3) (e := 37) w1 #[] 0 (by omega) (by unfold maxLen; omega) rfl
      rw [es] at h5
      rw [eV]
      exact h5)
    have HBV := hid hbV
    have HB1 := hid hB1
    have hVs : s ≤ V.heap.size := by have := hbV.size; omega
    have EV := hid eV
    have HTA := hid (show (tab wkV a).length = na * 3 by rw [tab_length wkV_length, ENA.out])
    have HTB := hid (show (tab wkV b).length = nb * 3 by rw [tab_length wkV_length, ENB.out])
    have HCA := hid (show Cells V A (tab wkV a) from HA.out.below (hB1.trans (hbV.mono hB1.size)))
    have HN5 := hid (show ∀ (w5 : World) (A5 : Option Addr) (c5 : Nat), w5.ownsRow s 37 3 (.slice A5 na c5) na ([] ++ tab wkV a) → V.grownBy w5 (Value.slice (some ⟨s, 0, none⟩) 0 0).ownBlock → Hid (w5.ownsRow s 37 3 (.slice A5 na c5) na (tab wkV a) ∧ Below s w1 w5) ∧ s ≤ w5.heap.size ∧ Hid (Cells w5 B (tab wkV b)) from by
      intro w5 A5 c5 ho hg
      have hb : Below s w1 w5 := Below.grown (by rw [← es]; exact hbV) hg hVs (fun k hk => by simp only [Value.ownBlock, Option.some.injEq] at hk; omega)
      exact ⟨hid ⟨by simpa using ho, hb⟩, by have := hb.size; omega, hid (HB.out.below (hB1.trans (hb.mono (by rw [← es]; exact hB1.size))))⟩)
    have HN6 := hid (show ∀ (w5 w6 : World) (A5 A6 : Option Addr) (c5 c6 : Nat), (w5.ownsRow s 37 3 (.slice A5 na c5) na (tab wkV a) ∧ Below s w1 w5) → w6.ownsRow s 37 3 (.slice A6 (na + nb) c6) (na + nb) (tab wkV a ++ tab wkV b) → w5.grownBy w6 (Value.slice A5 na c5).ownBlock → Hid (Cells w6 A6 (tab wkV (a ++ b)) ∧ Cells w6 A (tab wkV a) ∧ Cells w6 B (tab wkV b) ∧ Below w.heap.size w w6) from by
      intro w5 w6 A5 A6 c5 c6 h5 ho hg
      have hb : Below s w1 w6 := Below.grown h5.2 hg (by have := h5.2.size; omega) (fun k hk => (h5.1.lt k hk).1)
      have hbw : Below w.heap.size w w6 := hB1.trans (hb.mono (by rw [← es]; exact hB1.size))
      refine hid ⟨?_, HA.out.below hbw, HB.out.below hbw, hbw⟩
      have := Cells.of_own ho
      rwa [← show tab wkV (a ++ b) = tab wkV a ++ tab wkV b by simp only [tab, List.flatMap_append]] at this)
    obtain ⟨i0, ii, iz0, iz1, iz2⟩ := info_parts info_wk
    have HII := hid ii
    have HLN := hid (And.intro h1 h2)
    clear ew1 eV hbV hB1 ii HMB HAW
    go_upto_region 6 with (first | (at_builtin; refine wpList_appB rfl (.tmp 34) (.tmp 35) 22 rfl 37 i0 (.agg #[.int .i64 0, .int .i64 0, .int .i64 0]) 3 24 Try.underlying22 HII.out iz0 iz1 iz2 rfl (by decide) s ?_ (.slice (some ⟨s, 0, none⟩) 0 0) 0 [] ?_ ?_ A na ca (tab wkV a) ?_ ?_ ?_ ?_ ?_ ?_ ?_; (· rw [← EV.out]; exact hVs); (· simp [go_sem, es]); (· rw [← EV.out]; exact HLIT.out); (· rfl); (· exact HTA.out); (· rw [← EV.out]; exact HCA.out); (· exact wkt_one _); (· have := HLN.out; unfold maxLen; omega); (· have := HLN.out; omega); intro w5 A5 c5 ho5 hg5 hap5; clear hap5; rw [Nat.zero_add] at ho5 ⊢; rw [← EV.out] at hg5; obtain ⟨H5, l5, C5⟩ := HN5.out _ _ _ ho5 hg5; clear ho5 hg5) | (at_builtin; refine wpList_appB rfl (.tmp 36) (.tmp 37) 22 rfl 37 i0 (.agg #[.int .i64 0, .int .i64 0, .int .i64 0]) 3 24 Try.underlying22 HII.out iz0 iz1 iz2 rfl (by decide) s l5 (.slice A5 na c5) na (tab wkV a) ?_ H5.out.1 B nb cb (tab wkV b) ?_ ?_ ?_ ?_ ?_ ?_ ?_; (· rfl); (· rfl); (· exact HTB.out); (· exact C5.out); (· exact wkt_one _); (· have := HLN.out; unfold maxLen; omega); (· have := HLN.out; omega); intro w6 A6 c6 ho6 hg6 hap6; clear hap6; have H6 := HN6.out _ _ _ _ _ _ H5.out ho6 hg6; clear ho6 hg6))
    obtain ⟨g1, g2, g3, g4⟩ := H6.out
    have HB6 := hid g4
    have hoka := (wks_ok H3.out).2
    have hokb := (wks_ok H4.out).2
    have hokab := (wks_ok HAB.out).2
    have hlab : (a ++ b).length = na + nb := by rw [List.length_append, ENA.out, ENB.out]
    have HD1 := hid (fun y : Past => Demand_any A6 c6 (na + nb) (a ++ b) hlab HAB.out t (w6.past y) (g1.past y))
    have HD2 := hid (fun y : Past => Demand_any A ca na a ENA.out H3.out t (w6.past y) (g2.past y))
    have HD3 := hid (fun y : Past => Demand_any B cb nb b ENB.out H4.out t (w6.past y) (g3.past y))
    have HD0 := hid (Demand_any A6 c6 (na + nb) (a ++ b) hlab HAB.out t w6 g1)
    have HL1 := hid (fun y : Past => Load_any A ca na a ENA.out H3.out (w6.past y) (g2.past y))
    have HL2 := hid (fun y : Past => Load_any B cb nb b ENB.out H4.out (w6.past y) (g3.past y))
    have HL3 := hid (fun y : Past => Load_any A6 c6 (na + nb) (a ++ b) hlab HAB.out (w6.past y) (g1.past y))
    have hadd := demE_append (farE t) a b
    have hba := demE_in hoka (by rw [ENA.out]; omega) (farE_in t).2
    have hbb := demE_in hokb (by rw [ENB.out]; omega) (farE_in t).2
    obtain ⟨da, eda⟩ : ∃ z, demE a (farE t) = z := ⟨_, rfl⟩
    obtain ⟨db, edb⟩ : ∃ z, demE b (farE t) = z := ⟨_, rfl⟩
    rw [eda, edb] at hadd
    rw [eda] at HD2 hba
    rw [edb] at HD3 hbb
    rw [hadd] at HD0
    have e1 : IntKind.i64.wrap (da + db) = da + db := by rw [IntKind.wrap_i64]; omega
    have d1 : ((da + db) != (da + db)) = false := by simp
    have hfr := ld_adds hoka hokb
    have htop := ld_top_iff hokab
    rw [hlab] at htop
    have hld : ∀ (l : List Wk), (∀ x ∈ l, WkOk x) → l.length ≤ 6 → (ldE l).1 < 9223372036854775808 ∧ (ldE l).2 < 9223372036854775808 := by
      intro l ho h6
      obtain ⟨_, b2, b3⟩ := ld_bound ho l.length
      have hp : 1000 ^ l.length ≤ 1000 ^ 6 := Nat.pow_le_pow_right (by omega) h6
      have hq : 100 * l.length * 1000 ^ l.length ≤ 100 * 6 * 1000 ^ 6 := Nat.mul_le_mul (Nat.mul_le_mul_left _ h6) hp
      unfold ldE
      have e6 : (1000 : Nat) ^ 6 = 1000000000000000000 := by decide
      rw [e6] at hp hq
      omega
    have b1 := hld a hoka (by rw [ENA.out]; omega)
    have b2 := hld b hokb (by rw [ENB.out]; omega)
    have b3 := hld (a ++ b) hokab (by rw [hlab]; omega)
    obtain ⟨pq, epq⟩ : ∃ z, ldE a = z := ⟨_, rfl⟩
    obtain ⟨xy, exy⟩ : ∃ z, ldE b = z := ⟨_, rfl⟩
    obtain ⟨nm, enm⟩ : ∃ z, ldE (a ++ b) = z := ⟨_, rfl⟩
    rw [epq, exy, enm] at hfr
    rw [epq] at HL1 b1
    rw [exy] at HL2 b2
    rw [enm] at HL3 htop b3
    obtain ⟨p, q⟩ := pq
    obtain ⟨x, y⟩ := xy
    obtain ⟨n, m⟩ := nm
    simp only at hfr HL1 HL2 HL3 htop b1 b2 b3
    have HC1 := hid (fun W => cross_any n q y W b3.1 b1.2 b2.2)
    have HC2 := hid (fun W => cross_any m p y W b3.2 b1.1 b2.2)
    have HC3 := hid (fun W => cross_any m x q W b3.2 b2.1 b1.2)
    obtain ⟨z1, ez1⟩ : ∃ z, ((n * q * y : Nat) : Int) % 18446744073709551616 = z := ⟨_, rfl⟩
    obtain ⟨z2, ez2⟩ : ∃ z, ((m * p * y : Nat) : Int) % 18446744073709551616 = z := ⟨_, rfl⟩
    obtain ⟨z3, ez3⟩ : ∃ z, ((m * x * q : Nat) : Int) % 18446744073709551616 = z := ⟨_, rfl⟩
    have e2 : IntKind.u64.wrap (z2 + z3) = z1 := by
      rw [u64_mod, ← ez1, ← ez2, ← ez3, ← Int.add_emod, hfr, Nat.mul_add, ← Nat.mul_assoc, ← Nat.mul_assoc]
      simp
    rw [ez1] at HC1
    rw [ez2] at HC2
    rw [ez3] at HC3
    have d2 : (z1 == z1) = true := by simp
    have htp : ((0 : Int) < n ∧ (0 : Int) < (na : Int) + nb) ∨ (¬ (0 : Int) < n ∧ ¬ (0 : Int) < (na : Int) + nb) := by
      have h := decide_eq_decide.1 htop
      rcases Nat.eq_zero_or_pos (na + nb) with e | e
      · refine .inr ⟨fun g => ?_, by omega⟩
        have := h.1 g; omega
      · exact .inl ⟨h.2 (by omega), by omega⟩
    clear g1 g2 g3 g4 hoka hokb hokab hlab HD1 hadd eda edb hfr htop hld b1 b2 b3 epq exy enm ez1 ez2 ez3 H6 HN5 HN6 HLIT hba hbb
    rcases htp with ⟨t1, t2⟩ | ⟨t1, t2⟩
    all_goals
      go_wp2_with (first | (go_at_call 13; first | (refine HD0.out.mono ?_; clear HD0; rintro _ _ ⟨rfl, y1, rfl⟩) | (refine (HD2.out _).mono ?_; clear HD2; rintro _ _ ⟨rfl, y2, rfl⟩) | (refine (HD3.out _).mono ?_; rintro _ _ ⟨rfl, y3, rfl⟩)) | (go_at_call 10; first | (refine (HL1.out _).mono ?_; clear HL1; rintro _ _ ⟨rfl, y4, rfl⟩) | (refine (HL2.out _).mono ?_; clear HL2; rintro _ _ ⟨rfl, y5, rfl⟩) | (refine (HL3.out _).mono ?_; rintro _ _ ⟨rfl, y6, rfl⟩)) | (go_at_call 18; first | (refine (HC1.out _).mono ?_; clear HC1; rintro _ _ ⟨rfl, y7, rfl⟩) | (refine (HC2.out _).mono ?_; clear HC2; rintro _ _ ⟨rfl, y8, rfl⟩) | (refine (HC3.out _).mono ?_; rintro _ _ ⟨rfl, y9, rfl⟩)))
      go_ret
      exact Gives.mk rfl (HB6.out.trans (RowKit.Below.mono (by (repeat (first | exact Below.refl _ _ | refine RowKit.Below.past ?_ _ | refine RowKit.Below.alloc' ?_ _ | refine RowKit.Below.drew' ?_ | refine RowKit.Below.drewN' ?_ _ | refine RowKit.Below.setCell' ?_ (by simp [go_sem]) _))) HB6.out.size))
theorem c_wk_3 : Try.prog.cellsOf 3 = 1 := by kernel_rfl
theorem c_wk : Try.prog.cellsOf 37 = 3 := by kernel_rfl
theorem rd_wk {H : Type} {enc : TypeId × Value → H} {W : World} {cs : Array Value} (h : Rd enc Try.prog W 37 cs.toList) : ∃ x0 x1 x2 : Int, cs = #[.int .i64 x0, .int .i64 x1, .int .i64 x2] ∧ I64 x0 ∧ I64 x1 ∧ I64 x2 := by
  obtain ⟨c0, c1, c2, e⟩ := cs_three (h.len_struct Try.underlying37 c_wk)
  rw [e] at h
  obtain ⟨x0, e0, w0⟩ := Rd.int (h.field Try.underlying37 0 3 0 1 rfl c_wk_3) Try.underlying3
  obtain ⟨x1, e1, w1⟩ := Rd.int (h.field Try.underlying37 1 3 1 1 rfl c_wk_3) Try.underlying3
  obtain ⟨x2, e2, w2⟩ := Rd.int (h.field Try.underlying37 2 3 2 1 rfl c_wk_3) Try.underlying3
  simp at e0 e1 e2
  subst e0 e1 e2
  exact ⟨x0, x1, x2, arr_of e, i64_of w0, i64_of w1, i64_of w2⟩
theorem rd_wks {H : Type} {enc : TypeId × Value → H} {W : World} {cs : List Value} (h : Rd enc Try.prog W 37 cs) : ∃ x : Wk, cs = wkV x ∧ True := by
  obtain ⟨y0, y1, y2, e, _⟩ := rd_wk (cs := cs.toArray) (by simpa using h)
  exact ⟨⟨y0, y1, y2⟩, by simpa [wkV] using congrArg Array.toList e, trivial⟩
theorem edfAdds_own : ownKnob Try.prog.godebug = none := by kernel_rfl
theorem edfAdds_laidOut : laidOutB Try.prog = true := by kernel_rfl
theorem edfAdds_types : ∀ t ∈ Try.f6.params.toList, Try.prog.readableRec t = true ∧ t < Try.prog.types.size := by
  rw [Try.params6]
  intro t ht
  simp only [List.mem_cons, List.not_mem_nil, or_false] at ht
  rcases ht with rfl | rfl | rfl
  · exact ⟨by kernel_rfl, of_decide_eq_true (by kernel_rfl)⟩
  · exact ⟨by kernel_rfl, of_decide_eq_true (by kernel_rfl)⟩
  · exact ⟨by kernel_rfl, of_decide_eq_true (by kernel_rfl)⟩
set_option maxRecDepth 100000 in
theorem edfAdds_lifted (os : Os) (started : os.Started) (H : Type) (enc : TypeId × Value → H) :
    ReturnsInHanded {} Try.checked os 6 .any (Rows.edfAddsSpec.pre6 enc Try.prog Try.f6 Rows.edfAddsRow.domain false) (Rows.edfAddsSpec.post enc Try.prog Try.f6 false true false false) := by
  refine returnsInHanded_of_change (C := Try.checked) edfAdds_own started (by kernel_rfl) Try.func6
    (ChangeSpec.witness6 (enc := enc) (C := Try.checked) false ⟨#[], #[.slice none 0 0, .slice none 0 0, .int .i64 0], []⟩ 8 (by kernel_rfl) (by kernel_rfl) (by kernel_rfl) (by kernel_rfl)) ?_
  intro W base args ds gs before hval0 hW hcnd _
  have hval : ∀ (j : Nat) t v, Try.f6.params[j]? = some t → args[j]? = some v → Value.okWide Try.prog W .any base t v := hval0
  have hW' := hW
  obtain ⟨p, q, hA0, hV, hpq, hfz, hnd⟩ := hW
  have hA : DataW.TrodAll enc Try.prog W 0 (fun _ => true) true Try.f6.params.toList args.toList ds p := hA0
  rw [Try.params6] at hA hval
  obtain ⟨v0, vs0, d0, ds0, p0, q0, hargs, rfl, rfl, h0, r0⟩ := trodAll_cons hA
  obtain ⟨v1, vs1, d1, ds1, p1, q1, rfl, rfl, rfl, h1, r1⟩ := trodAll_cons r0
  obtain ⟨v2, vs2, d2, ds2, p2, q2, rfl, rfl, rfl, h2, r2⟩ := trodAll_cons r1
  obtain ⟨rfl, rfl, rfl⟩ := trodAll_nil r2
  obtain rfl : args = #[v0, v1, v2] := by cases args; simp_all
  have k0 := hval 0 22 v0 rfl rfl
  have k1 := hval 1 22 v1 rfl rfl
  have k2 := hval 2 3 v2 rfl rfl
  clear hA0 hval0 hval hcnd hfz hnd hpq hV hargs r2
  suffices hs : Calls Try.prog 6 #[v0, v1, v2] W (Gives (.bool true) W) from hs.mono fun e W' ⟨he, x, hx⟩ => ⟨_, he, law_post edfAdds_laidOut hW' rfl rfl (by kernel_rfl) (by first | exact Try.underlying4 | rfl) edfAdds_types (hx ▸ W.below_past x)⟩
  clear hW'
  obtain ⟨A, ca, a, rfl, ha, _, hl, _⟩ := rd_tabC (f := wkV) (c := 3) (K := fun _ => True) wkV_length (by omega) (rd_slice Try.underlying22 k0 h0) Try.underlying22 c_wk (fun _ h => by obtain ⟨x, e, hk⟩ := rd_wks h; exact ⟨x, e, hk⟩)
  obtain ⟨B, cb, b, rfl, hb, _, hl2, _⟩ := rd_tabC (f := wkV) (c := 3) (K := fun _ => True) wkV_length (by omega) (rd_slice Try.underlying22 k1 h1) Try.underlying22 c_wk (fun _ h => by obtain ⟨x, e, hk⟩ := rd_wks h; exact ⟨x, e, hk⟩)
  obtain ⟨t, rfl, _, _, _⟩ := open_int Try.underlying3 k2 h2
  exact EdfAdds_any A B ca cb _ _ a b rfl rfl hl hl2 t W ha hb
theorem edfAdds_holds : Rows.EdfAddsSaid :=
  OpenClaim.holds_of_wide 6 Try.f6 rfl rfl rfl rfl rfl rfl rfl ⟨rfl, rfl, rfl, rfl, rfl⟩ rfl rfl rfl rfl rfl (by kernel_rfl) Try.func6 (by kernel_rfl)
    (of_decide_eq_true (by kernel_rfl)) (by unfold Func.isWrapper; first | (rw [if_pos (by decide +kernel)]; kernel_rfl) | (rw [if_neg (by decide +kernel)]; exact ⟨rfl, rfl⟩))
    (fun os started H enc _ => edfAdds_lifted os started H enc)
end Go.Proofs.Ytolhbcgmlaodbaa
