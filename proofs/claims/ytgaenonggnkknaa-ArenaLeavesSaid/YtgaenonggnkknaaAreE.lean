/-
  Layer 02: what is put and dropped of the document's object; a new one. No condition.
-/
import Derived.Test.YtgaenonggnkknaaAreD
namespace Go.Proofs.Ytgaenonggnkknaa
open Go.RowKit
theorem info_int : (Try.prog.info? 3).map (fun i => (i.zero, i.size, i.bytes)) = some (some (.int .i64 0), 1, 8) := by kernel_rfl
theorem info_bool : (Try.prog.info? 4).map (fun i => (i.zero, i.size, i.bytes)) = some (some (.bool false), 1, 1) := by kernel_rfl
def Tib (t : TypeId) : Prop := t = 3 ∨ t = 4
def RcP (B b : Nat) (most : Int) (D' : Dc) (r : Value) (w : World) (e : Ending) (w' : World) : Prop :=
  e = .returned r ∧ DcAt B w' b most D' ∧ Below B w w' ∧ KeptT b Tib w w'
theorem RNew_any (B : Nat) (most : Int) (w : World) (hB : B ≤ w.heap.size) :
    Calls Try.prog 7 #[.int .i64 most] w (fun e w' => ∃ b, e = .returned (.pointer (some ⟨b, 0, none⟩)) ∧ DcAt B w' b (mostA most) ⟨[], [], []⟩ ∧ Below w.heap.size w w' ∧ b = w.heap.size) := by
  obtain ⟨m, hm⟩ : ∃ m, mostA most = m := ⟨_, rfl⟩
  rw [hm]
  have key : ∀ W : World, W = w.alloc (.cells #[.int .i64 m, .slice none 0 0, .slice none 0 0, .slice none 0 0] 42) → DcAt B W w.heap.size m ⟨[], [], []⟩ ∧ Below w.heap.size w W ∧ w.heap.size = w.heap.size := by
    rintro _ rfl
    exact ⟨⟨hB, none, 0, none, 0, none, 0, Rec.new w _ _, ⟨rfl, .inl ⟨rfl, rfl⟩⟩, ⟨rfl, .inl ⟨rfl, rfl⟩⟩, ⟨rfl, .inl ⟨rfl, rfl⟩⟩, apart_nil _ _ _⟩, (Below.refl _ w).alloc (Nat.le_refl _) _, rfl⟩
  have K := hid key
  unfold mostA at hm
  clear key
  by_cases h1 : most < 0
  · obtain rfl : m = 0 := by omega
    clear hm
    go_enter Try.func7, Try.ntmps7
    go_wp2
    go_ret
    exact ⟨_, rfl, (K.out _ rfl).1, (K.out _ rfl).2.1, rfl⟩
  · by_cases h2 : 4096 < most
    · obtain rfl : m = 4096 := by omega
      clear hm
      have h3 : 0 ≤ most := by omega
      go_enter Try.func7, Try.ntmps7
      go_wp2
      go_ret
      exact ⟨_, rfl, (K.out _ rfl).1, (K.out _ rfl).2.1, rfl⟩
    · obtain rfl : m = most := by omega
      clear hm
      have h3 : 0 ≤ m := by omega
      have h4 : m ≤ 4096 := by omega
      go_enter Try.func7, Try.ntmps7
      go_wp2
      go_ret
      exact ⟨_, rfl, (K.out _ rfl).1, (K.out _ rfl).2.1, rfl⟩
set_option maxHeartbeats 1000000 in
theorem RPut_any (B b : Nat) (most : Int) (D : Dc) (v : Int) (w : World) (hD : OkD 300 D) (h : DcAt B w b most D) (hB : B ≤ w.heap.size) :
    Calls Try.prog 9 #[.pointer (some ⟨b, 0, none⟩), .int .i64 v] w (RcP B b most (putD most D v).1 (.tuple #[.int .i64 (putD most D v).2.1, .int .i64 (putD most D v).2.2]) w) := by
  have HL := hid (fun x => RLen_any b most D (w.past x) (h.rd.below (w.below_past x)) hD.len hD.lfr)
  obtain ⟨ln, eln⟩ : ∃ ln, (D.l.length : Int) - D.free.length = ln := ⟨_, rfl⟩
  rw [eln] at HL
  have HH := hid h
  obtain ⟨A1, c1, A2, c2, A3, c3, hrec, hL, hO, hF, hap⟩ := h.ex
  have hbig := h.big
  have q0 := Rec.cell hrec 0
  simp at q0
  have hlt := Rec.lt hrec
  have len := hD.len
  have lon := hD.lon
  have lfr := hD.lfr
  by_cases g1 : most ≤ ln
  · have HE := hid (show putD most D v = (D, 0, 3) by unfold putD; rw [eln, if_pos g1])
    clear h hrec hL hO hF hap eln
    go_enter Try.func9, Try.ntmps9
    go_wp2_with fail
    refine wp_region_past (by kernel_rfl) (by kernel_rfl) ?_
    repeat (go_big_quiet_step ((first | (go_at_call 17; first | with_reducible exact Calls.in_past (HL.out _) | with_reducible exact Calls.in_past2 (HL.out _)) | (go_at_call 17; first | exact Calls.in_past (HL.out _) | exact Calls.in_past2 (HL.out _)))))
    refine wpQuiet_nil ?_
    rintro _ ⟨_, rfl⟩
    go_wp2_with fail
    go_ret2
    exact ⟨by rw [HE.out]; rfl, by rw [HE.out]; exact HH.out.below (w.below_past _), (w.below_past _).mono hB, KeptT.of_below (w.below_past _) _ _⟩
  · rcases List.eq_nil_or_concat D.free with hf | ⟨fr, k, hf⟩
    · have HE := hid (show putD most D v = (⟨D.l ++ [v], D.on ++ [true], D.free⟩, D.l.length, 0) by unfold putD; rw [eln, if_neg g1, hf]; rfl)
      have hfl : D.free.length = 0 := by rw [hf]; rfl
      have HFL := hid hfl
      obtain ⟨j0, ji, jz0, jz1, jz2⟩ := info_parts info_int
      obtain ⟨k0, ki, kz0, kz1, kz2⟩ := info_parts info_bool
      have HJ := hid ji
      have HK := hid ki
      obtain ⟨n, en⟩ : ∃ n, D.l.length = n := ⟨_, rfl⟩
      have EN := hid en
      have LON := hid lon
      clear h hrec hL hO hF hap eln hf ji ki lfr hD hfl lon en
      rw [EN.out] at len
      go_enter Try.func9, Try.ntmps9
      go_wp2_with fail
      refine wp_region_past (by kernel_rfl) (by kernel_rfl) ?_
      repeat (go_big_quiet_step ((first | (go_at_call 17; first | with_reducible exact Calls.in_past (HL.out _) | with_reducible exact Calls.in_past2 (HL.out _)) | (go_at_call 17; first | exact Calls.in_past (HL.out _) | exact Calls.in_past2 (HL.out _)))))
      refine wpQuiet_nil ?_
      rintro _ ⟨_, rfl⟩
      rename_i x1
      obtain ⟨w1, ew1⟩ : ∃ w1, w1 = w.past x1 := ⟨_, rfl⟩
      have hb1 : Below w.heap.size w w1 := by rw [ew1]; exact w.below_past x1
      rw [← ew1]
      obtain ⟨A1, c1, A2, c2, A3, c3, hrec, hL, hO, hF, hap⟩ := (HH.out.below hb1).ex
      rw [LON.out, EN.out, HFL.out] at hrec
      rw [EN.out] at hL hap
      rw [LON.out, EN.out] at hO
      rw [HFL.out] at hap hF
      have q1 := Rec.cell hrec 1
      have q3 := Rec.cell hrec 3
      simp at q1 q3
      have hlt1 := Rec.lt hrec
      have hB1 : B ≤ w1.heap.size := Nat.le_trans hB hb1.size
      have HR := hid hrec
      have HLL := hid hL
      have HOO := hid hO
      have HFF := hid hF
      have HAP := hid hap
      clear hrec hL hO hF hap ew1
      go_wp2_with (at_builtin; refine wpList_pushB rfl (.tmp 26) (.tmp 28) 39 rfl 3 j0 (.int .i64 0) 1 8 Try.underlying39 HJ.out jz0 jz1 jz2 rfl (by decide) B hB1 (.slice A1 n c1) n (i64s D.l) rfl HLL.out _ #[.int .i64 v] ?c0 rfl rfl ?c1 ?c2 ?c3 ?_)
      case c0 => rfl
      case c1 => rfl
      case c2 => omega
      case c3 => unfold maxLen; omega
      intro w2 g2 cap2 hL2 hg2 hap2
      have hr2 := Rec.grown HR.out HLL.out hg2 (by decide)
      have hO2 := own_apart HOO.out hg2 (apart_types HOO.out HLL.out (by decide))
      have hF2 := own_apart HFF.out hg2 HAP.out.symm
      have hap3 := hap2 _ HAP.out.symm (fun k hk => (HFF.out.lt k hk).2)
      have q1' := Rec.cell hr2 1
      have q2' := Rec.cell hr2 2
      simp at q1' q2'
      have f1' : w2.frozen? ⟨b, 1, none⟩ = false := Rec.frozen hr2 1
      have hlt2 := Rec.lt hr2
      have hr3 := Rec.set hr2 1 (Value.slice (some ⟨g2, 0, none⟩) (n + 1) cap2)
      have hL3 := own_setB hL2 hr2 (by decide) 1 (Value.slice (some ⟨g2, 0, none⟩) (n + 1) cap2)
      have hO3 := own_setB hO2 hr2 (by decide) 1 (Value.slice (some ⟨g2, 0, none⟩) (n + 1) cap2)
      have hF3 := own_setB hF2 hr2 (by decide) 1 (Value.slice (some ⟨g2, 0, none⟩) (n + 1) cap2)
      have hk3 : KeptT b Tib w1 (w2.setCell ⟨b, 1, none⟩ (Value.slice (some ⟨g2, 0, none⟩) (n + 1) cap2)) := (KeptT.grown HLL.out hg2 (.inl rfl)).trans (KeptT.setB w2 b 1 _ _)
      have hb3 : Below B w (w2.setCell ⟨b, 1, none⟩ (Value.slice (some ⟨g2, 0, none⟩) (n + 1) cap2)) := ((hb1.mono hB).grown hg2 hB1 (fun k hk => (HLL.out.lt k hk).1)).setCell (p := ⟨b, 1, none⟩) hbig _
      have hB3 : B ≤ (w2.setCell ⟨b, 1, none⟩ (Value.slice (some ⟨g2, 0, none⟩) (n + 1) cap2)).heap.size := by simp; omega
      have HR3 := hid hr3
      have HL3 := hid hL3
      have HO3 := hid hO3
      have HF3 := hid hF3
      have HA3 := hid hap3
      have HK3 := hid hk3
      have HB3 := hid hb3
      clear hr2 hO2 hF2 hap3 hr3 hL3 hO3 hF3 hk3 hb3 hL2 hg2 hap2
      go_wp2_with (at_builtin; refine wpList_pushB rfl (.tmp 36) (.tmp 37) 40 rfl 4 k0 (.bool false) 1 1 Try.underlying40 HK.out kz0 kz1 kz2 rfl (by decide) B hB3 (.slice A2 n c2) n (bls D.on) rfl HO3.out _ #[.bool true] ?d0 rfl rfl ?d1 ?d2 ?d3 ?_)
      case d0 => simp
      case d1 => rfl
      case d2 => omega
      case d3 => unfold maxLen; omega
      intro w4 g4 cap4 hO4 hg4 _
      have hr4 := Rec.grown HR3.out HO3.out hg4 (by decide)
      have hL4 := own_apart HL3.out hg4 (apart_types HL3.out HO3.out (by decide))
      have hF4 := own_apart HF3.out hg4 (apart_types HF3.out HO3.out (by decide))
      have q14 := Rec.cell hr4 1
      have q24 := Rec.cell hr4 2
      simp at q14 q24
      have f24 : w4.frozen? ⟨b, 2, none⟩ = false := Rec.frozen hr4 2
      have hlt4 := Rec.lt hr4
      have HR4 := hid hr4
      have HL4 := hid hL4
      have HO4 := hid hO4
      have HF4 := hid hF4
      have HG4 := hid hg4
      have e2 : IntKind.i64.wrap ((n : Int) + 1 - 1) = n := by rw [IntKind.wrap_i64]; omega
      clear hr4 hL4 hF4 hO4 hg4
      go_wp2_with fail
      go_ret2
      have hk5 : KeptT b Tib w1 (w4.setCell ⟨b, 2, none⟩ (Value.slice (some ⟨g4, 0, none⟩) (n + 1) cap4)) := (HK3.out.trans (KeptT.grown HO3.out HG4.out (.inr rfl))).trans (KeptT.setB w4 b 2 _ _)
      have hb5 := (HB3.out.grown HG4.out hB3 (fun k hk => (HO3.out.lt k hk).1)).setCell (p := ⟨b, 2, none⟩) hbig (Value.slice (some ⟨g4, 0, none⟩) (n + 1) cap4)
      have hr5 := Rec.set HR4.out 2 (Value.slice (some ⟨g4, 0, none⟩) (n + 1) cap4)
      have hL5 := own_setB HL4.out HR4.out (by decide) 2 (Value.slice (some ⟨g4, 0, none⟩) (n + 1) cap4)
      have hO5 := own_setB HO4.out HR4.out (by decide) 2 (Value.slice (some ⟨g4, 0, none⟩) (n + 1) cap4)
      have hF5 := own_setB HF4.out HR4.out (by decide) 2 (Value.slice (some ⟨g4, 0, none⟩) (n + 1) cap4)
      have l1 : (D.l ++ [v]).length = n + 1 := by rw [List.length_append, EN.out]; rfl
      have l2 : (D.on ++ [true]).length = n + 1 := by rw [List.length_append, LON.out, EN.out]; rfl
      refine ⟨by rw [HE.out, EN.out]; rfl, ?_, hb5, (KeptT.of_below hb1 _ _).trans hk5⟩
      rw [HE.out]
      refine ⟨hbig, some ⟨g2, 0, none⟩, cap2, some ⟨g4, 0, none⟩, cap4, A3, c3, ?_, ?_, ?_, ?_, ?_⟩
      · simp only [l1, l2, HFL.out]
        simpa using hr5
      · simp only [l1]
        rw [← i64s_snoc]
        exact hL5
      · simp only [l2]
        rw [← bls_snoc]
        exact hO5
      · simp only [HFL.out]
        exact hF5
      · simp only [l1, HFL.out]
        exact HA3.out.symm
    · rw [List.concat_eq_append] at hf
      have HE := hid (show putD most D v = (⟨D.l.set k v, D.on.set k true, fr⟩, k, 0) by
        unfold putD; rw [eln, if_neg g1, hf]; simp)
      obtain ⟨m, em⟩ : ∃ m, fr.length = m := ⟨_, rfl⟩
      have hfl : D.free.length = m + 1 := by rw [hf, List.length_append, em]; rfl
      have hkl : k < D.l.length := hD.fr k (by rw [hf]; simp)
      have HFL := hid hfl
      have HF0 := hid hf
      obtain ⟨n, en⟩ : ∃ n, D.l.length = n := ⟨_, rfl⟩
      have EN := hid en
      have LON := hid lon
      have EM := hid em
      have e0 : wrap64 (m : Int) = m := by unfold wrap64; omega
      clear h hrec hL hO hF hap eln hf lfr hD hfl lon em
      rw [en] at hkl len
      clear en
      go_enter Try.func9, Try.ntmps9
      go_wp2_with fail
      refine wp_region_past (by kernel_rfl) (by kernel_rfl) ?_
      repeat (go_big_quiet_step ((first | (go_at_call 17; first | with_reducible exact Calls.in_past (HL.out _) | with_reducible exact Calls.in_past2 (HL.out _)) | (go_at_call 17; first | exact Calls.in_past (HL.out _) | exact Calls.in_past2 (HL.out _)))))
      refine wpQuiet_nil ?_
      rintro _ ⟨_, rfl⟩
      rename_i x1
      obtain ⟨w1, ew1⟩ : ∃ w1, w1 = w.past x1 := ⟨_, rfl⟩
      have hb1 : Below w.heap.size w w1 := by rw [ew1]; exact w.below_past x1
      rw [← ew1]
      obtain ⟨A1, c1, A2, c2, A3, c3, hrec, hL, hO, hF, hap⟩ := (HH.out.below hb1).ex
      rw [LON.out, EN.out, HFL.out] at hrec
      rw [EN.out] at hL hap
      rw [LON.out, EN.out] at hO
      rw [HFL.out] at hap hF
      obtain ⟨g1', cap1, eA, hg1⟩ := own_succ hL (by omega)
      cases eA
      obtain ⟨g2', cap2, eA, hg2⟩ := own_succ hO (by omega)
      cases eA
      obtain ⟨g3', cap3, eA, _⟩ := own_succ hF (by omega)
      cases eA
      have hgb : ¬ g1' = b := fun e => own_not_rec hL hrec (by decide) (by rw [e]; rfl)
      have hgb2 : ¬ g2' = b := fun e => own_not_rec hO hrec (by decide) (by rw [e]; rfl)
      have h12 : ¬ g2' = g1' := by
        rcases apart_types hO hL (by decide) with h | h | h
        · cases h
        · cases h
        · exact fun e => h (by simp [Value.ownBlock, e])
      have q1 := Rec.cell hrec 1
      have q2 := Rec.cell hrec 2
      have q3 := Rec.cell hrec 3
      simp at q1 q2 q3
      have f3 : w1.frozen? ⟨b, 3, none⟩ = false := Rec.frozen hrec 3
      have hc3 : m ≤ c3 := by
        rcases hF.2 with ⟨h, _⟩ | ⟨g, cap, cur, hv, _, _, hnc, _⟩
        · cases h
        · cases hv; omega
      have hlt1 := Rec.lt hrec
      have hl1 := (hL.lt g1' rfl).2
      have hl2 := (hO.lt g2' rfl).2
      have t3 : w1.cell? ⟨g3', m, none⟩ = some (.int .i64 k) := by
        rw [hF.cellAt m (by omega), HF0.out]
        simp [i64s, nats, EM.out]
      obtain ⟨u1, t1⟩ : ∃ u, w1.cell? ⟨g1', k, none⟩ = some u := by
        rw [hL.cellAt k (by omega)]
        exact ⟨_, List.getElem?_eq_getElem (by rw [i64s_length, EN.out]; exact hkl)⟩
      obtain ⟨u2, t2⟩ : ∃ u, w1.cell? ⟨g2', k, none⟩ = some u := by
        rw [hO.cellAt k (by omega)]
        exact ⟨_, List.getElem?_eq_getElem (by simp [bls, LON.out, EN.out]; exact hkl)⟩
      have p1 := hL.frozenAt k
      have p2 := hO.frozenAt k
      have HR := hid hrec
      have HLL := hid hL
      have HOO := hid hO
      have HFF := hid hF
      have HAP := hid hap
      clear hrec hL hO hF hap ew1
      go_wp2_with fail
      go_ret2
      have hF' := HFF.out
      rw [HF0.out, show i64s (nats (fr ++ [k])) = i64s (nats fr) ++ [.int .i64 (k : Int)] by simp [i64s, nats]] at hF'
      have hF1 := ownsRow_pop (by rw [i64s_length, nats_length, EM.out, Nat.mul_one]) hF'
      obtain ⟨s3, es3⟩ : ∃ s3, Value.slice (some ⟨g3', 0, none⟩) m c3 = s3 := ⟨_, rfl⟩
      have hr2 := Rec.set HR.out 3 (Value.slice (some ⟨g3', 0, none⟩) m c3)
      have hL2 := own_setB HLL.out HR.out (by decide) 3 (Value.slice (some ⟨g3', 0, none⟩) m c3)
      have hO2 := own_setB HOO.out HR.out (by decide) 3 (Value.slice (some ⟨g3', 0, none⟩) m c3)
      have hF2 := own_setB hF1 HR.out (by decide) 3 (Value.slice (some ⟨g3', 0, none⟩) m c3)
      have hb2 := (hb1.mono hB).setCell (p := ⟨b, 3, none⟩) hbig (Value.slice (some ⟨g3', 0, none⟩) m c3)
      have hk2 : KeptT b Tib w1 _ := KeptT.setB w1 b 3 (Value.slice (some ⟨g3', 0, none⟩) m c3) Tib
      have hap2 : Apart (.slice (some ⟨g3', 0, none⟩) m c3) (.slice (some ⟨g1', 0, none⟩) n c1) := by
        rcases HAP.out.symm with h | h | h
        · cases h
        · cases h
        · exact .inr (.inr h)
      generalize hw2 : w1.setCell ⟨b, 3, none⟩ (Value.slice (some ⟨g3', 0, none⟩) m c3) = w2 at *
      have st1 := hL2.stored k (.int .i64 v)
      have hr3 := Rec.grown hr2 hL2 st1.2 (by decide)
      have hO3 := own_apart hO2 st1.2 (apart_types hO2 hL2 (by decide))
      have hF3 := own_apart hF2 st1.2 hap2
      have hk3 := hk2.trans (KeptT.grown hL2 st1.2 (.inl rfl))
      have hb3 := hb2.setCell (p := ⟨g1', k, none⟩) hg1 (Value.int .i64 v)
      have hL3 := st1.1
      generalize hw3 : w2.setCell ⟨g1', k, none⟩ (Value.int .i64 v) = w3 at *
      have st2 := hO3.stored k (.bool true)
      have hr4 := Rec.grown hr3 hO3 st2.2 (by decide)
      have hL4 := own_apart hL3 st2.2 (apart_types hL3 hO3 (by decide))
      have hF4 := own_apart hF3 st2.2 (apart_types hF3 hO3 (by decide))
      have hk4 := hk3.trans (KeptT.grown hO3 st2.2 (.inr rfl))
      have hb4 := hb3.setCell (p := ⟨g2', k, none⟩) hg2 (Value.bool true)
      have hO4 := st2.1
      have l1 : (D.l.set k v).length = n := by rw [List.length_set, EN.out]
      have l2 : (D.on.set k true).length = n := by rw [List.length_set, LON.out, EN.out]
      refine ⟨by rw [HE.out]; rfl, ?_, hb4, (KeptT.of_below hb1 _ _).trans hk4⟩
      rw [HE.out]
      refine ⟨hbig, some ⟨g1', 0, none⟩, c1, some ⟨g2', 0, none⟩, c2, some ⟨g3', 0, none⟩, c3, ?_, ?_, ?_, ?_, ?_⟩
      · simp only [l1, l2, EM.out]
        simpa using hr4
      · simp only [l1]
        rw [← i64s_set]
        exact hL4
      · simp only [l2]
        rw [← bls_set]
        exact hO4
      · simp only [EM.out]
        exact hF4
      · simp only [l1, EM.out]
        exact hap2.symm
end Go.Proofs.Ytgaenonggnkknaa
