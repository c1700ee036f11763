/-
  Layer 02: the product's object with strings, and what its functions do. (Printed by mkS.py out of AreA, AreB, AreC.) No condition.
-/
import Derived.Test.YtgaenonggnkknaaAreC
namespace Go.Proofs.Ytgaenonggnkknaa
open Go.RowKit
def sz : ByteArray := ⟨#[]⟩
abbrev vS (x : ByteArray) : List Value := [.string x]
abbrev ArSt := @ArAt ByteArray 74 76 vS 1
theorem info_slotS : (Try.prog.info? 76).map (fun i => (i.zero, i.size, i.bytes)) = some (some (.agg #[.string ⟨#[]⟩, .bool false, .int .i64 0]), 3, 32) := by kernel_rfl
set_option maxHeartbeats 1000000 in
theorem SPut_any (B b : Nat) (most : Int) (S : Ar ByteArray) (v : ByteArray) (w : World) (hS : OkA 300 S) (h : ArSt B w b most S) (hB : B ≤ w.heap.size) :
    Calls Try.prog 24 #[.pointer (some ⟨b, 0, none⟩), .string v] w (PutP 74 76 vS sz 1 B b most S v w) := by
  obtain ⟨A, cp, hrec, hown⟩ := h.ex
  have hbig := h.big
  have q0 := Rec.cell hrec 0
  have q1 := Rec.cell hrec 1
  have q2 := Rec.cell hrec 2
  have q3 := Rec.cell hrec 3
  simp at q0 q1 q2 q3
  have hlt := Rec.lt hrec
  have n0 := hS.n0
  have n1 := hS.n1
  have e1 : IntKind.i64.wrap (S.n + 1) = S.n + 1 := by rw [IntKind.wrap_i64]; omega
  by_cases g1 : most ≤ S.n
  · have HE := hid (show putA sz most S v = (S, 0, 3) from if_pos g1)
    have HH := hid h
    clear h hrec hown
    go_enter Try.func24, Try.ntmps24
    go_wp2_with fail
    refine wp_region_past (by kernel_rfl) (by kernel_rfl) ?_
    repeat (go_big_quiet_step ((fail)))
    refine wpQuiet_nil ?_
    rintro _ ⟨_, rfl⟩
    go_wp2_with fail
    go_ret2
    exact ⟨by rw [HE.out]; rfl, by rw [HE.out]; exact HH.out.below (w.below_past _), (w.below_past _).mono hB, KeptT.of_below (w.below_past _) _ _⟩
  · have g1' : (decide (S.n ≥ most)) = false := by simpa using g1
    have hlen := hS.len
    have hfree := hS.free
    by_cases g2 : S.free = 0
    · have HE := hid (show putA sz most S v = (⟨S.l ++ [(v, true, 0)], 0, S.n + 1⟩, S.l.length, 0) from by unfold putA; rw [if_neg g1, if_pos g2])
      have hz : (S.free : Int) = 0 := by omega
      rw [hz] at q2 hrec
      obtain ⟨j0, ji, jz0, jz1, jz2⟩ := info_parts info_slotS
      have HJ := hid ji
      have HR := hid hrec
      have HO := hid hown
      clear h hrec hown ji g2 hz
      go_enter Try.func24, Try.ntmps24
      go_wp2_with fail
      refine wp_region_past (by kernel_rfl) (by kernel_rfl) ?_
      repeat (go_big_quiet_step ((fail)))
      refine wpQuiet_nil ?_
      rintro _ ⟨_, rfl⟩
      rename_i x1
      obtain ⟨w1, ew1⟩ : ∃ w1, w1 = w.past x1 := ⟨_, rfl⟩
      have hb1 : Below w.heap.size w w1 := by rw [ew1]; exact w.below_past x1
      have hrec := HR.out.below hb1 (Nat.le_refl _)
      have hown := own_below HO.out hb1 (Nat.le_refl _)
      have q0 := Rec.cell hrec 0
      have q1 := Rec.cell hrec 1
      have q2 := Rec.cell hrec 2
      have q3 := Rec.cell hrec 3
      have f0 := Rec.frozen hrec 3
      simp at q0 q1 q2 q3
      have hlt := Rec.lt hrec
      rw [← ew1]
      have hrec2 := Rec.set hrec 3 (.int .i64 (S.n + 1))
      have hown2 := own_setB hown hrec (by decide) 3 (.int .i64 (S.n + 1))
      have HR2 := hid hrec2
      have HO2 := hid hown2
      have hsz : (w1.setCell ⟨b, 3, none⟩ (.int .i64 (S.n + 1))).heap.size = w1.heap.size := by simp
      clear ew1 hrec hown hrec2 hown2
      go_wp2_with (at_builtin; refine wpList_append_own _ rfl _ _ 72 rfl B 76 j0 (.agg #[.string ⟨#[]⟩, .bool false, .int .i64 0]) 3 32 Try.underlying72 HJ.out jz0 jz1 jz2 rfl (by decide) _ _ _ rfl (HO2.out.alloc _) ⟨w1.heap.size, 0, none⟩ 1 1 [.string v, .bool true, .int .i64 0] rfl rfl ?c1 ?c2 ?c3 ?c4 ?c5 ?_)
      case c1 =>
        intro j u hj
        match j, hj with
        | 0, hj => simp at hj; subst hj; simp only [Addr.add]; rw [← hsz]; exact World.cell?_alloc_new _ _ _ _
        | 1, hj => simp at hj; subst hj; simp only [Addr.add]; rw [← hsz]; exact World.cell?_alloc_new _ _ _ _
        | 2, hj => simp at hj; subst hj; simp only [Addr.add]; rw [← hsz]; exact World.cell?_alloc_new _ _ _ _
      case c2 => intro u hu; simp at hu; rcases hu with rfl | rfl | rfl <;> rfl
      case c3 => unfold maxLen; omega
      case c4 => omega
      case c5 => have := hb1.size; simp; omega
      intro v' w2 hown' hgrow _
      have hrow2 := Rec.grown (Rec.alloc HR2.out (.cells #[.string v, .bool true, .int .i64 0] 76)) (HO2.out.alloc _) hgrow (by decide)
      obtain ⟨g, cap, rfl⟩ : ∃ g cap, v' = .slice (some ⟨g, 0, none⟩) (S.l.length + 1) cap := by
        rcases hown'.2 with ⟨_, h0⟩ | ⟨g, cap, cur, hv, _⟩
        · omega
        · exact ⟨g, cap, hv⟩
      have d1 : w2.cell? ⟨b, 1, none⟩ = some (.slice A S.l.length cp) := by rw [Rec.cell hrow2]; simp
      have f1 : w2.frozen? ⟨b, 1, none⟩ = false := Rec.frozen hrow2 1
      have hlt2 := Rec.lt hrow2
      have e2 : IntKind.i64.wrap ((S.l.length : Int) + 1 - 1) = S.l.length := by rw [IntKind.wrap_i64]; omega
      have HROW := hid hrow2
      have HOW := hid hown'
      have HGR := hid hgrow
      clear hrow2 hown' hgrow
      go_wp2
      go_ret2
      have hk1 : KeptT b (fun t => t = 76) w1 w2 := ((KeptT.setB w1 b 3 _ _).trans (KeptT.of_below ((Below.refl _ _).alloc (Nat.le_refl _) _) _ _)).trans (KeptT.grown (HO2.out.alloc _) HGR.out rfl)
      have hk2 := hk1.trans (KeptT.setB w2 b 1 (.slice (some ⟨g, 0, none⟩) (S.l.length + 1) cap) _)
      refine ⟨by rw [HE.out]; simp, ?_, ?_, (KeptT.of_below hb1 _ _).trans hk2⟩
      · rw [HE.out]
        refine ⟨hbig, some ⟨g, 0, none⟩, cap, ?_, ?_⟩
        · have := Rec.set HROW.out 1 (.slice (some ⟨g, 0, none⟩) (S.l.length + 1) cap)
          simpa using this
        · have := own_setB HOW.out HROW.out (by decide) 1 (.slice (some ⟨g, 0, none⟩) (S.l.length + 1) cap)
          simp only [List.length_append, List.length_cons, List.length_nil]
          rw [← tab_snoc]
          exact this
      · exact ((((hb1.mono hB).setCell (p := ⟨b, 3, none⟩) hbig _).alloc (by have := hb1.size; simp; omega) _).grown HGR.out (by have := hb1.size; simp; omega) (fun k hk => (HO2.out.lt k hk).1)).setCell (p := ⟨b, 1, none⟩) hbig _
    · obtain ⟨k, hk⟩ : ∃ k, S.free = k + 1 := ⟨S.free - 1, by omega⟩
      have hkl : k < S.l.length := by omega
      have HE := hid (show putA sz most S v = (⟨S.l.set k (v, true, 0), (slotA sz S.l k).2.2, S.n + 1⟩, k, 0) from by unfold putA; rw [if_neg g1, if_neg g2, hk]; rfl)
      obtain ⟨g, cap, eA, _⟩ := own_succ hown (by omega)
      cases eA
      have hgb : ¬ g = b := fun e => own_not_rec hown hrec (by decide) (by rw [e]; rfl)
      have hat := hown.cellAt (k * 3 + 2) (by omega)
      rw [tab_get (slV_length (c := 1) (fun _ => rfl)) S.l k _ 2 (slot_at (z := sz) hkl) (by omega)] at hat
      have hat2 : w.cell? ⟨g, k * 3 + 2, none⟩ = some (.int .i64 (slotA sz S.l k).2.2) := hat
      generalize hnx : (slotA sz S.l k).2.2 = nx at HE hat2
      have HR := hid hrec
      have HO := hid hown
      have e3 : IntKind.i64.wrap ((S.free : Int) - 1) = k := by rw [IntKind.wrap_i64, hk]; omega
      have hz : ¬ (S.free : Int) = 0 := by omega
      obtain ⟨fr, efr⟩ : ∃ fr, S.free = fr := ⟨_, rfl⟩
      obtain ⟨n, en⟩ : ∃ n, S.l.length = n := ⟨_, rfl⟩
      have EN := hid en
      have hb1' := hid hat2
      rw [efr] at HR e3 hz
      rw [en] at HR HO hkl
      clear h hrec hown g2 hat hat2 hk hnx efr en q1 q2 hfree hlen
      go_enter Try.func24, Try.ntmps24
      go_wp2_with fail
      refine wp_region_past (by kernel_rfl) (by kernel_rfl) ?_
      repeat (go_big_quiet_step ((fail)))
      refine wpQuiet_nil ?_
      rintro _ ⟨_, rfl⟩
      rename_i x1
      obtain ⟨w1, ew1⟩ : ∃ w1, w1 = w.past x1 := ⟨_, rfl⟩
      have hb1 : Below w.heap.size w w1 := by rw [ew1]; exact w.below_past x1
      have hrec := HR.out.below hb1 (Nat.le_refl _)
      have hown := own_below HO.out hb1 (Nat.le_refl _)
      have q1 := Rec.cell hrec 1
      have q2 := Rec.cell hrec 2
      have q3 := Rec.cell hrec 3
      have f2 := Rec.frozen hrec 2
      have f3 := Rec.frozen hrec 3
      have qn := below_cell hb1 (Nat.le_refl _) _ _ hb1'.out
      have hs := fun j hj => own_there hown (o := k * 3) (m := 3) (by omega) j hj
      obtain ⟨u0, t0⟩ := Option.isSome_iff_exists.1 (hs 0 (by omega)).1
      obtain ⟨u1, t1⟩ := Option.isSome_iff_exists.1 (hs 1 (by omega)).1
      have p0 := (hs 0 (by omega)).2
      have p1 := (hs 1 (by omega)).2
      have p2 := (hs 2 (by omega)).2
      rw [Nat.add_zero] at t0 p0
      simp at q1 q2 q3
      have hlt := Rec.lt hrec
      rw [← ew1]
      have hrec2 := Rec.set (Rec.set hrec 3 (.int .i64 (S.n + 1))) 2 (.int .i64 nx)
      have hown2 := own_setB (own_setB hown hrec (by decide) 3 (.int .i64 (S.n + 1))) (Rec.set hrec 3 (.int .i64 (S.n + 1))) (by decide) 2 (.int .i64 nx)
      have hput := own_put (slV_length (f := vS) (c := 1) (fun _ => rfl)) (by omega) (l := S.l) (by rw [EN.out]; exact hown2) (k := k) (by rw [EN.out]; exact hkl) (v, true, 0)
      have HR2 := hid hrec2
      have HO2 := hid hown2
      have HP := hid hput
      clear ew1 hrec hown hrec2 hown2 hput hs
      clear hb1'
      go_wp2
      go_ret2
      have hk1 : KeptT b (fun t => t = 76) w1 ((w1.setCell ⟨b, 3, none⟩ (.int .i64 (S.n + 1))).setCell ⟨b, 2, none⟩ (.int .i64 nx)) := (KeptT.setB w1 b 3 _ _).trans (KeptT.setB _ b 2 _ _)
      have hk2 := hk1.trans (KeptT.grown HO2.out HP.out.2.1 rfl)
      refine ⟨by rw [HE.out]; rfl, ?_, ?_, (KeptT.of_below hb1 _ _).trans hk2⟩
      · rw [HE.out]
        refine ⟨hbig, some ⟨g, 0, none⟩, cp, ?_, ?_⟩
        · have := Rec.grown HR2.out HO2.out HP.out.2.1 (by decide)
          simp only [List.length_set]
          rw [EN.out]
          exact this
        · have := HP.out.1
          simp only [List.length_set]
          exact this
      · exact (((hb1.mono hB).setCell (p := ⟨b, 3, none⟩) hbig _).setCell (p := ⟨b, 2, none⟩) hbig _).grown HP.out.2.1 (by have := hb1.size; simp; omega) (fun j hj => (HO2.out.lt j hj).1)
abbrev RdSt := @ArRd ByteArray 74 76 vS 1
/-- An element's three cells. -/
theorem rdSt_at {w : World} {b : Nat} {A : Option Addr} {l : List (Slot ByteArray)} (h : Cells w A (tab (slV vS) l)) {k : Nat} (hk : k < l.length) : ∃ g o : Nat, A = some ⟨g, o, none⟩ ∧
    w.cell? ⟨g, o + k * 3, none⟩ = some (.string (slotA sz l k).1) ∧ w.cell? ⟨g, o + k * 3 + 1, none⟩ = some (.bool (slotA sz l k).2.1) ∧ w.cell? ⟨g, o + k * 3 + 2, none⟩ = some (.int .i64 (slotA sz l k).2.2) := by
  obtain ⟨g, o, e, hc⟩ := h.tab_at (slV_length (c := 1) (fun _ => rfl)) (slot_at (z := sz) hk) (by omega)
  exact ⟨g, o, e, hc 0 _ rfl, hc 1 _ rfl, hc 2 _ rfl⟩
theorem SIs_any (b : Nat) (most : Int) (S : Ar ByteArray) (i : Int) (w : World) (h : RdSt w b most S) :
    Calls Try.prog 32 #[.pointer (some ⟨b, 0, none⟩), .int .i64 i] w (Gives (.bool (isA sz S.l i)) w) := by
  obtain ⟨A, cp, hrec, hc⟩ := h.ex
  have q1 := Rec.cell hrec 1
  simp at q1
  clear h hrec
  by_cases g1 : i < 0
  · have HE := hid (show isA sz S.l i = false by unfold isA; rw [decide_eq_false (by omega)]; rfl)
    clear hc
    go_enter Try.func32, Try.ntmps32
    go_wp2
    go_ret
    exact Gives.refl (by rw [HE.out]; rfl)
  · obtain ⟨k, rfl⟩ := Int.eq_ofNat_of_zero_le (show 0 ≤ i by omega)
    by_cases g2 : k < S.l.length
    · obtain ⟨g, o, rfl, c0, c1, c2⟩ := rdSt_at (b := b) hc g2
      have HE := hid (show isA sz S.l k = (slotA sz S.l k).2.1 by unfold isA; rw [decide_eq_true (by omega), decide_eq_true (by omega)]; rfl)
      obtain ⟨n, en⟩ : ∃ n, S.l.length = n := ⟨_, rfl⟩
      obtain ⟨on, eon⟩ : ∃ on, (slotA sz S.l k).2.1 = on := ⟨_, rfl⟩
      rw [en] at q1 g2
      rw [eon] at c1 HE
      clear hc en eon c0 c2
      go_enter Try.func32, Try.ntmps32
      go_wp2
      go_ret
      exact Gives.refl (by rw [HE.out]; rfl)
    · have HE := hid (show isA sz S.l k = false by unfold isA; rw [decide_eq_false (p := (k : Int) < S.l.length) (by omega), Bool.and_false]; rfl)
      obtain ⟨n, en⟩ : ∃ n, S.l.length = n := ⟨_, rfl⟩
      rw [en] at q1 g2
      clear hc en
      go_enter Try.func32, Try.ntmps32
      go_wp2
      go_ret
      exact Gives.refl (by rw [HE.out]; rfl)
theorem SGet_any (b : Nat) (most : Int) (S : Ar ByteArray) (i : Int) (w : World) (h : RdSt w b most S) :
    Calls Try.prog 26 #[.pointer (some ⟨b, 0, none⟩), .int .i64 i] w (Gives (.tuple #[.string (getA sz S i).1, .bool (getA sz S i).2]) w) := by
  have HI := hid (SIs_any b most S i w h)
  by_cases g1 : isA sz S.l i = true
  · have HE := hid (show getA sz S i = ((slotA sz S.l i.toNat).1, true) from if_pos g1)
    rw [g1] at HI
    obtain ⟨h1, h2, _⟩ := isA_iff.1 g1
    obtain ⟨k, rfl⟩ := Int.eq_ofNat_of_zero_le h1
    have hkl : k < S.l.length := by omega
    obtain ⟨A, cp, hrec, hc⟩ := h.ex
    obtain ⟨g, o, rfl, c0, c1, c2⟩ := rdSt_at (b := b) hc hkl
    have q1 := Rec.cell hrec 1
    simp at q1
    rw [Int.toNat_natCast] at HE
    obtain ⟨n, en⟩ : ∃ n, S.l.length = n := ⟨_, rfl⟩
    obtain ⟨x, ex⟩ : ∃ x, (slotA sz S.l k).1 = x := ⟨_, rfl⟩
    rw [en] at q1 hkl
    rw [ex] at c0 HE
    clear h hc hrec en ex c1 c2 h1 h2 g1
    go_enter Try.func26, Try.ntmps26
    go_wp2_with (go_at_call 32; refine HI.out.mono ?_; rintro _ _ ⟨rfl, x1, rfl⟩)
    go_ret2
    exact Gives.mk (by rw [HE.out]; rfl) (World.below_past _ _)
  · have HE := hid (show getA sz S i = (sz, false) from if_neg g1)
    rw [Bool.eq_false_iff.2 g1] at HI
    clear h g1
    go_enter Try.func26, Try.ntmps26
    go_wp2_with (go_at_call 32; refine HI.out.mono ?_; rintro _ _ ⟨rfl, x1, rfl⟩)
    go_ret2
    exact Gives.mk (by rw [HE.out]; rfl) (World.below_past _ _)
theorem SLen_any (b : Nat) (most : Int) (S : Ar ByteArray) (w : World) (h : RdSt w b most S) : Calls Try.prog 27 #[.pointer (some ⟨b, 0, none⟩)] w (Gives (.int .i64 S.n) w) := by
  obtain ⟨A, cp, hrec, hc⟩ := h.ex
  have q3 := Rec.cell hrec 3
  simp at q3
  clear h hrec hc
  go_enter Try.func27, Try.ntmps27
  go_wp2
  go_ret
  exact Gives.refl rfl
theorem SMost_any (b : Nat) (most : Int) (S : Ar ByteArray) (w : World) (h : RdSt w b most S) : Calls Try.prog 28 #[.pointer (some ⟨b, 0, none⟩)] w (Gives (.int .i64 most) w) := by
  obtain ⟨A, cp, hrec, hc⟩ := h.ex
  have q3 := Rec.cell hrec 0
  simp at q3
  clear h hrec hc
  go_enter Try.func28, Try.ntmps28
  go_wp2
  go_ret
  exact Gives.refl rfl
set_option maxHeartbeats 1000000 in
theorem SDrop_any (B b : Nat) (most : Int) (S : Ar ByteArray) (i : Int) (w : World) (hS : OkA 300 S) (h : ArSt B w b most S) (hB : B ≤ w.heap.size) :
    Calls Try.prog 25 #[.pointer (some ⟨b, 0, none⟩), .int .i64 i] w (ChP 74 76 vS 1 B b most (dropA sz S i) (.tuple #[.string (getA sz S i).1, .bool (getA sz S i).2]) w) := by
  have HI := hid (SGet_any b most S i w h.rd)
  have HH := hid h
  by_cases g1 : isA sz S.l i = true
  · have HE2 := hid (show getA sz S i = ((slotA sz S.l i.toNat).1, true) from if_pos g1)
    rw [HE2.out] at HI
    obtain ⟨h1, h2, _⟩ := isA_iff.1 g1
    obtain ⟨k, rfl⟩ := Int.eq_ofNat_of_zero_le h1
    rw [Int.toNat_natCast] at HI HE2
    have hkl : k < S.l.length := by omega
    have HE := hid (show dropA sz S k = ⟨S.l.set k (sz, false, S.free), k + 1, S.n - 1⟩ from if_pos g1)
    have n0 := hS.n0
    have n1 := hS.n1
    have hlen := hS.len
    have e1 : IntKind.i64.wrap (S.n - 1) = S.n - 1 := by rw [IntKind.wrap_i64]; omega
    have e2 : IntKind.i64.wrap ((k : Int) + 1) = (k : Int) + 1 := by rw [IntKind.wrap_i64]; omega
    obtain ⟨x, ex⟩ : ∃ x, (slotA sz S.l k).1 = x := ⟨_, rfl⟩
    rw [ex] at HI HE2
    clear h h1 h2 g1 hS ex n0 n1 hlen
    go_enter Try.func25, Try.ntmps25
    go_wp2_with fail
    refine HI.out.mono ?_
    rintro _ _ ⟨rfl, x1, rfl⟩
    obtain ⟨w1, ew1⟩ : ∃ w1, w1 = w.past x1 := ⟨_, rfl⟩
    have hb1 : Below w.heap.size w w1 := by rw [ew1]; exact w.below_past x1
    rw [← ew1]
    obtain ⟨A, cp, hrec, hown⟩ := (HH.out.below hb1).ex
    have hbig := HH.out.big
    obtain ⟨g, cap, eA, _⟩ := own_succ hown (by omega)
    cases eA
    have hgb : ¬ g = b := fun e => own_not_rec hown hrec (by decide) (by rw [e]; rfl)
    have q1 := Rec.cell hrec 1
    have q2 := Rec.cell hrec 2
    have q3 := Rec.cell hrec 3
    have f2 := Rec.frozen hrec 2
    have f3 := Rec.frozen hrec 3
    simp at q1 q2 q3
    have hlt := Rec.lt hrec
    have hltg : g < w1.heap.size := (hown.lt g rfl).2
    have hs := fun j hj => own_there hown (o := k * 3) (m := 3) (by omega) j hj
    obtain ⟨u0, t0⟩ := Option.isSome_iff_exists.1 (hs 0 (by omega)).1
    obtain ⟨u1, t1⟩ := Option.isSome_iff_exists.1 (hs 1 (by omega)).1
    obtain ⟨u2, t2⟩ := Option.isSome_iff_exists.1 (hs 2 (by omega)).1
    have p0 := (hs 0 (by omega)).2
    have p1 := (hs 1 (by omega)).2
    have p2 := (hs 2 (by omega)).2
    rw [Nat.add_zero] at t0 p0
    have hput := own_put (slV_length (f := vS) (c := 1) (fun _ => rfl)) (by omega) hown hkl (sz, false, S.free)
    have HP := hid hput
    have HR := hid hrec
    have HO := hid hown
    obtain ⟨n, en⟩ : ∃ n, S.l.length = n := ⟨_, rfl⟩
    have EN := hid en
    rw [en] at q1 hkl
    clear ew1 hrec hown hput hs en
    go_wp2_with fail
    go_region
    go_wp2
    go_ret2
    have hr1 := Rec.grown HR.out HO.out HP.out.2.1 (by decide)
    have ho1 := HP.out.1
    obtain ⟨W1, eW1⟩ : ∃ W1, W1 = w1.setCells g (k * (1 + 2)) (slV vS (sz, false, S.free)) := ⟨_, rfl⟩
    rw [← eW1] at hr1 ho1
    have hg1 := HP.out.2.1
    rw [← eW1] at hg1
    have hr2 := Rec.set (Rec.set hr1 2 (.int .i64 ((k : Int) + 1))) 3 (.int .i64 (S.n - 1))
    have ho2 := own_setB (own_setB ho1 hr1 (by decide) 2 (.int .i64 ((k : Int) + 1))) (Rec.set hr1 2 (.int .i64 ((k : Int) + 1))) (by decide) 3 (.int .i64 (S.n - 1))
    have hk2 : KeptT b (fun t => t = 76) w1 ((W1.setCell ⟨b, 2, none⟩ (.int .i64 ((k : Int) + 1))).setCell ⟨b, 3, none⟩ (.int .i64 (S.n - 1))) :=
      ((KeptT.grown (ts := fun t => t = 76) HO.out hg1 rfl).trans (KeptT.setB W1 b 2 _ _)).trans (KeptT.setB _ b 3 _ _)
    have hB1 : Below B w W1 := (hb1.mono hB).grown hg1 (by have := hb1.size; omega) (fun j hj => (HO.out.lt j hj).1)
    have hB2 := (hB1.setCell (p := ⟨b, 2, none⟩) hbig (.int .i64 ((k : Int) + 1))).setCell (p := ⟨b, 3, none⟩) hbig (.int .i64 (S.n - 1))
    have main : ChP 74 76 vS 1 B b most (dropA sz S k) (.tuple #[.string (getA sz S k).1, .bool (getA sz S k).2]) w (.returned (.tuple #[.string x, .bool true])) ((W1.setCell ⟨b, 2, none⟩ (.int .i64 ((k : Int) + 1))).setCell ⟨b, 3, none⟩ (.int .i64 (S.n - 1))).drew := by
      refine ⟨by rw [HE2.out], ?_, hB2.drew, ((KeptT.of_below hb1 _ _).trans hk2).trans (KeptT.of_below (Below.refl _ _).drew _ _)⟩
      rw [HE.out]
      refine ⟨hbig, some ⟨g, 0, none⟩, cp, ?_, ?_⟩
      · simp only [List.length_set]
        simpa using hr2.drew
      · simp only [List.length_set]
        exact own_below ho2 (Below.refl _ _).drew (Nat.le_refl _)
    subst eW1
    exact main
  · have HE := hid (show dropA sz S i = S from if_neg g1)
    have HG := hid (show getA sz S i = (sz, false) from if_neg g1)
    rw [HG.out] at HI
    clear h g1
    go_enter Try.func25, Try.ntmps25
    go_wp2_with (go_at_call 26; refine HI.out.mono ?_; rintro _ _ ⟨rfl, x1, rfl⟩)
    go_ret2
    exact ⟨by rw [HG.out]; rfl, by rw [HE.out]; exact HH.out.below (w.below_past _), (w.below_past _).mono hB, KeptT.of_below (w.below_past _) _ _⟩
theorem SNew_any (B : Nat) (most : Int) (w : World) (hB : B ≤ w.heap.size) :
    Calls Try.prog 23 #[.int .i64 most] w (fun e w' => ∃ b, e = .returned (.pointer (some ⟨b, 0, none⟩)) ∧ ArSt B w' b (mostA most) ⟨[], 0, 0⟩ ∧ Below w.heap.size w w') := by
  obtain ⟨m, hm⟩ : ∃ m, mostA most = m := ⟨_, rfl⟩
  rw [hm]
  have key : ∀ W : World, W = w.alloc (.cells #[.int .i64 m, .slice none 0 0, .int .i64 0, .int .i64 0] 74) → ArSt B W w.heap.size m ⟨[], 0, 0⟩ ∧ Below w.heap.size w W := by
    rintro _ rfl
    exact ⟨⟨hB, none, 0, Rec.new w _ _, rfl, .inl ⟨rfl, rfl⟩⟩, (Below.refl _ w).alloc (Nat.le_refl _) _⟩
  have K := hid key
  unfold mostA at hm
  clear key
  by_cases h1 : most < 0
  · obtain rfl : m = 0 := by omega
    clear hm
    go_enter Try.func23, Try.ntmps23
    go_wp2
    go_ret
    exact ⟨_, rfl, K.out _ rfl⟩
  · by_cases h2 : 4096 < most
    · obtain rfl : m = 4096 := by omega
      clear hm
      have h3 : 0 ≤ most := by omega
      go_enter Try.func23, Try.ntmps23
      go_wp2
      go_ret
      exact ⟨_, rfl, K.out _ rfl⟩
    · obtain rfl : m = most := by omega
      clear hm
      have h3 : 0 ≤ m := by omega
      have h4 : m ≤ 4096 := by omega
      go_enter Try.func23, Try.ntmps23
      go_wp2
      go_ret
      exact ⟨_, rfl, K.out _ rfl⟩
end Go.Proofs.Ytgaenonggnkknaa
