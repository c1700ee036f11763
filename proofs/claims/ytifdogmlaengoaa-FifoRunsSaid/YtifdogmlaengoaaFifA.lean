/-
  Layer 05: the arena of links with ints: what is read of it. No condition.
-/
import Derived.Test.YtifdogmlaengoaaFifM
namespace Go.Proofs.Ytifdogmlaengoaa
open Go.RowKit
/-! An arena of links: what is read of it. -/
abbrev Lk := Int × Int × Int × Int
abbrev fL (x : Lk) : List Value := [.int .i64 x.1, .int .i64 x.2.1, .int .i64 x.2.2.1, .int .i64 x.2.2.2]
abbrev aL (x : Lk) : Value := .agg #[.int .i64 x.1, .int .i64 x.2.1, .int .i64 x.2.2.1, .int .i64 x.2.2.2]
def zL : Lk := (0, 0, 0, 0)
abbrev ArL := @ArAt Lk 85 87 fL 4
abbrev RdL := @ArRd Lk 85 87 fL 4
theorem info_slotL : (Try.prog.info? 87).map (fun i => (i.zero, i.size, i.bytes)) = some (some (.agg #[.int .i64 0, .int .i64 0, .int .i64 0, .int .i64 0, .bool false, .int .i64 0]), 6, 48) := by kernel_rfl
theorem rdL_at {w : World} {A : Option Addr} {l : List (Slot Lk)} (h : Cells w A (tab (slV fL) l)) {k : Nat} (hk : k < l.length) : ∃ g o : Nat, A = some ⟨g, o, none⟩ ∧
    w.cell? ⟨g, o + k * 6, none⟩ = some (.int .i64 (slotA zL l k).1.1) ∧ w.cell? ⟨g, o + k * 6 + 1, none⟩ = some (.int .i64 (slotA zL l k).1.2.1) ∧ w.cell? ⟨g, o + k * 6 + 2, none⟩ = some (.int .i64 (slotA zL l k).1.2.2.1) ∧ w.cell? ⟨g, o + k * 6 + 3, none⟩ = some (.int .i64 (slotA zL l k).1.2.2.2) ∧
    w.cell? ⟨g, o + k * 6 + 4, none⟩ = some (.bool (slotA zL l k).2.1) ∧ w.cell? ⟨g, o + k * 6 + 5, none⟩ = some (.int .i64 (slotA zL l k).2.2) := by
  obtain ⟨g, o, e, hc⟩ := h.tab_at (slV_length (c := 4) (fun _ => rfl)) (slot_at (z := zL) hk) (by omega)
  exact ⟨g, o, e, hc 0 _ rfl, hc 1 _ rfl, hc 2 _ rfl, hc 3 _ rfl, hc 4 _ rfl, hc 5 _ rfl⟩
theorem LIs_any (b : Nat) (most : Int) (S : Ar Lk) (i : Int) (w : World) (h : RdL w b most S) :
    Calls Try.prog 43 #[.pointer (some ⟨b, 0, none⟩), .int .i64 i] w (Gives (.bool (isA zL S.l i)) w) := by
  obtain ⟨A, cp, hrec, hc⟩ := h.ex
  have q1 := Rec.cell hrec 1
  simp at q1
  clear h hrec
  by_cases g1 : i < 0
  · have HE := hid (show isA zL S.l i = false by unfold isA; rw [decide_eq_false (by omega)]; rfl)
    clear hc
    go_enter Try.func43, Try.ntmps43
    go_wp2
    go_ret
    exact Gives.refl (by rw [HE.out]; rfl)
  · obtain ⟨k, rfl⟩ := Int.eq_ofNat_of_zero_le (show 0 ≤ i by omega)
    by_cases g2 : k < S.l.length
    · obtain ⟨g, o, rfl, c0, c1, c2, c3, c4, c5⟩ := rdL_at hc g2
      have HE := hid (show isA zL S.l k = (slotA zL S.l k).2.1 by unfold isA; rw [decide_eq_true (by omega), decide_eq_true (by omega)]; rfl)
      obtain ⟨n, en⟩ : ∃ n, S.l.length = n := ⟨_, rfl⟩
      obtain ⟨on, eon⟩ : ∃ on, (slotA zL S.l k).2.1 = on := ⟨_, rfl⟩
      rw [en] at q1 g2
      rw [eon] at c4 HE
      clear hc en eon c0 c1 c2 c3 c5
      go_enter Try.func43, Try.ntmps43
      go_wp2
      go_ret
      exact Gives.refl (by rw [HE.out]; rfl)
    · have HE := hid (show isA zL S.l k = false by unfold isA; rw [decide_eq_false (p := (k : Int) < S.l.length) (by omega), Bool.and_false]; rfl)
      obtain ⟨n, en⟩ : ∃ n, S.l.length = n := ⟨_, rfl⟩
      rw [en] at q1 g2
      clear hc en
      go_enter Try.func43, Try.ntmps43
      go_wp2
      go_ret
      exact Gives.refl (by rw [HE.out]; rfl)
theorem LGet_any (b : Nat) (most : Int) (S : Ar Lk) (i : Int) (w : World) (h : RdL w b most S) :
    Calls Try.prog 33 #[.pointer (some ⟨b, 0, none⟩), .int .i64 i] w (Gives (.tuple #[aL (getA zL S i).1, .bool (getA zL S i).2]) w) := by
  have HI := hid (fun W (hW : Below w.heap.size w W) => LIs_any b most S i W (h.below hW))
  by_cases g1 : isA zL S.l i = true
  · have HE := hid (show getA zL S i = ((slotA zL S.l i.toNat).1, true) from if_pos g1)
    rw [g1] at HI
    obtain ⟨h1, h2, _⟩ := isA_iff.1 g1
    obtain ⟨k, rfl⟩ := Int.eq_ofNat_of_zero_le h1
    have hkl : k < S.l.length := by omega
    obtain ⟨A, cp, hrec, hc⟩ := h.ex
    obtain ⟨g, o, rfl, c0, c1, c2, c3, c4, c5⟩ := rdL_at hc hkl
    have q1 := Rec.cell hrec 1
    simp at q1
    rw [Int.toNat_natCast] at HE
    obtain ⟨n, en⟩ : ∃ n, S.l.length = n := ⟨_, rfl⟩
    obtain ⟨⟨x1, x2, x3, x4⟩, ex⟩ : ∃ x, (slotA zL S.l k).1 = x := ⟨_, rfl⟩
    rw [en] at q1 hkl
    rw [ex] at c0 c1 c2 c3 HE
    have hb := Rec.lt hrec
    have hg := World.block_lt_of_cell? w _ c0
    simp only at c0 c1 c2 c3 hg
    clear h hc hrec en ex c4 c5 h1 h2 g1
    go_enter Try.func33, Try.ntmps33
    go_wp2_with (go_at_call 43; refine (HI.out _ (by (repeat (first | exact Below.refl _ _ | refine RowKit.Below.past ?_ _ | refine RowKit.Below.alloc' ?_ _ | refine RowKit.Below.drew' ?_ | refine RowKit.Below.drewN' ?_ _ | refine RowKit.Below.setCell' ?_ (by simp [go_sem]) _)))).mono ?_; rintro _ _ ⟨rfl, y1, rfl⟩)
    refine bodyPost_ret (v := .tuple #[.agg #[.int .i64 x1, .int .i64 x2, .int .i64 x3, .int .i64 x4], .bool true]) ?_ rfl ?_
    · simp [results, Try.results33, go_sem]
    · refine Gives.mk (by rw [HE.out]) ?_
      (repeat (first | exact Below.refl _ _ | refine RowKit.Below.past ?_ _ | refine RowKit.Below.alloc' ?_ _ | refine RowKit.Below.drew' ?_ | refine RowKit.Below.drewN' ?_ _ | refine RowKit.Below.setCell' ?_ (by simp [go_sem]) _))
  · have HE := hid (show getA zL S i = (zL, false) from if_neg g1)
    rw [Bool.eq_false_iff.2 g1] at HI
    clear h g1
    go_enter Try.func33, Try.ntmps33
    go_wp2_with (go_at_call 43; refine (HI.out _ (by (repeat (first | exact Below.refl _ _ | refine RowKit.Below.past ?_ _ | refine RowKit.Below.alloc' ?_ _ | refine RowKit.Below.drew' ?_ | refine RowKit.Below.drewN' ?_ _ | refine RowKit.Below.setCell' ?_ (by simp [go_sem]) _)))).mono ?_; rintro _ _ ⟨rfl, y1, rfl⟩)
    refine bodyPost_ret (v := .tuple #[.agg #[.int .i64 0, .int .i64 0, .int .i64 0, .int .i64 0], .bool false]) ?_ rfl ?_
    · simp [results, Try.results33, go_sem]
    · refine Gives.mk (by rw [HE.out]; rfl) ?_
      (repeat (first | exact Below.refl _ _ | refine RowKit.Below.past ?_ _ | refine RowKit.Below.alloc' ?_ _ | refine RowKit.Below.drew' ?_ | refine RowKit.Below.drewN' ?_ _ | refine RowKit.Below.setCell' ?_ (by simp [go_sem]) _))
theorem LLen_any (b : Nat) (most : Int) (S : Ar Lk) (w : World) (h : RdL w b most S) : Calls Try.prog 30 #[.pointer (some ⟨b, 0, none⟩)] w (Gives (.int .i64 S.n) w) := by
  obtain ⟨A, cp, hrec, hc⟩ := h.ex
  have q3 := Rec.cell hrec 3
  simp at q3
  clear h hrec hc
  go_enter Try.func30, Try.ntmps30
  go_wp2
  go_ret
  exact Gives.refl rfl
set_option maxHeartbeats 1000000 in
theorem LSet_any (B b : Nat) (most : Int) (S : Ar Lk) (i : Int) (v : Lk) (w : World) {G : Option Nat} (h : ArL B w b G most S) (hB : B ≤ w.heap.size) :
    Calls Try.prog 41 #[.pointer (some ⟨b, 0, none⟩), .int .i64 i, aL v] w (ChP 85 87 fL 4 B b G most (setA zL S i v) (.bool (isA zL S.l i)) w) := by
  obtain ⟨v1, v2, v3, v4⟩ := v
  show Calls Try.prog _ #[.pointer (some ⟨b, 0, none⟩), .int .i64 i, .agg #[.int .i64 v1, .int .i64 v2, .int .i64 v3, .int .i64 v4]] w _
  have HI := hid (fun W (hW : Below w.heap.size w W) => LIs_any b most S i W (h.rd.below hW))
  have HH := hid h
  by_cases g1 : isA zL S.l i = true
  · have HG := hid g1
    rw [g1] at HI
    obtain ⟨h1, h2, _⟩ := isA_iff.1 g1
    obtain ⟨k, rfl⟩ := Int.eq_ofNat_of_zero_le h1
    have hkl : k < S.l.length := by omega
    have HE := hid (show setA zL S k (v1, v2, v3, v4) = ⟨S.l.set k ((v1, v2, v3, v4), true, (slotA zL S.l k).2.2), S.free, S.n⟩ from if_pos g1)
    have HON := hid (show (slotA zL S.l k).2.1 = true from (isA_iff.1 g1).2.2)
    clear h h1 h2 g1
    go_enter Try.func41, Try.ntmps41
    go_upto_region 3 with (go_at_call 43; refine (HI.out _ (by (repeat (first | exact Below.refl _ _ | refine RowKit.Below.past ?_ _ | refine RowKit.Below.alloc' ?_ _ | refine RowKit.Below.drew' ?_ | refine RowKit.Below.drewN' ?_ _ | refine RowKit.Below.setCell' ?_ (by simp [go_sem]) _)))).mono ?_; rintro _ _ ⟨rfl, x1, rfl⟩)
    obtain ⟨w1, ew1⟩ : ∃ w1, w1 = (w.alloc (.cells #[.int .i64 v1, .int .i64 v2, .int .i64 v3, .int .i64 v4] 67)).past x1 := ⟨_, rfl⟩
    have hb1 : Below w.heap.size w w1 := by rw [ew1]; exact RowKit.Below.past ((Below.refl _ w).alloc (Nat.le_refl _) _) x1
    have hbox : Rec w1 w.heap.size 67 #[.int .i64 v1, .int .i64 v2, .int .i64 v3, .int .i64 v4] := by rw [ew1]; exact (Rec.new w _ _).past x1
    rw [← ew1]
    clear ew1
    obtain ⟨A, cp, hrec, hown, hGe⟩ := (HH.out.below hb1).ex
    have hbig := HH.out.big
    obtain ⟨g, cap, eA, _⟩ := own_succ hown (by omega)
    cases eA
    obtain rfl : some g = G := hGe
    obtain ⟨bv, ebv⟩ : ∃ bv, w.heap.size = bv := ⟨_, rfl⟩
    rw [ebv] at hbox ⊢
    have p0 := Rec.cell hbox 0
    have p1 := Rec.cell hbox 1
    have p2 := Rec.cell hbox 2
    have p3 := Rec.cell hbox 3
    have q1 := Rec.cell hrec 1
    simp at q1 p0 p1 p2 p3
    have hs := fun j hj => own_there hown (o := k * 6) (m := 6) (by omega) j hj
    obtain ⟨u0, t0⟩ := Option.isSome_iff_exists.1 (hs 0 (by omega)).1
    obtain ⟨u1, t1⟩ := Option.isSome_iff_exists.1 (hs 1 (by omega)).1
    obtain ⟨u2, t2⟩ := Option.isSome_iff_exists.1 (hs 2 (by omega)).1
    obtain ⟨u3, t3⟩ := Option.isSome_iff_exists.1 (hs 3 (by omega)).1
    have f0 := (hs 0 (by omega)).2
    have f1 := (hs 1 (by omega)).2
    have f2 := (hs 2 (by omega)).2
    have f3 := (hs 3 (by omega)).2
    rw [Nat.add_zero] at t0 f0
    have hst := own_setCells [.int .i64 v1, .int .i64 v2, .int .i64 v3, .int .i64 v4] _ (k * 6) w1 hown
    have hst2 : setL (tab (slV fL) S.l) (k * 6) [.int .i64 v1, .int .i64 v2, .int .i64 v3, .int .i64 v4] = tab (slV fL) (S.l.set k ((v1, v2, v3, v4), true, (slotA zL S.l k).2.2)) := by
      refine tab_pre (f := slV fL) (c := 6) (slV_length (c := 4) (fun _ => rfl)) (by omega) S.l k hkl (slotA zL S.l k) _ (fL (slotA zL S.l k).1) _ [.bool true, .int .i64 (slotA zL S.l k).2.2] (slot_at hkl) ?_ rfl rfl
      show fL (slotA zL S.l k).1 ++ [.bool (slotA zL S.l k).2.1, .int .i64 (slotA zL S.l k).2.2] = _
      rw [HON.out]
    rw [hst2] at hst
    have HST := hid hst
    have HR := hid hrec
    have HO := hid hown
    obtain ⟨n, en⟩ : ∃ n, S.l.length = n := ⟨_, rfl⟩
    have EN := hid en
    rw [en] at q1 hkl
    clear hrec hown hst hst2 en hs hbox HON
    go_region
    go_wp2
    go_ret
    obtain ⟨W1, eW1⟩ : ∃ W1, W1 = w1.setCells g (k * 6) [.int .i64 v1, .int .i64 v2, .int .i64 v3, .int .i64 v4] := ⟨_, rfl⟩
    have hst := HST.out
    rw [← eW1] at hst
    have hr1 := Rec.grown HR.out HO.out hst.2 (by decide)
    have hk2 := (keptA_below hb1 b (some g)).trans (keptA_grown (b := b) hst.2)
    have hB1 : Below B w W1 := (hb1.mono hB).grown hst.2 (by have := hb1.size; omega) (fun j hj => (HO.out.lt j hj).1)
    have main : ChP 85 87 fL 4 B b (some g) most (setA zL S k (v1, v2, v3, v4)) (.bool (isA zL S.l k)) w (.returned (.bool true)) W1.drew := by
      refine ⟨by rw [HG.out], ?_, hB1.drew, hk2.trans (keptA_below (Below.refl _ _).drew _ _)⟩
      rw [HE.out]
      refine ⟨hbig, some ⟨g, 0, none⟩, cp, ?_, ?_, rfl⟩
      · simp only [List.length_set]
        exact hr1.drew
      · simp only [List.length_set]
        exact own_below hst.1 (Below.refl _ _).drew (Nat.le_refl _)
    subst eW1
    exact main
  · have HE := hid (show setA zL S i (v1, v2, v3, v4) = S from if_neg g1)
    have HG := hid (Bool.eq_false_iff.2 g1)
    rw [Bool.eq_false_iff.2 g1] at HI
    clear h g1
    go_enter Try.func41, Try.ntmps41
    go_wp2_with (go_at_call 43; refine (HI.out _ (by (repeat (first | exact Below.refl _ _ | refine RowKit.Below.past ?_ _ | refine RowKit.Below.alloc' ?_ _ | refine RowKit.Below.drew' ?_ | refine RowKit.Below.drewN' ?_ _ | refine RowKit.Below.setCell' ?_ (by simp [go_sem]) _)))).mono ?_; rintro _ _ ⟨rfl, x1, rfl⟩)
    go_ret
    have hb1 := RowKit.Below.past ((Below.refl _ w).alloc (Nat.le_refl _) (.cells #[.int .i64 v1, .int .i64 v2, .int .i64 v3, .int .i64 v4] 67)) x1
    exact ⟨by rw [HG.out]; rfl, by rw [HE.out]; exact HH.out.below hb1, hb1.mono hB, keptA_below hb1 _ _⟩
set_option maxHeartbeats 2000000 in
theorem LDrop_any (c B b : Nat) (most : Int) (S : Ar Lk) (i : Int) (w : World) (hS : OkA c S) (hc : c ≤ 100000) {G : Option Nat} (h : ArL B w b G most S) (hB : B ≤ w.heap.size) :
    Calls Try.prog 42 #[.pointer (some ⟨b, 0, none⟩), .int .i64 i] w (ChP 85 87 fL 4 B b G most (dropA zL S i) (.tuple #[aL (getA zL S i).1, .bool (getA zL S i).2]) w) := by
  have HI := hid (fun W (hW : Below w.heap.size w W) => LGet_any b most S i W (h.rd.below hW))
  have HH := hid h
  by_cases g1 : isA zL S.l i = true
  · have HE2 := hid (show getA zL S i = ((slotA zL S.l i.toNat).1, true) from if_pos g1)
    rw [HE2.out] at HI
    obtain ⟨h1, h2, _⟩ := isA_iff.1 g1
    obtain ⟨k, rfl⟩ := Int.eq_ofNat_of_zero_le h1
    rw [Int.toNat_natCast] at HI HE2
    have hkl : k < S.l.length := by omega
    have HE := hid (show dropA zL S k = ⟨S.l.set k (zL, false, S.free), k + 1, S.n - 1⟩ from if_pos g1)
    have n0 := hS.n0
    have n1 := hS.n1
    have hlen := hS.len
    have e1 : IntKind.i64.wrap (S.n - 1) = S.n - 1 := by rw [IntKind.wrap_i64]; omega
    have e2 : IntKind.i64.wrap ((k : Int) + 1) = (k : Int) + 1 := by rw [IntKind.wrap_i64]; omega
    obtain ⟨⟨x1, x2, x3, x4⟩, ex⟩ : ∃ x, (slotA zL S.l k).1 = x := ⟨_, rfl⟩
    rw [ex] at HI HE2
    clear h h1 h2 g1 hS ex n0 n1 hlen
    go_enter Try.func42, Try.ntmps42
    go_upto_region 3 with (go_at_call 33; refine (HI.out _ (by (repeat (first | exact Below.refl _ _ | refine RowKit.Below.past ?_ _ | refine RowKit.Below.alloc' ?_ _ | refine RowKit.Below.drew' ?_ | refine RowKit.Below.drewN' ?_ _ | refine RowKit.Below.setCell' ?_ (by simp [go_sem]) _)))).mono ?_; rintro _ _ ⟨rfl, y1, rfl⟩)
    obtain ⟨rv, erv⟩ : ∃ rv, w.heap.size = rv := ⟨_, rfl⟩
    obtain ⟨bv, ebv⟩ : ∃ bv, rv + 1 + y1.more = bv := ⟨_, rfl⟩
    obtain ⟨w1, ew1⟩ : ∃ w1, w1 = ((w.alloc (.cells #[.int .i64 0, .int .i64 0, .int .i64 0, .int .i64 0] 67)).past y1).alloc (.cells #[.int .i64 x1, .int .i64 x2, .int .i64 x3, .int .i64 x4] 67) := ⟨_, rfl⟩
    have hb1 : Below w.heap.size w w1 := by rw [ew1]; exact (RowKit.Below.past ((Below.refl _ w).alloc (Nat.le_refl _) _) y1).alloc (by simp [World.size_past]; omega) _
    have hrb : Rec w1 rv 67 #[.int .i64 0, .int .i64 0, .int .i64 0, .int .i64 0] := by rw [ew1, ← erv]; exact ((Rec.new w _ _).past y1).alloc _
    have hvb : Rec w1 bv 67 #[.int .i64 x1, .int .i64 x2, .int .i64 x3, .int .i64 x4] := by
      rw [ew1, ← ebv, ← erv]
      have := Rec.new ((w.alloc (.cells #[.int .i64 0, .int .i64 0, .int .i64 0, .int .i64 0] 67)).past y1) 67 #[.int .i64 x1, .int .i64 x2, .int .i64 x3, .int .i64 x4]
      rwa [World.size_past, World.size_alloc] at this
    rw [← ew1, erv, ebv]
    clear ew1
    obtain ⟨A, cp, hrec, hown, hGe⟩ := (HH.out.below hb1).ex
    have hbig := HH.out.big
    obtain ⟨g, cap, eA, _⟩ := own_succ hown (by omega)
    cases eA
    obtain rfl : some g = G := hGe
    have hgb : ¬ g = b := fun e => own_not_rec hown hrec (by decide) (by rw [e]; rfl)
    have hgr : ¬ g = rv := fun e => own_not_rec hown hrb (by decide) (by rw [e]; rfl)
    have hgv : ¬ g = bv := fun e => own_not_rec hown hvb (by decide) (by rw [e]; rfl)
    have hbl := HH.out.lt
    have hbr : ¬ b = rv := by omega
    have hbv : ¬ b = bv := by omega
    have hrv : ¬ rv = bv := by omega
    have q1 := Rec.cell hrec 1
    have q2 := Rec.cell hrec 2
    have q3 := Rec.cell hrec 3
    have f2 := Rec.frozen hrec 2
    have f3 := Rec.frozen hrec 3
    have a0 := Rec.cell hrb 0
    have a1 := Rec.cell hrb 1
    have a2 := Rec.cell hrb 2
    have a3 := Rec.cell hrb 3
    have b0 := Rec.frozen hrb 0
    have b1 := Rec.frozen hrb 1
    have b2 := Rec.frozen hrb 2
    have b3 := Rec.frozen hrb 3
    have c0 := Rec.cell hvb 0
    have c1 := Rec.cell hvb 1
    have c2 := Rec.cell hvb 2
    have c3 := Rec.cell hvb 3
    simp at q1 q2 q3 a0 a1 a2 a3 c0 c1 c2 c3
    have hltb := Rec.lt hrec
    have hltr := Rec.lt hrb
    have hltg : g < w1.heap.size := (hown.lt g rfl).2
    have hs := fun j hj => own_there hown (o := k * 6) (m := 6) (by omega) j hj
    obtain ⟨u0, t0⟩ := Option.isSome_iff_exists.1 (hs 0 (by omega)).1
    obtain ⟨u1, t1⟩ := Option.isSome_iff_exists.1 (hs 1 (by omega)).1
    obtain ⟨u2, t2⟩ := Option.isSome_iff_exists.1 (hs 2 (by omega)).1
    obtain ⟨u3, t3⟩ := Option.isSome_iff_exists.1 (hs 3 (by omega)).1
    obtain ⟨u4, t4⟩ := Option.isSome_iff_exists.1 (hs 4 (by omega)).1
    obtain ⟨u5, t5⟩ := Option.isSome_iff_exists.1 (hs 5 (by omega)).1
    have p0 := (hs 0 (by omega)).2
    have p1 := (hs 1 (by omega)).2
    have p2 := (hs 2 (by omega)).2
    have p3 := (hs 3 (by omega)).2
    have p4 := (hs 4 (by omega)).2
    have p5 := (hs 5 (by omega)).2
    rw [Nat.add_zero] at t0 p0
    have hput := own_put (slV_length (f := fL) (c := 4) (fun _ => rfl)) (by omega) hown hkl (zL, false, S.free)
    have HP := hid hput
    have HR := hid hrec
    have HO := hid hown
    have HRB := hid hrb
    obtain ⟨n, en⟩ : ∃ n, S.l.length = n := ⟨_, rfl⟩
    have EN := hid en
    have HERV := hid erv
    rw [en] at q1 hkl
    clear hrec hown hput hs en hrb hvb HI erv ebv
    go_region
    go_wp2
    refine bodyPost_ret (v := .tuple #[.agg #[.int .i64 x1, .int .i64 x2, .int .i64 x3, .int .i64 x4], .bool true]) ?_ rfl ?_
    · simp [results, Try.results42, go_sem, *]
    obtain ⟨W1, eW1⟩ : ∃ W1, W1 = w1.setCells g (k * (4 + 2)) (slV fL (zL, false, S.free)) := ⟨_, rfl⟩
    have hput := HP.out
    rw [← eW1] at hput
    have hr1 := Rec.grown HR.out HO.out hput.2.1 (by decide)
    have ho1 := hput.1
    have hr2 := Rec.set (Rec.set hr1 2 (.int .i64 ((k : Int) + 1))) 3 (.int .i64 (S.n - 1))
    have ho2 := own_setB (own_setB ho1 hr1 (by decide) 2 (.int .i64 ((k : Int) + 1))) (Rec.set hr1 2 (.int .i64 ((k : Int) + 1))) (by decide) 3 (.int .i64 (S.n - 1))
    have hrr1 := Rec.set_other (Rec.set_other (Rec.grown HRB.out HO.out hput.2.1 (by decide)) (p := ⟨b, 2, none⟩) hbr (.int .i64 ((k : Int) + 1))) (p := ⟨b, 3, none⟩) hbr (.int .i64 (S.n - 1))
    obtain ⟨W2, eW2⟩ : ∃ W2, W2 = (W1.setCell ⟨b, 2, none⟩ (.int .i64 ((k : Int) + 1))).setCell ⟨b, 3, none⟩ (.int .i64 (S.n - 1)) := ⟨_, rfl⟩
    have hk2 : KeptA b (some g) w W2 := by
      rw [eW2]
      exact ((((keptA_below hb1 _ _).trans (keptA_grown (b := b) hput.2.1))).trans (keptA_set W1 b 2 _ _)).trans (keptA_set _ b 3 _ _)
    have hB2 : Below B w W2 := by
      rw [eW2]
      exact ((((hb1.mono hB).grown hput.2.1 (by have := hb1.size; omega) (fun j hj => (HO.out.lt j hj).1)).setCell (p := ⟨b, 2, none⟩) hbig (.int .i64 ((k : Int) + 1))).setCell (p := ⟨b, 3, none⟩) hbig (.int .i64 (S.n - 1)))
    rw [← eW2] at hr2 ho2 hrr1
    have hBr : B ≤ rv := by rw [← HERV.out]; exact hB
    have hwr : w.heap.size ≤ rv := by rw [HERV.out]; exact Nat.le_refl _
    have hrb : rv ≠ b := fun e => hbr e.symm
    have main : ChP 85 87 fL 4 B b (some g) most (dropA zL S k) (.tuple #[aL (getA zL S k).1, .bool (getA zL S k).2]) w (.returned (.tuple #[.agg #[.int .i64 x1, .int .i64 x2, .int .i64 x3, .int .i64 x4], .bool true])) ((((W2.setCell ⟨rv, 0, none⟩ (.int .i64 x1)).setCell ⟨rv, 1, none⟩ (.int .i64 x2)).setCell ⟨rv, 2, none⟩ (.int .i64 x3)).setCell ⟨rv, 3, none⟩ (.int .i64 x4)).drew := by
      refine ⟨by rw [HE2.out], ?_, ((((hB2.setCell (p := ⟨rv, 0, none⟩) hBr _).setCell (p := ⟨rv, 1, none⟩) hBr _).setCell (p := ⟨rv, 2, none⟩) hBr _).setCell (p := ⟨rv, 3, none⟩) hBr _).drew, (keptA_new (keptA_new (keptA_new (keptA_new hk2 (p := ⟨rv, 0, none⟩) hwr _) (p := ⟨rv, 1, none⟩) hwr _) (p := ⟨rv, 2, none⟩) hwr _) (p := ⟨rv, 3, none⟩) hwr _).trans (keptA_below (Below.refl _ _).drew _ _)⟩
      rw [HE.out]
      refine ⟨hbig, some ⟨g, 0, none⟩, cp, ?_, ?_, rfl⟩
      · simp only [List.length_set]
        have := Rec.set_other (Rec.set_other (Rec.set_other (Rec.set_other hr2 (p := ⟨rv, 0, none⟩) hrb (.int .i64 x1)) (p := ⟨rv, 1, none⟩) hrb (.int .i64 x2)) (p := ⟨rv, 2, none⟩) hrb (.int .i64 x3)) (p := ⟨rv, 3, none⟩) hrb (.int .i64 x4)
        simpa using this.drew
      · simp only [List.length_set]
        have := own_setB (own_setB (own_setB (own_setB ho2 hrr1 (by decide) 0 (.int .i64 x1)) (Rec.set hrr1 0 _) (by decide) 1 (.int .i64 x2)) (Rec.set (Rec.set hrr1 0 _) 1 _) (by decide) 2 (.int .i64 x3)) (Rec.set (Rec.set (Rec.set hrr1 0 _) 1 _) 2 _) (by decide) 3 (.int .i64 x4)
        exact own_below this (Below.refl _ _).drew (Nat.le_refl _)
    subst eW2
    subst eW1
    exact main
  · have HE := hid (show dropA zL S i = S from if_neg g1)
    have HG := hid (show getA zL S i = (zL, false) from if_neg g1)
    rw [HG.out] at HI
    clear h g1
    go_enter Try.func42, Try.ntmps42
    go_wp2_with (go_at_call 33; refine (HI.out _ (by (repeat (first | exact Below.refl _ _ | refine RowKit.Below.past ?_ _ | refine RowKit.Below.alloc' ?_ _ | refine RowKit.Below.drew' ?_ | refine RowKit.Below.drewN' ?_ _ | refine RowKit.Below.setCell' ?_ (by simp [go_sem]) _)))).mono ?_; rintro _ _ ⟨rfl, y1, rfl⟩)
    refine bodyPost_ret (v := .tuple #[aL zL, .bool false]) ?_ rfl ?_
    · simp [results, Try.results42, go_sem]
    · have hb1 := ((RowKit.Below.past ((Below.refl _ w).alloc (Nat.le_refl _) (.cells #[.int .i64 zL.1, .int .i64 zL.2.1, .int .i64 zL.2.2.1, .int .i64 zL.2.2.2] 67)) y1).alloc (by simp [World.size_past]; omega) (.cells #[.int .i64 zL.1, .int .i64 zL.2.1, .int .i64 zL.2.2.1, .int .i64 zL.2.2.2] 67))
      exact ⟨by rw [HG.out], by rw [HE.out]; exact HH.out.below hb1, hb1.mono hB, keptA_below hb1 _ _⟩

theorem LMost_any (b : Nat) (most : Int) (S : Ar Lk) (w : World) (h : RdL w b most S) : Calls Try.prog 29 #[.pointer (some ⟨b, 0, none⟩)] w (Gives (.int .i64 most) w) := by
  obtain ⟨A, cp, hrec, hc⟩ := h.ex
  have q3 := Rec.cell hrec 0
  simp at q3
  clear h hrec hc
  go_enter Try.func29, Try.ntmps29
  go_wp2
  go_ret
  exact Gives.refl rfl
end Go.Proofs.Ytifdogmlaengoaa
