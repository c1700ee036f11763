/-
  Layer 05: the arena of links with strings: what is put into it. No condition.
-/
import Derived.Test.YtngokihncjkiaaaDoorPrN
import Derived.Test.YtngokihncjkiaaaDoorAppB
namespace Go.Proofs.YtngokihncjkiaaaDoor
open Go.RowKit
/-! An arena of links: what is read of it. -/
abbrev LkS := ByteArray × Int × Int × Int
abbrev fLS (x : LkS) : List Value := [.string x.1, .int .i64 x.2.1, .int .i64 x.2.2.1, .int .i64 x.2.2.2]
abbrev aLS (x : LkS) : Value := .agg #[.string x.1, .int .i64 x.2.1, .int .i64 x.2.2.1, .int .i64 x.2.2.2]
def zLS : LkS := (⟨#[]⟩, 0, 0, 0)
abbrev ArLS := @ArAt LkS 120 122 fLS 4
abbrev RdLS := @ArRd LkS 120 122 fLS 4
theorem info_slotLS : (Tryd.prog.info? 122).map (fun i => (i.zero, i.size, i.bytes)) = some (some (.agg #[.string ⟨#[]⟩, .int .i64 0, .int .i64 0, .int .i64 0, .bool false, .int .i64 0]), 6, 56) := by kernel_rfl
theorem rdLS_at {w : World} {A : Option Addr} {l : List (Slot LkS)} (h : Cells w A (tab (slV fLS) l)) {k : Nat} (hk : k < l.length) : ∃ g o : Nat, A = some ⟨g, o, none⟩ ∧
    w.cell? ⟨g, o + k * 6, none⟩ = some (.string (slotA zLS l k).1.1) ∧ w.cell? ⟨g, o + k * 6 + 1, none⟩ = some (.int .i64 (slotA zLS l k).1.2.1) ∧ w.cell? ⟨g, o + k * 6 + 2, none⟩ = some (.int .i64 (slotA zLS l k).1.2.2.1) ∧ w.cell? ⟨g, o + k * 6 + 3, none⟩ = some (.int .i64 (slotA zLS l k).1.2.2.2) ∧
    w.cell? ⟨g, o + k * 6 + 4, none⟩ = some (.bool (slotA zLS l k).2.1) ∧ w.cell? ⟨g, o + k * 6 + 5, none⟩ = some (.int .i64 (slotA zLS l k).2.2) := by
  obtain ⟨g, o, e, hc⟩ := h.tab_at (slV_length (c := 4) (fun _ => rfl)) (slot_at (z := zLS) hk) (by omega)
  exact ⟨g, o, e, hc 0 _ rfl, hc 1 _ rfl, hc 2 _ rfl, hc 3 _ rfl, hc 4 _ rfl, hc 5 _ rfl⟩
theorem LIsS_any (b : Nat) (most : Int) (S : Ar LkS) (i : Int) (w : World) (h : RdLS w b most S) :
    Calls Tryd.prog 78 #[.pointer (some ⟨b, 0, none⟩), .int .i64 i] w (Gives (.bool (isA zLS S.l i)) w) := by
  obtain ⟨A, cp, hrec, hc⟩ := h.ex
  have q1 := Rec.cell hrec 1
  simp at q1
  clear h hrec
  by_cases g1 : i < 0
  · have HE := hid (show isA zLS S.l i = false by unfold isA; rw [decide_eq_false (by omega)]; rfl)
    clear hc
    go_enter Tryd.func78, Tryd.ntmps78
    go_wp2
    go_ret
    exact Gives.refl (by rw [HE.out]; rfl)
  · obtain ⟨k, rfl⟩ := Int.eq_ofNat_of_zero_le (show 0 ≤ i by omega)
    by_cases g2 : k < S.l.length
    · obtain ⟨g, o, rfl, c0, c1, c2, c3, c4, c5⟩ := rdLS_at hc g2
      have HE := hid (show isA zLS S.l k = (slotA zLS S.l k).2.1 by unfold isA; rw [decide_eq_true (by omega), decide_eq_true (by omega)]; rfl)
      obtain ⟨n, en⟩ : ∃ n, S.l.length = n := ⟨_, rfl⟩
      obtain ⟨on, eon⟩ : ∃ on, (slotA zLS S.l k).2.1 = on := ⟨_, rfl⟩
      rw [en] at q1 g2
      rw [eon] at c4 HE
      clear hc en eon c0 c1 c2 c3 c5
      go_enter Tryd.func78, Tryd.ntmps78
      go_wp2
      go_ret
      exact Gives.refl (by rw [HE.out]; rfl)
    · have HE := hid (show isA zLS S.l k = false by unfold isA; rw [decide_eq_false (p := (k : Int) < S.l.length) (by omega), Bool.and_false]; rfl)
      obtain ⟨n, en⟩ : ∃ n, S.l.length = n := ⟨_, rfl⟩
      rw [en] at q1 g2
      clear hc en
      go_enter Tryd.func78, Tryd.ntmps78
      go_wp2
      go_ret
      exact Gives.refl (by rw [HE.out]; rfl)
theorem LGetS_any (b : Nat) (most : Int) (S : Ar LkS) (i : Int) (w : World) (h : RdLS w b most S) :
    Calls Tryd.prog 72 #[.pointer (some ⟨b, 0, none⟩), .int .i64 i] w (Gives (.tuple #[aLS (getA zLS S i).1, .bool (getA zLS S i).2]) w) := by
  have HI := hid (fun W (hW : Below w.heap.size w W) => LIsS_any b most S i W (h.below hW))
  by_cases g1 : isA zLS S.l i = true
  · have HE := hid (show getA zLS S i = ((slotA zLS S.l i.toNat).1, true) from if_pos g1)
    rw [g1] at HI
    obtain ⟨h1, h2, _⟩ := isA_iff.1 g1
    obtain ⟨k, rfl⟩ := Int.eq_ofNat_of_zero_le h1
    have hkl : k < S.l.length := by omega
    obtain ⟨A, cp, hrec, hc⟩ := h.ex
    obtain ⟨g, o, rfl, c0, c1, c2, c3, c4, c5⟩ := rdLS_at hc hkl
    have q1 := Rec.cell hrec 1
    simp at q1
    rw [Int.toNat_natCast] at HE
    obtain ⟨n, en⟩ : ∃ n, S.l.length = n := ⟨_, rfl⟩
    obtain ⟨⟨x1, x2, x3, x4⟩, ex⟩ : ∃ x, (slotA zLS S.l k).1 = x := ⟨_, rfl⟩
    rw [en] at q1 hkl
    rw [ex] at c0 c1 c2 c3 HE
    have hb := Rec.lt hrec
    have hg := World.block_lt_of_cell? w _ c0
    simp only at c0 c1 c2 c3 hg
    clear h hc hrec en ex c4 c5 h1 h2 g1
    go_enter Tryd.func72, Tryd.ntmps72
    go_wp2_with (go_at_call 78; refine (HI.out _ (by (repeat (first | exact Below.refl _ _ | refine RowKit.Below.past ?_ _ | refine RowKit.Below.alloc' ?_ _ | refine RowKit.Below.drew' ?_ | refine RowKit.Below.drewN' ?_ _ | refine RowKit.Below.setCell' ?_ (by simp [go_sem]) _)))).mono ?_; rintro _ _ ⟨rfl, y1, rfl⟩)
    refine bodyPost_ret (v := .tuple #[.agg #[.string x1, .int .i64 x2, .int .i64 x3, .int .i64 x4], .bool true]) ?_ rfl ?_
    · simp [results, Tryd.results72, go_sem]
    · refine Gives.mk (by rw [HE.out]) ?_
      (repeat (first | exact Below.refl _ _ | refine RowKit.Below.past ?_ _ | refine RowKit.Below.alloc' ?_ _ | refine RowKit.Below.drew' ?_ | refine RowKit.Below.drewN' ?_ _ | refine RowKit.Below.setCell' ?_ (by simp [go_sem]) _))
  · have HE := hid (show getA zLS S i = (zLS, false) from if_neg g1)
    rw [Bool.eq_false_iff.2 g1] at HI
    clear h g1
    go_enter Tryd.func72, Tryd.ntmps72
    go_wp2_with (go_at_call 78; refine (HI.out _ (by (repeat (first | exact Below.refl _ _ | refine RowKit.Below.past ?_ _ | refine RowKit.Below.alloc' ?_ _ | refine RowKit.Below.drew' ?_ | refine RowKit.Below.drewN' ?_ _ | refine RowKit.Below.setCell' ?_ (by simp [go_sem]) _)))).mono ?_; rintro _ _ ⟨rfl, y1, rfl⟩)
    refine bodyPost_ret (v := .tuple #[.agg #[.string ⟨#[]⟩, .int .i64 0, .int .i64 0, .int .i64 0], .bool false]) ?_ rfl ?_
    · simp [results, Tryd.results72, go_sem]
    · refine Gives.mk (by rw [HE.out]; rfl) ?_
      (repeat (first | exact Below.refl _ _ | refine RowKit.Below.past ?_ _ | refine RowKit.Below.alloc' ?_ _ | refine RowKit.Below.drew' ?_ | refine RowKit.Below.drewN' ?_ _ | refine RowKit.Below.setCell' ?_ (by simp [go_sem]) _))
theorem LLenS_any (b : Nat) (most : Int) (S : Ar LkS) (w : World) (h : RdLS w b most S) : Calls Tryd.prog 74 #[.pointer (some ⟨b, 0, none⟩)] w (Gives (.int .i64 S.n) w) := by
  obtain ⟨A, cp, hrec, hc⟩ := h.ex
  have q3 := Rec.cell hrec 3
  simp at q3
  clear h hrec hc
  go_enter Tryd.func74, Tryd.ntmps74
  go_wp2
  go_ret
  exact Gives.refl rfl
set_option maxHeartbeats 1000000 in
theorem LSetS_any (B b : Nat) (most : Int) (S : Ar LkS) (i : Int) (v : LkS) (w : World) {G : Option Nat} (h : ArLS B w b G most S) (hB : B ≤ w.heap.size) :
    Calls Tryd.prog 73 #[.pointer (some ⟨b, 0, none⟩), .int .i64 i, aLS v] w (ChP 120 122 fLS 4 B b G most (setA zLS S i v) (.bool (isA zLS S.l i)) w) := by
  obtain ⟨v1, v2, v3, v4⟩ := v
  show Calls Tryd.prog _ #[.pointer (some ⟨b, 0, none⟩), .int .i64 i, .agg #[.string v1, .int .i64 v2, .int .i64 v3, .int .i64 v4]] w _
  have HI := hid (fun W (hW : Below w.heap.size w W) => LIsS_any b most S i W (h.rd.below hW))
  have HH := hid h
  by_cases g1 : isA zLS S.l i = true
  · have HG := hid g1
    rw [g1] at HI
    obtain ⟨h1, h2, _⟩ := isA_iff.1 g1
    obtain ⟨k, rfl⟩ := Int.eq_ofNat_of_zero_le h1
    have hkl : k < S.l.length := by omega
    have HE := hid (show setA zLS S k (v1, v2, v3, v4) = ⟨S.l.set k ((v1, v2, v3, v4), true, (slotA zLS S.l k).2.2), S.free, S.n⟩ from if_pos g1)
    have HON := hid (show (slotA zLS S.l k).2.1 = true from (isA_iff.1 g1).2.2)
    clear h h1 h2 g1
    go_enter Tryd.func73, Tryd.ntmps73
    go_upto_region 3 with (go_at_call 78; refine (HI.out _ (by (repeat (first | exact Below.refl _ _ | refine RowKit.Below.past ?_ _ | refine RowKit.Below.alloc' ?_ _ | refine RowKit.Below.drew' ?_ | refine RowKit.Below.drewN' ?_ _ | refine RowKit.Below.setCell' ?_ (by simp [go_sem]) _)))).mono ?_; rintro _ _ ⟨rfl, x1, rfl⟩)
    obtain ⟨w1, ew1⟩ : ∃ w1, w1 = (w.alloc (.cells #[.string v1, .int .i64 v2, .int .i64 v3, .int .i64 v4] 102)).past x1 := ⟨_, rfl⟩
    have hb1 : Below w.heap.size w w1 := by rw [ew1]; exact RowKit.Below.past ((Below.refl _ w).alloc (Nat.le_refl _) _) x1
    have hbox : Rec w1 w.heap.size 102 #[.string v1, .int .i64 v2, .int .i64 v3, .int .i64 v4] := by rw [ew1]; exact (Rec.new w _ _).past x1
    rw [← ew1]
    clear ew1
    obtain ⟨A, cp, hrec, hown, hGe⟩ := (HH.out.below hb1).ex
    have hbig := HH.out.big
    obtain ⟨g, cap, eA, _⟩ := own_succ hown (by omega)
    cases eA
    obtain rfl : some g = G := hGe
    obtain ⟨bv, ebv⟩ : ∃ bv, w.heap.size = bv := ⟨_, rfl⟩
    rw [ebv] at hbox ⊢
    have p0 := Rec.cell hbox 0
    have p1 := Rec.cell hbox 1
    have p2 := Rec.cell hbox 2
    have p3 := Rec.cell hbox 3
    have q1 := Rec.cell hrec 1
    simp at q1 p0 p1 p2 p3
    have hs := fun j hj => own_there hown (o := k * 6) (m := 6) (by omega) j hj
    obtain ⟨u0, t0⟩ := Option.isSome_iff_exists.1 (hs 0 (by omega)).1
    obtain ⟨u1, t1⟩ := Option.isSome_iff_exists.1 (hs 1 (by omega)).1
    obtain ⟨u2, t2⟩ := Option.isSome_iff_exists.1 (hs 2 (by omega)).1
    obtain ⟨u3, t3⟩ := Option.isSome_iff_exists.1 (hs 3 (by omega)).1
    have f0 := (hs 0 (by omega)).2
    have f1 := (hs 1 (by omega)).2
    have f2 := (hs 2 (by omega)).2
    have f3 := (hs 3 (by omega)).2
    rw [Nat.add_zero] at t0 f0
    have hst := own_setCells [.string v1, .int .i64 v2, .int .i64 v3, .int .i64 v4] _ (k * 6) w1 hown
    have hst2 : setL (tab (slV fLS) S.l) (k * 6) [.string v1, .int .i64 v2, .int .i64 v3, .int .i64 v4] = tab (slV fLS) (S.l.set k ((v1, v2, v3, v4), true, (slotA zLS S.l k).2.2)) := by
      refine tab_pre (f := slV fLS) (c := 6) (slV_length (c := 4) (fun _ => rfl)) (by omega) S.l k hkl (slotA zLS S.l k) _ (fLS (slotA zLS S.l k).1) _ [.bool true, .int .i64 (slotA zLS S.l k).2.2] (slot_at hkl) ?_ rfl rfl
      show fLS (slotA zLS S.l k).1 ++ [.bool (slotA zLS S.l k).2.1, .int .i64 (slotA zLS S.l k).2.2] = _
      rw [HON.out]
    rw [hst2] at hst
    have HST := hid hst
    have HR := hid hrec
    have HO := hid hown
    obtain ⟨n, en⟩ : ∃ n, S.l.length = n := ⟨_, rfl⟩
    have EN := hid en
    rw [en] at q1 hkl
    clear hrec hown hst hst2 en hs hbox HON
    go_region
    go_wp2
    go_ret
    obtain ⟨W1, eW1⟩ : ∃ W1, W1 = w1.setCells g (k * 6) [.string v1, .int .i64 v2, .int .i64 v3, .int .i64 v4] := ⟨_, rfl⟩
    have hst := HST.out
    rw [← eW1] at hst
    have hr1 := Rec.grown HR.out HO.out hst.2 (by decide)
    have hk2 := (keptA_below hb1 b (some g)).trans (keptA_grown (b := b) hst.2)
    have hB1 : Below B w W1 := (hb1.mono hB).grown hst.2 (by have := hb1.size; omega) (fun j hj => (HO.out.lt j hj).1)
    have main : ChP 120 122 fLS 4 B b (some g) most (setA zLS S k (v1, v2, v3, v4)) (.bool (isA zLS S.l k)) w (.returned (.bool true)) W1.drew := by
      refine ⟨by rw [HG.out], ?_, hB1.drew, hk2.trans (keptA_below (Below.refl _ _).drew _ _)⟩
      rw [HE.out]
      refine ⟨hbig, some ⟨g, 0, none⟩, cp, ?_, ?_, rfl⟩
      · simp only [List.length_set]
        exact hr1.drew
      · simp only [List.length_set]
        exact own_below hst.1 (Below.refl _ _).drew (Nat.le_refl _)
    subst eW1
    exact main
  · have HE := hid (show setA zLS S i (v1, v2, v3, v4) = S from if_neg g1)
    have HG := hid (Bool.eq_false_iff.2 g1)
    rw [Bool.eq_false_iff.2 g1] at HI
    clear h g1
    go_enter Tryd.func73, Tryd.ntmps73
    go_wp2_with (go_at_call 78; refine (HI.out _ (by (repeat (first | exact Below.refl _ _ | refine RowKit.Below.past ?_ _ | refine RowKit.Below.alloc' ?_ _ | refine RowKit.Below.drew' ?_ | refine RowKit.Below.drewN' ?_ _ | refine RowKit.Below.setCell' ?_ (by simp [go_sem]) _)))).mono ?_; rintro _ _ ⟨rfl, x1, rfl⟩)
    go_ret
    have hb1 := RowKit.Below.past ((Below.refl _ w).alloc (Nat.le_refl _) (.cells #[.string v1, .int .i64 v2, .int .i64 v3, .int .i64 v4] 102)) x1
    exact ⟨by rw [HG.out]; rfl, by rw [HE.out]; exact HH.out.below hb1, hb1.mono hB, keptA_below hb1 _ _⟩
set_option maxHeartbeats 2000000 in
theorem LDropS_any (c B b : Nat) (most : Int) (S : Ar LkS) (i : Int) (w : World) (hS : OkA c S) (hc : c ≤ 100000) {G : Option Nat} (h : ArLS B w b G most S) (hB : B ≤ w.heap.size) :
    Calls Tryd.prog 77 #[.pointer (some ⟨b, 0, none⟩), .int .i64 i] w (ChP 120 122 fLS 4 B b G most (dropA zLS S i) (.tuple #[aLS (getA zLS S i).1, .bool (getA zLS S i).2]) w) := by
  have HI := hid (fun W (hW : Below w.heap.size w W) => LGetS_any b most S i W (h.rd.below hW))
  have HH := hid h
  by_cases g1 : isA zLS S.l i = true
  · have HE2 := hid (show getA zLS S i = ((slotA zLS S.l i.toNat).1, true) from if_pos g1)
    rw [HE2.out] at HI
    obtain ⟨h1, h2, _⟩ := isA_iff.1 g1
    obtain ⟨k, rfl⟩ := Int.eq_ofNat_of_zero_le h1
    rw [Int.toNat_natCast] at HI HE2
    have hkl : k < S.l.length := by omega
    have HE := hid (show dropA zLS S k = ⟨S.l.set k (zLS, false, S.free), k + 1, S.n - 1⟩ from if_pos g1)
    have n0 := hS.n0
    have n1 := hS.n1
    have hlen := hS.len
    have e1 : IntKind.i64.wrap (S.n - 1) = S.n - 1 := by rw [IntKind.wrap_i64]; omega
    have e2 : IntKind.i64.wrap ((k : Int) + 1) = (k : Int) + 1 := by rw [IntKind.wrap_i64]; omega
    obtain ⟨⟨x1, x2, x3, x4⟩, ex⟩ : ∃ x, (slotA zLS S.l k).1 = x := ⟨_, rfl⟩
    rw [ex] at HI HE2
    clear h h1 h2 g1 hS ex n0 n1 hlen
    go_enter Tryd.func77, Tryd.ntmps77
    go_upto_region 3 with (go_at_call 72; refine (HI.out _ (by (repeat (first | exact Below.refl _ _ | refine RowKit.Below.past ?_ _ | refine RowKit.Below.alloc' ?_ _ | refine RowKit.Below.drew' ?_ | refine RowKit.Below.drewN' ?_ _ | refine RowKit.Below.setCell' ?_ (by simp [go_sem]) _)))).mono ?_; rintro _ _ ⟨rfl, y1, rfl⟩)
    obtain ⟨rv, erv⟩ : ∃ rv, w.heap.size = rv := ⟨_, rfl⟩
    obtain ⟨bv, ebv⟩ : ∃ bv, rv + 1 + y1.more = bv := ⟨_, rfl⟩
    obtain ⟨w1, ew1⟩ : ∃ w1, w1 = ((w.alloc (.cells #[.string ⟨#[]⟩, .int .i64 0, .int .i64 0, .int .i64 0] 102)).past y1).alloc (.cells #[.string x1, .int .i64 x2, .int .i64 x3, .int .i64 x4] 102) := ⟨_, rfl⟩
    have hb1 : Below w.heap.size w w1 := by rw [ew1]; exact (RowKit.Below.past ((Below.refl _ w).alloc (Nat.le_refl _) _) y1).alloc (by simp [World.size_past]; omega) _
    have hrb : Rec w1 rv 102 #[.string ⟨#[]⟩, .int .i64 0, .int .i64 0, .int .i64 0] := by rw [ew1, ← erv]; exact ((Rec.new w _ _).past y1).alloc _
    have hvb : Rec w1 bv 102 #[.string x1, .int .i64 x2, .int .i64 x3, .int .i64 x4] := by
      rw [ew1, ← ebv, ← erv]
      have := Rec.new ((w.alloc (.cells #[.string ⟨#[]⟩, .int .i64 0, .int .i64 0, .int .i64 0] 102)).past y1) 102 #[.string x1, .int .i64 x2, .int .i64 x3, .int .i64 x4]
      rwa [World.size_past, World.size_alloc] at this
    rw [← ew1, erv, ebv]
    clear ew1
    obtain ⟨A, cp, hrec, hown, hGe⟩ := (HH.out.below hb1).ex
    have hbig := HH.out.big
    obtain ⟨g, cap, eA, _⟩ := own_succ hown (by omega)
    cases eA
    obtain rfl : some g = G := hGe
    have hgb : ¬ g = b := fun e => own_not_rec hown hrec (by decide) (by rw [e]; rfl)
    have hgr : ¬ g = rv := fun e => own_not_rec hown hrb (by decide) (by rw [e]; rfl)
    have hgv : ¬ g = bv := fun e => own_not_rec hown hvb (by decide) (by rw [e]; rfl)
    have hbl := HH.out.lt
    have hbr : ¬ b = rv := by omega
    have hbv : ¬ b = bv := by omega
    have hrv : ¬ rv = bv := by omega
    have q1 := Rec.cell hrec 1
    have q2 := Rec.cell hrec 2
    have q3 := Rec.cell hrec 3
    have f2 := Rec.frozen hrec 2
    have f3 := Rec.frozen hrec 3
    have a0 := Rec.cell hrb 0
    have a1 := Rec.cell hrb 1
    have a2 := Rec.cell hrb 2
    have a3 := Rec.cell hrb 3
    have b0 := Rec.frozen hrb 0
    have b1 := Rec.frozen hrb 1
    have b2 := Rec.frozen hrb 2
    have b3 := Rec.frozen hrb 3
    have c0 := Rec.cell hvb 0
    have c1 := Rec.cell hvb 1
    have c2 := Rec.cell hvb 2
    have c3 := Rec.cell hvb 3
    simp at q1 q2 q3 a0 a1 a2 a3 c0 c1 c2 c3
    have hltb := Rec.lt hrec
    have hltr := Rec.lt hrb
    have hltg : g < w1.heap.size := (hown.lt g rfl).2
    have hs := fun j hj => own_there hown (o := k * 6) (m := 6) (by omega) j hj
    obtain ⟨u0, t0⟩ := Option.isSome_iff_exists.1 (hs 0 (by omega)).1
    obtain ⟨u1, t1⟩ := Option.isSome_iff_exists.1 (hs 1 (by omega)).1
    obtain ⟨u2, t2⟩ := Option.isSome_iff_exists.1 (hs 2 (by omega)).1
    obtain ⟨u3, t3⟩ := Option.isSome_iff_exists.1 (hs 3 (by omega)).1
    obtain ⟨u4, t4⟩ := Option.isSome_iff_exists.1 (hs 4 (by omega)).1
    obtain ⟨u5, t5⟩ := Option.isSome_iff_exists.1 (hs 5 (by omega)).1
    have p0 := (hs 0 (by omega)).2
    have p1 := (hs 1 (by omega)).2
    have p2 := (hs 2 (by omega)).2
    have p3 := (hs 3 (by omega)).2
    have p4 := (hs 4 (by omega)).2
    have p5 := (hs 5 (by omega)).2
    rw [Nat.add_zero] at t0 p0
    have hput := own_put (slV_length (f := fLS) (c := 4) (fun _ => rfl)) (by omega) hown hkl (zLS, false, S.free)
    have HP := hid hput
    have HR := hid hrec
    have HO := hid hown
    have HRB := hid hrb
    obtain ⟨n, en⟩ : ∃ n, S.l.length = n := ⟨_, rfl⟩
    have EN := hid en
    have HERV := hid erv
    rw [en] at q1 hkl
    clear hrec hown hput hs en hrb hvb HI erv ebv
    go_region
    go_wp2
    refine bodyPost_ret (v := .tuple #[.agg #[.string x1, .int .i64 x2, .int .i64 x3, .int .i64 x4], .bool true]) ?_ rfl ?_
    · simp [results, Tryd.results77, go_sem, *]
    obtain ⟨W1, eW1⟩ : ∃ W1, W1 = w1.setCells g (k * (4 + 2)) (slV fLS (zLS, false, S.free)) := ⟨_, rfl⟩
    have hput := HP.out
    rw [← eW1] at hput
    have hr1 := Rec.grown HR.out HO.out hput.2.1 (by decide)
    have ho1 := hput.1
    have hr2 := Rec.set (Rec.set hr1 2 (.int .i64 ((k : Int) + 1))) 3 (.int .i64 (S.n - 1))
    have ho2 := own_setB (own_setB ho1 hr1 (by decide) 2 (.int .i64 ((k : Int) + 1))) (Rec.set hr1 2 (.int .i64 ((k : Int) + 1))) (by decide) 3 (.int .i64 (S.n - 1))
    have hrr1 := Rec.set_other (Rec.set_other (Rec.grown HRB.out HO.out hput.2.1 (by decide)) (p := ⟨b, 2, none⟩) hbr (.int .i64 ((k : Int) + 1))) (p := ⟨b, 3, none⟩) hbr (.int .i64 (S.n - 1))
    obtain ⟨W2, eW2⟩ : ∃ W2, W2 = (W1.setCell ⟨b, 2, none⟩ (.int .i64 ((k : Int) + 1))).setCell ⟨b, 3, none⟩ (.int .i64 (S.n - 1)) := ⟨_, rfl⟩
    have hk2 : KeptA b (some g) w W2 := by
      rw [eW2]
      exact ((((keptA_below hb1 _ _).trans (keptA_grown (b := b) hput.2.1))).trans (keptA_set W1 b 2 _ _)).trans (keptA_set _ b 3 _ _)
    have hB2 : Below B w W2 := by
      rw [eW2]
      exact ((((hb1.mono hB).grown hput.2.1 (by have := hb1.size; omega) (fun j hj => (HO.out.lt j hj).1)).setCell (p := ⟨b, 2, none⟩) hbig (.int .i64 ((k : Int) + 1))).setCell (p := ⟨b, 3, none⟩) hbig (.int .i64 (S.n - 1)))
    rw [← eW2] at hr2 ho2 hrr1
    have hBr : B ≤ rv := by rw [← HERV.out]; exact hB
    have hwr : w.heap.size ≤ rv := by rw [HERV.out]; exact Nat.le_refl _
    have hrb : rv ≠ b := fun e => hbr e.symm
    have main : ChP 120 122 fLS 4 B b (some g) most (dropA zLS S k) (.tuple #[aLS (getA zLS S k).1, .bool (getA zLS S k).2]) w (.returned (.tuple #[.agg #[.string x1, .int .i64 x2, .int .i64 x3, .int .i64 x4], .bool true])) ((((W2.setCell ⟨rv, 0, none⟩ (.string x1)).setCell ⟨rv, 1, none⟩ (.int .i64 x2)).setCell ⟨rv, 2, none⟩ (.int .i64 x3)).setCell ⟨rv, 3, none⟩ (.int .i64 x4)).drew := by
      refine ⟨by rw [HE2.out], ?_, ((((hB2.setCell (p := ⟨rv, 0, none⟩) hBr _).setCell (p := ⟨rv, 1, none⟩) hBr _).setCell (p := ⟨rv, 2, none⟩) hBr _).setCell (p := ⟨rv, 3, none⟩) hBr _).drew, (keptA_new (keptA_new (keptA_new (keptA_new hk2 (p := ⟨rv, 0, none⟩) hwr _) (p := ⟨rv, 1, none⟩) hwr _) (p := ⟨rv, 2, none⟩) hwr _) (p := ⟨rv, 3, none⟩) hwr _).trans (keptA_below (Below.refl _ _).drew _ _)⟩
      rw [HE.out]
      refine ⟨hbig, some ⟨g, 0, none⟩, cp, ?_, ?_, rfl⟩
      · simp only [List.length_set]
        have := Rec.set_other (Rec.set_other (Rec.set_other (Rec.set_other hr2 (p := ⟨rv, 0, none⟩) hrb (.string x1)) (p := ⟨rv, 1, none⟩) hrb (.int .i64 x2)) (p := ⟨rv, 2, none⟩) hrb (.int .i64 x3)) (p := ⟨rv, 3, none⟩) hrb (.int .i64 x4)
        simpa using this.drew
      · simp only [List.length_set]
        have := own_setB (own_setB (own_setB (own_setB ho2 hrr1 (by decide) 0 (.string x1)) (Rec.set hrr1 0 _) (by decide) 1 (.int .i64 x2)) (Rec.set (Rec.set hrr1 0 _) 1 _) (by decide) 2 (.int .i64 x3)) (Rec.set (Rec.set (Rec.set hrr1 0 _) 1 _) 2 _) (by decide) 3 (.int .i64 x4)
        exact own_below this (Below.refl _ _).drew (Nat.le_refl _)
    subst eW2
    subst eW1
    exact main
  · have HE := hid (show dropA zLS S i = S from if_neg g1)
    have HG := hid (show getA zLS S i = (zLS, false) from if_neg g1)
    rw [HG.out] at HI
    clear h g1
    go_enter Tryd.func77, Tryd.ntmps77
    go_wp2_with (go_at_call 72; refine (HI.out _ (by (repeat (first | exact Below.refl _ _ | refine RowKit.Below.past ?_ _ | refine RowKit.Below.alloc' ?_ _ | refine RowKit.Below.drew' ?_ | refine RowKit.Below.drewN' ?_ _ | refine RowKit.Below.setCell' ?_ (by simp [go_sem]) _)))).mono ?_; rintro _ _ ⟨rfl, y1, rfl⟩)
    refine bodyPost_ret (v := .tuple #[aLS zLS, .bool false]) ?_ rfl ?_
    · simp [results, Tryd.results77, go_sem]
    · have hb1 := ((RowKit.Below.past ((Below.refl _ w).alloc (Nat.le_refl _) (.cells #[.string zLS.1, .int .i64 zLS.2.1, .int .i64 zLS.2.2.1, .int .i64 zLS.2.2.2] 102)) y1).alloc (by simp [World.size_past]; omega) (.cells #[.string zLS.1, .int .i64 zLS.2.1, .int .i64 zLS.2.2.1, .int .i64 zLS.2.2.2] 102))
      exact ⟨by rw [HG.out], by rw [HE.out]; exact HH.out.below hb1, hb1.mono hB, keptA_below hb1 _ _⟩

end Go.Proofs.YtngokihncjkiaaaDoor
namespace Go.Proofs.YtngokihncjkiaaaDoor
open Go.RowKit
set_option maxHeartbeats 4000000 in
theorem LPutS_any (c B b : Nat) (most : Int) (S : Ar LkS) (v : LkS) (w : World) (hS : OkA c S) (hcc : c ≤ 100000) {G : Option Nat} (h : ArLS B w b G most S) (hB : B ≤ w.heap.size) :
    Calls Tryd.prog 59 #[.pointer (some ⟨b, 0, none⟩), aLS v] w (PutP 120 122 fLS zLS 4 B b G most S v w) := by
  obtain ⟨v1, v2, v3, v4⟩ := v
  show Calls Tryd.prog _ #[.pointer (some ⟨b, 0, none⟩), .agg #[.string v1, .int .i64 v2, .int .i64 v3, .int .i64 v4]] w _
  have hbig := h.big
  have hlt0 := h.lt
  have n0 := hS.n0
  have n1 := hS.n1
  have hlen := hS.len
  have hfree := hS.free
  have e1 : IntKind.i64.wrap (S.n + 1) = S.n + 1 := by rw [IntKind.wrap_i64]; omega
  obtain ⟨wv, ewv⟩ : ∃ wv, wv = w.alloc (.cells #[.string v1, .int .i64 v2, .int .i64 v3, .int .i64 v4] 102) := ⟨_, rfl⟩
  have hbv : Below w.heap.size w wv := by rw [ewv]; exact (Below.refl _ w).alloc (Nat.le_refl _) _
  obtain ⟨bv, ebv⟩ : ∃ bv, w.heap.size = bv := ⟨_, rfl⟩
  have hbox : Rec wv bv 102 #[.string v1, .int .i64 v2, .int .i64 v3, .int .i64 v4] := by rw [ewv, ← ebv]; exact Rec.new w _ _
  have HV := hid hbv
  have HX := hid hbox
  have HH := hid h
  have EWV := hid ewv
  have hbb : b ≠ bv := by omega
  have hBv : B ≤ bv := by omega
  have hwbv : w.heap.size ≤ bv := by rw [ebv]; exact Nat.le_refl _
  have EBV := hid ebv
  clear ewv hbv hbox ebv h
  by_cases g1 : most ≤ S.n
  · have HE := hid (show putA zLS most S (v1, v2, v3, v4) = (S, 0, 3) from if_pos g1)
    obtain ⟨A, cp, hrec, hown, hGe⟩ := (HH.out.below HV.out).ex
    have q0 := Rec.cell hrec 0
    have q3 := Rec.cell hrec 3
    simp at q0 q3
    clear hrec hown
    go_enter Tryd.func59, Tryd.ntmps59
    go_upto_region 1 with (fail)
    rw [← EWV.out, EBV.out]
    go_wp2_with fail
    refine wp_region_past (by kernel_rfl) (by kernel_rfl) ?_
    repeat (go_big_quiet_step ((fail)))
    refine wpQuiet_nil ?_
    rintro _ ⟨_, rfl⟩
    go_wp2_with fail
    go_ret2
    have hb1 := HV.out.trans ((wv.below_past ‹Past›).mono HV.out.size)
    exact ⟨by rw [HE.out]; rfl, ⟨_, by rw [HE.out]; exact HH.out.below hb1, .inl rfl⟩, hb1.mono hB, keptA_below hb1 _ _⟩
  · have g1' : (decide (S.n ≥ most)) = false := by simpa using g1
    by_cases g2 : S.free = 0
    · have HE := hid (show putA zLS most S (v1, v2, v3, v4) = (⟨S.l ++ [((v1, v2, v3, v4), true, 0)], 0, S.n + 1⟩, S.l.length, 0) from by unfold putA; rw [if_neg g1, if_pos g2])
      have hz : (S.free : Int) = 0 := by omega
      obtain ⟨j0, ji, jz0, jz1, jz2⟩ := info_parts info_slotLS
      have HJ := hid ji
      obtain ⟨A, cp, hrec, hown, hGe⟩ := HH.out.ex
      rw [hz] at hrec
      obtain ⟨n, en⟩ : ∃ n, S.l.length = n := ⟨_, rfl⟩
      have EN := hid en
      rw [en] at hrec hown hlen hGe
      subst hGe
      have q0 := Rec.cell (hrec.below HV.out (Nat.le_refl _)) 0
      have q3 := Rec.cell (hrec.below HV.out (Nat.le_refl _)) 3
      simp at q0 q3
      have HR := hid hrec
      have HO := hid hown
      clear hrec hown ji g2 hz en hS hfree
      go_enter Tryd.func59, Tryd.ntmps59
      go_upto_region 1 with (fail)
      rw [← EWV.out, EBV.out]
      go_wp2_with fail
      refine wp_region_past (by kernel_rfl) (by kernel_rfl) ?_
      repeat (go_big_quiet_step ((fail)))
      refine wpQuiet_nil ?_
      rintro _ ⟨_, rfl⟩
      rename_i y1
      obtain ⟨w1, ew1⟩ : ∃ w1, w1 = wv.past y1 := ⟨_, rfl⟩
      have hb1 : Below w.heap.size w w1 := by rw [ew1]; exact HV.out.trans ((wv.below_past y1).mono HV.out.size)
      have hbox : Rec w1 bv 102 #[.string v1, .int .i64 v2, .int .i64 v3, .int .i64 v4] := by rw [ew1]; exact HX.out.past y1
      have hrec := HR.out.below hb1 (Nat.le_refl _)
      have hown := own_below HO.out hb1 (Nat.le_refl _)
      rw [← ew1]
      have hrec2 := Rec.set hrec 3 (.int .i64 (S.n + 1))
      have hown2 := own_setB hown hrec (by decide) 3 (.int .i64 (S.n + 1))
      have hbox2 := Rec.set_other hbox (p := ⟨b, 3, none⟩) hbb (.int .i64 (S.n + 1))
      have q3 := Rec.cell hrec 3
      have q2 := Rec.cell hrec 2
      have f3 := Rec.frozen hrec 3
      have hlt1 := Rec.lt hrec
      simp at q2 q3
      obtain ⟨w2, ew2⟩ : ∃ w2, w2 = w1.setCell ⟨b, 3, none⟩ (.int .i64 (S.n + 1)) := ⟨_, rfl⟩
      rw [← ew2] at hrec2 hown2 hbox2
      have hb2 : Below B w w2 := by rw [ew2]; exact (hb1.mono hB).setCell (p := ⟨b, 3, none⟩) hbig _
      have hk2 : KeptA b (Value.slice A n cp).ownBlock w1 w2 := by rw [ew2]; exact keptA_set w1 b 3 _ _
      have HR2 := hid hrec2
      have HO2 := hid hown2
      have HX2 := hid hbox2
      have EW2 := hid ew2
      have HB1 := hid hb1
      have HB2 := hid hb2
      have HK2 := hid hk2
      clear hrec hown hbox hrec2 hown2 hbox2 ew2 ew1 hb2 hk2 hb1 HV HX HR HO q0
      go_wp2_with fail
      rw [← EW2.out]
      have d1 : w2.cell? ⟨b, 1, none⟩ = some (.slice A n cp) := by rw [Rec.cell HR2.out]; simp
      have d2 : w2.cell? ⟨bv, 0, none⟩ = some (.string v1) := by rw [Rec.cell HX2.out]; rfl
      have d3 : w2.cell? ⟨bv, 1, none⟩ = some (.int .i64 v2) := by rw [Rec.cell HX2.out]; rfl
      have d4 : w2.cell? ⟨bv, 2, none⟩ = some (.int .i64 v3) := by rw [Rec.cell HX2.out]; rfl
      have d5 : w2.cell? ⟨bv, 3, none⟩ = some (.int .i64 v4) := by rw [Rec.cell HX2.out]; rfl
      have f1 : w2.frozen? ⟨b, 1, none⟩ = false := Rec.frozen HR2.out 1
      have hlt2 := Rec.lt HR2.out
      have hs2 : B ≤ w2.heap.size := Nat.le_trans hB HB2.out.size
      have hs12 : w1.heap.size ≤ w2.heap.size := HK2.out.size
      clear q2 q3 f3 hlt1
      have hltv := Rec.lt HX2.out
      have hbv1 : ¬ bv = b := fun e => hbb e.symm
      have hbv2 : ¬ b = bv := hbb
      go_region_law ((refine step_pushB rfl (.tmp 36) (.tmp 39) 118 rfl 122 j0 (.agg #[.string ⟨#[]⟩, .int .i64 0, .int .i64 0, .int .i64 0, .bool false, .int .i64 0]) 6 56 Tryd.underlying118 HJ.out jz0 jz1 jz2 rfl (by decide) B ?_ (.slice A n cp) n (tab (slV fLS) S.l) ?_ HO2.out.drew _ #[.string v1, .int .i64 v2, .int .i64 v3, .int .i64 v4, .bool true, .int .i64 0] ?_ rfl rfl ?_ ?_ ?_ ?_; (· exact hs2); (· rfl); (· simp [go_sem]); (· simp [Value.oneCell']); (· omega); (· unfold maxLen; omega); intro w3 g3 c3 ho3 hg3 hor3; have HO3 := hid ho3; have HG3 := hid hg3; have HR3 := hid (Rec.grown (Rec.drew HR2.out) HO2.out.drew hg3 (by decide)); have HX3 := hid (Rec.grown (Rec.drew HX2.out) HO2.out.drew hg3 (by decide)); have f13 : w3.frozen? ⟨b, 1, none⟩ = false := Rec.frozen HR3.out 1; have hlt3 := Rec.lt HR3.out; have d13 : w3.cell? ⟨b, 1, none⟩ = some (.slice A n cp) := (by rw [Rec.cell HR3.out]; simp); have HOR3 := hid (apart_or hor3); clear ho3 hg3 hor3))
      all_goals (
        have e2 : IntKind.i64.wrap ((n : Int) + 1 - 1) = n := by rw [IntKind.wrap_i64]; omega
        go_wp2
        go_ret2
        have hk3 := ((HK2.out.trans (keptA_below (Below.refl _ _).drew _ _)).trans (keptA_grown (b := b) HG3.out)).trans (keptA_set w3 b 1 (.slice (some ⟨g3, 0, none⟩) (n + 1) c3) _)
        refine ⟨by rw [HE.out, EN.out]; rfl, ?_, ?_, (keptA_below HB1.out _ _).trans hk3⟩
        · rw [HE.out]
          have l1 : (S.l ++ [((v1, v2, v3, v4), true, 0)]).length = n + 1 := by rw [List.length_append, EN.out]; rfl
          refine ⟨some g3, ⟨hbig, some ⟨g3, 0, none⟩, c3, ?_, ?_, rfl⟩, ?_⟩
          · have := Rec.set HR3.out 1 (.slice (some ⟨g3, 0, none⟩) (n + 1) c3)
            simp only [l1]
            simpa using this
          · have := own_setB HO3.out HR3.out (by decide) 1 (.slice (some ⟨g3, 0, none⟩) (n + 1) c3)
            simp only [l1]
            rw [← tab_snoc]
            exact this
          · rcases HOR3.out with h | h
            · exact .inl h.symm
            · exact .inr ⟨g3, rfl, Nat.le_trans (Nat.le_trans HB1.out.size hs12) h⟩
        · exact ((HB2.out.drew).grown HG3.out hs2 (fun k hk => (HO2.out.drew.lt k hk).1)).setCell (p := ⟨b, 1, none⟩) hbig _)
    · obtain ⟨k, hk⟩ : ∃ k, S.free = k + 1 := ⟨S.free - 1, by omega⟩
      have hkl : k < S.l.length := by omega
      have HE := hid (show putA zLS most S (v1, v2, v3, v4) = (⟨S.l.set k ((v1, v2, v3, v4), true, 0), (slotA zLS S.l k).2.2, S.n + 1⟩, k, 0) from by unfold putA; rw [if_neg g1, if_neg g2, hk]; rfl)
      obtain ⟨A, cp, hrec, hown, hGe⟩ := (HH.out.below HV.out).ex
      obtain ⟨g, cap, eA, _⟩ := own_succ hown (by omega)
      cases eA
      obtain rfl : some g = G := hGe
      have hgb : ¬ g = b := fun e => own_not_rec hown hrec (by decide) (by rw [e]; rfl)
      have hgv : ¬ g = bv := fun e => own_not_rec hown HX.out (by decide) (by rw [e]; rfl)
      have hat := hown.cellAt (k * 6 + 5) (by omega)
      rw [tab_get (slV_length (c := 4) (fun _ => rfl)) S.l k _ 5 (slot_at (z := zLS) hkl) (by omega)] at hat
      have hat2 : wv.cell? ⟨g, k * 6 + 5, none⟩ = some (.int .i64 (slotA zLS S.l k).2.2) := hat
      generalize hnx : (slotA zLS S.l k).2.2 = nx at HE hat2
      have q0 := Rec.cell hrec 0
      have q3 := Rec.cell hrec 3
      simp at q0 q3
      have HR := hid hrec
      have HO := hid hown
      have e3 : IntKind.i64.wrap ((S.free : Int) - 1) = k := by rw [IntKind.wrap_i64, hk]; omega
      have hz : ¬ (S.free : Int) = 0 := by omega
      obtain ⟨fr, efr⟩ : ∃ fr, S.free = fr := ⟨_, rfl⟩
      obtain ⟨n, en⟩ : ∃ n, S.l.length = n := ⟨_, rfl⟩
      have EN := hid en
      have hb1' := hid hat2
      rw [efr] at HR e3 hz
      rw [en] at HR HO hkl
      clear hrec hown g2 hat hat2 hk hnx efr en hfree hlen hS
      go_enter Tryd.func59, Tryd.ntmps59
      go_upto_region 1 with (fail)
      rw [← EWV.out, EBV.out]
      go_wp2_with fail
      refine wp_region_past (by kernel_rfl) (by kernel_rfl) ?_
      repeat (go_big_quiet_step ((fail)))
      refine wpQuiet_nil ?_
      rintro _ ⟨_, rfl⟩
      rename_i y1
      obtain ⟨w1, ew1⟩ : ∃ w1, w1 = wv.past y1 := ⟨_, rfl⟩
      have hb1v : Below wv.heap.size wv w1 := by rw [ew1]; exact wv.below_past y1
      have hb1 : Below w.heap.size w w1 := HV.out.trans (hb1v.mono HV.out.size)
      have hbox : Rec w1 bv 102 #[.string v1, .int .i64 v2, .int .i64 v3, .int .i64 v4] := by rw [ew1]; exact HX.out.past y1
      have hrec := HR.out.below hb1v (Nat.le_refl _)
      have hown := own_below HO.out hb1v (Nat.le_refl _)
      have q1 := Rec.cell hrec 1
      have q2 := Rec.cell hrec 2
      have q3 := Rec.cell hrec 3
      have f2 := Rec.frozen hrec 2
      have f3 := Rec.frozen hrec 3
      have d0 := Rec.cell hbox 0
      have d1 := Rec.cell hbox 1
      have d2 := Rec.cell hbox 2
      have d3 := Rec.cell hbox 3
      have qn := below_cell hb1v (Nat.le_refl _) _ _ hb1'.out
      have hs := fun j hj => own_there hown (o := k * 6) (m := 6) (by omega) j hj
      obtain ⟨u0, t0⟩ := Option.isSome_iff_exists.1 (hs 0 (by omega)).1
      obtain ⟨u1, t1⟩ := Option.isSome_iff_exists.1 (hs 1 (by omega)).1
      obtain ⟨u2, t2⟩ := Option.isSome_iff_exists.1 (hs 2 (by omega)).1
      obtain ⟨u3, t3⟩ := Option.isSome_iff_exists.1 (hs 3 (by omega)).1
      obtain ⟨u4, t4⟩ := Option.isSome_iff_exists.1 (hs 4 (by omega)).1
      have p0 := (hs 0 (by omega)).2
      have p1 := (hs 1 (by omega)).2
      have p2 := (hs 2 (by omega)).2
      have p3 := (hs 3 (by omega)).2
      have p4 := (hs 4 (by omega)).2
      have p5 := (hs 5 (by omega)).2
      rw [Nat.add_zero] at t0 p0
      simp at q1 q2 q3 d0 d1 d2 d3
      have hlt := Rec.lt hrec
      have hltv := Rec.lt hbox
      have hltg : g < w1.heap.size := (hown.lt g rfl).2
      rw [← ew1]
      have hrec2 := Rec.set (Rec.set hrec 3 (.int .i64 (S.n + 1))) 2 (.int .i64 nx)
      have hown2 := own_setB (own_setB hown hrec (by decide) 3 (.int .i64 (S.n + 1))) (Rec.set hrec 3 (.int .i64 (S.n + 1))) (by decide) 2 (.int .i64 nx)
      have hput := own_put (slV_length (f := fLS) (c := 4) (fun _ => rfl)) (by omega) (l := S.l) (by rw [EN.out]; exact hown2) (k := k) (by rw [EN.out]; exact hkl) ((v1, v2, v3, v4), true, 0)
      have HR2 := hid hrec2
      have HO2 := hid hown2
      have HP := hid hput
      have hbv2 : ¬ b = bv := hbb
      have hbv1 : ¬ bv = b := fun e => hbb e.symm
      have hvg : ¬ bv = g := fun e => hgv e.symm
      clear ew1 hrec hown hrec2 hown2 hput hs hbox hb1'
      go_upto_region 11 with (fail)
      go_region
      go_wp2
      go_ret2
      have hk1 : KeptA b (some g) w1 ((w1.setCell ⟨b, 3, none⟩ (.int .i64 (S.n + 1))).setCell ⟨b, 2, none⟩ (.int .i64 nx)) := (keptA_set w1 b 3 _ _).trans (keptA_set _ b 2 _ _)
      have hk2 := ((keptA_below hb1 b (some g)).trans hk1).trans (keptA_grown (b := b) HP.out.2.1)
      obtain ⟨W1, eW1⟩ : ∃ W1, W1 = ((w1.setCell ⟨b, 3, none⟩ (.int .i64 (S.n + 1))).setCell ⟨b, 2, none⟩ (.int .i64 nx)).setCells g (k * (4 + 2)) (slV fLS ((v1, v2, v3, v4), true, 0)) := ⟨_, rfl⟩
      have hP := HP.out
      rw [← eW1] at hP hk2
      have main : PutP 120 122 fLS zLS 4 B b (some g) most S (v1, v2, v3, v4) w (.returned (.tuple #[.int .i64 (k : Int), .int .i64 0])) W1.drew := by
        refine ⟨by rw [HE.out]; rfl, ?_, ?_, hk2.trans (keptA_below (Below.refl _ _).drew _ _)⟩
        · rw [HE.out]
          refine ⟨some g, ⟨hbig, some ⟨g, 0, none⟩, cp, ?_, ?_, rfl⟩, .inl rfl⟩
          · have := Rec.grown HR2.out HO2.out hP.2.1 (by decide)
            simp only [List.length_set]
            rw [EN.out]
            exact this.drew
          · have := hP.1
            simp only [List.length_set]
            exact own_below this (Below.refl _ _).drew (Nat.le_refl _)
        · exact ((((hb1.mono hB).setCell (p := ⟨b, 3, none⟩) hbig _).setCell (p := ⟨b, 2, none⟩) hbig _).grown hP.2.1 (by have := hb1.size; simp; omega) (fun j hj => (HO2.out.lt j hj).1)).drew
      subst eW1
      exact main

end Go.Proofs.YtngokihncjkiaaaDoor
