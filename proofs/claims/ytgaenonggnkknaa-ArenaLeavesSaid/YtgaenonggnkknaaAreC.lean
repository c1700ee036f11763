/-
  Layer 02: what is dropped of the product's object; a new one; none. No condition.
-/
import Derived.Test.YtgaenonggnkknaaAreB
namespace Go.Proofs.Ytgaenonggnkknaa
open Go.RowKit
set_option maxHeartbeats 1000000 in
theorem Drop_any (B b : Nat) (most : Int) (S : Ar Int) (i : Int) (w : World) (hS : OkA 300 S) (h : ArI B w b most S) (hB : B ≤ w.heap.size) :
    Calls Try.prog 10 #[.pointer (some ⟨b, 0, none⟩), .int .i64 i] w (ChP 63 65 vI 1 B b most (dropA 0 S i) (.tuple #[.int .i64 (getA 0 S i).1, .bool (getA 0 S i).2]) w) := by
  have HI := hid (Get_any b most S i w h.rd)
  have HH := hid h
  by_cases g1 : isA 0 S.l i = true
  · have HE2 := hid (show getA 0 S i = ((slotA 0 S.l i.toNat).1, true) from if_pos g1)
    rw [HE2.out] at HI
    obtain ⟨h1, h2, _⟩ := isA_iff.1 g1
    obtain ⟨k, rfl⟩ := Int.eq_ofNat_of_zero_le h1
    rw [Int.toNat_natCast] at HI HE2
    have hkl : k < S.l.length := by omega
    have HE := hid (show dropA 0 S k = ⟨S.l.set k (0, false, S.free), k + 1, S.n - 1⟩ from if_pos g1)
    have n0 := hS.n0
    have n1 := hS.n1
    have hlen := hS.len
    have e1 : IntKind.i64.wrap (S.n - 1) = S.n - 1 := by rw [IntKind.wrap_i64]; omega
    have e2 : IntKind.i64.wrap ((k : Int) + 1) = (k : Int) + 1 := by rw [IntKind.wrap_i64]; omega
    obtain ⟨x, ex⟩ : ∃ x, (slotA 0 S.l k).1 = x := ⟨_, rfl⟩
    rw [ex] at HI HE2
    clear h h1 h2 g1 hS ex n0 n1 hlen
    go_enter Try.func10, Try.ntmps10
    go_wp2_with fail
    refine HI.out.mono ?_
    rintro _ _ ⟨rfl, x1, rfl⟩
    obtain ⟨w1, ew1⟩ : ∃ w1, w1 = w.past x1 := ⟨_, rfl⟩
    have hb1 : Below w.heap.size w w1 := by rw [ew1]; exact w.below_past x1
    rw [← ew1]
    obtain ⟨A, cp, hrec, hown⟩ := (HH.out.below hb1).ex
    have hbig := HH.out.big
    obtain ⟨g, cap, eA, _⟩ := own_succ hown (by omega)
    cases eA
    have hgb : ¬ g = b := fun e => own_not_rec hown hrec (by decide) (by rw [e]; rfl)
    have q1 := Rec.cell hrec 1
    have q2 := Rec.cell hrec 2
    have q3 := Rec.cell hrec 3
    have f2 := Rec.frozen hrec 2
    have f3 := Rec.frozen hrec 3
    simp at q1 q2 q3
    have hlt := Rec.lt hrec
    have hltg : g < w1.heap.size := (hown.lt g rfl).2
    have hs := fun j hj => own_there hown (o := k * 3) (m := 3) (by omega) j hj
    obtain ⟨u0, t0⟩ := Option.isSome_iff_exists.1 (hs 0 (by omega)).1
    obtain ⟨u1, t1⟩ := Option.isSome_iff_exists.1 (hs 1 (by omega)).1
    obtain ⟨u2, t2⟩ := Option.isSome_iff_exists.1 (hs 2 (by omega)).1
    have p0 := (hs 0 (by omega)).2
    have p1 := (hs 1 (by omega)).2
    have p2 := (hs 2 (by omega)).2
    rw [Nat.add_zero] at t0 p0
    have hput := own_put (slV_length (f := vI) (c := 1) (fun _ => rfl)) (by omega) hown hkl (0, false, S.free)
    have HP := hid hput
    have HR := hid hrec
    have HO := hid hown
    obtain ⟨n, en⟩ : ∃ n, S.l.length = n := ⟨_, rfl⟩
    have EN := hid en
    rw [en] at q1 hkl
    clear ew1 hrec hown hput hs en
    go_wp2_with fail
    go_region
    go_wp2
    go_ret2
    have hr1 := Rec.grown HR.out HO.out HP.out.2.1 (by decide)
    have ho1 := HP.out.1
    obtain ⟨W1, eW1⟩ : ∃ W1, W1 = w1.setCells g (k * (1 + 2)) (slV vI (0, false, S.free)) := ⟨_, rfl⟩
    rw [← eW1] at hr1 ho1
    have hg1 := HP.out.2.1
    rw [← eW1] at hg1
    have hr2 := Rec.set (Rec.set hr1 2 (.int .i64 ((k : Int) + 1))) 3 (.int .i64 (S.n - 1))
    have ho2 := own_setB (own_setB ho1 hr1 (by decide) 2 (.int .i64 ((k : Int) + 1))) (Rec.set hr1 2 (.int .i64 ((k : Int) + 1))) (by decide) 3 (.int .i64 (S.n - 1))
    have hk2 : KeptT b (fun t => t = 65) w1 ((W1.setCell ⟨b, 2, none⟩ (.int .i64 ((k : Int) + 1))).setCell ⟨b, 3, none⟩ (.int .i64 (S.n - 1))) :=
      ((KeptT.grown (ts := fun t => t = 65) HO.out hg1 rfl).trans (KeptT.setB W1 b 2 _ _)).trans (KeptT.setB _ b 3 _ _)
    have hB1 : Below B w W1 := (hb1.mono hB).grown hg1 (by have := hb1.size; omega) (fun j hj => (HO.out.lt j hj).1)
    have hB2 := (hB1.setCell (p := ⟨b, 2, none⟩) hbig (.int .i64 ((k : Int) + 1))).setCell (p := ⟨b, 3, none⟩) hbig (.int .i64 (S.n - 1))
    have main : ChP 63 65 vI 1 B b most (dropA 0 S k) (.tuple #[.int .i64 (getA 0 S k).1, .bool (getA 0 S k).2]) w (.returned (.tuple #[.int .i64 x, .bool true])) ((W1.setCell ⟨b, 2, none⟩ (.int .i64 ((k : Int) + 1))).setCell ⟨b, 3, none⟩ (.int .i64 (S.n - 1))).drew := by
      refine ⟨by rw [HE2.out], ?_, hB2.drew, ((KeptT.of_below hb1 _ _).trans hk2).trans (KeptT.of_below (Below.refl _ _).drew _ _)⟩
      rw [HE.out]
      refine ⟨hbig, some ⟨g, 0, none⟩, cp, ?_, ?_⟩
      · simp only [List.length_set]
        simpa using hr2.drew
      · simp only [List.length_set]
        exact own_below ho2 (Below.refl _ _).drew (Nat.le_refl _)
    subst eW1
    exact main
  · have HE := hid (show dropA 0 S i = S from if_neg g1)
    have HG := hid (show getA 0 S i = (0, false) from if_neg g1)
    rw [HG.out] at HI
    clear h g1
    go_enter Try.func10, Try.ntmps10
    go_wp2_with (go_at_call 14; refine HI.out.mono ?_; rintro _ _ ⟨rfl, x1, rfl⟩)
    go_ret2
    exact ⟨by rw [HG.out]; rfl, by rw [HE.out]; exact HH.out.below (w.below_past _), (w.below_past _).mono hB, KeptT.of_below (w.below_past _) _ _⟩
def mostA (most : Int) : Int := min (max most 0) 4096
theorem New_any (B : Nat) (most : Int) (w : World) (hB : B ≤ w.heap.size) :
    Calls Try.prog 6 #[.int .i64 most] w (fun e w' => ∃ b, e = .returned (.pointer (some ⟨b, 0, none⟩)) ∧ ArI B w' b (mostA most) ⟨[], 0, 0⟩ ∧ Below w.heap.size w w') := by
  obtain ⟨m, hm⟩ : ∃ m, mostA most = m := ⟨_, rfl⟩
  rw [hm]
  have key : ∀ W : World, W = w.alloc (.cells #[.int .i64 m, .slice none 0 0, .int .i64 0, .int .i64 0] 63) → ArI B W w.heap.size m ⟨[], 0, 0⟩ ∧ Below w.heap.size w W := by
    rintro _ rfl
    exact ⟨⟨hB, none, 0, Rec.new w _ _, rfl, .inl ⟨rfl, rfl⟩⟩, (Below.refl _ w).alloc (Nat.le_refl _) _⟩
  have K := hid key
  unfold mostA at hm
  clear key
  by_cases h1 : most < 0
  · obtain rfl : m = 0 := by omega
    clear hm
    go_enter Try.func6, Try.ntmps6
    go_wp2
    go_ret
    exact ⟨_, rfl, K.out _ rfl⟩
  · by_cases h2 : 4096 < most
    · obtain rfl : m = 4096 := by omega
      clear hm
      have h3 : 0 ≤ most := by omega
      go_enter Try.func6, Try.ntmps6
      go_wp2
      go_ret
      exact ⟨_, rfl, K.out _ rfl⟩
    · obtain rfl : m = most := by omega
      clear hm
      have h3 : 0 ≤ m := by omega
      have h4 : m ≤ 4096 := by omega
      go_enter Try.func6, Try.ntmps6
      go_wp2
      go_ret
      exact ⟨_, rfl, K.out _ rfl⟩
end Go.Proofs.Ytgaenonggnkknaa
