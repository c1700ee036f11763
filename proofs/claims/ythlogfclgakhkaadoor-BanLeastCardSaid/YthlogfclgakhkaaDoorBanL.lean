/-
  Layer 21: who has the least V isn't banned; the law's first lines. No condition (the table of the library's that is read is a fact that is asked for).
-/
import Derived.Test.YthlogfclgakhkaaDoorBanK
import Derived.Laws.BitsAllLaws
namespace Go.Proofs.YthlogfclgakhkaaDoor
open Go.RowKit Go.Shelf
attribute [local go_sem] Oper.semAt_some
theorem ban_least {S : Bn} {p : Nat} (h : OkS S) (hp : leastV S.v S.wt = some p) : ∃ o : Nat, banF S = (o : Int) ∧ o < 18446744073709551616 ∧ o.testBit p = false := by
  have key : ∀ (l : List Nat) (a : Int), (∀ x ∈ l, x < 64) → (∃ o : Nat, a = (o : Int) ∧ o < 18446744073709551616 ∧ o.testBit p = false) → ∃ o : Nat, l.foldl (banStep S p) a = (o : Int) ∧ o < 18446744073709551616 ∧ o.testBit p = false := by
    intro l
    induction l with
    | nil => exact fun a _ h => h
    | cons x l ih =>
      intro a hx ha
      refine ih _ (fun y hy => hx y (by simp [hy])) ?_
      unfold banStep
      split
      · rename_i hc
        obtain ⟨o, rfl, ho, hb⟩ := ha
        simp only [Bool.and_eq_true, decide_eq_true_eq] at hc
        have hxp : x ≠ p := fun e => by rw [e] at hc; have := hc.1; omega
        have hx64 := hx x (by simp)
        have h2 : 2 ^ x < 18446744073709551616 := Nat.lt_of_lt_of_le (Nat.pow_lt_pow_right (by omega) hx64) (by decide)
        have e : bitF (x : Int) = ((2 ^ x : Nat) : Int) := by unfold bitF; rw [if_neg (by omega), if_neg (by omega)]; simp
        refine ⟨o ||| 2 ^ x, ?_, Nat.or_lt_two_pow (n := 64) ho h2, ?_⟩
        · unfold withF; rw [e, u64_or_nat _ _ ho h2]
        · rw [Nat.testBit_or, hb, Nat.testBit_two_pow]; simp [hxp]
      · exact ha
  unfold banF
  rw [hp]
  exact key _ 0 (fun x hx => (mem_bits.1 hx).1) ⟨0, rfl, by omega, by simp⟩
def awS : Bn := ofS 3 (-1) 0 1 [0, 1441440] [1, 1]
theorem awS_ok : OkS awS := by
  refine ⟨by decide, by decide, by decide, by decide, ⟨by decide, by decide⟩, fun k hk => ?_⟩
  have : k = 0 ∨ k = 1 := by have : awS.v.length = 2 := rfl; omega
  rcases this with rfl | rfl
  · exact ⟨by decide, by decide⟩
  · exact ⟨by decide, by decide⟩
theorem awS_ord : ordK 4 awS = [0, 0, 0, 1] := by kernel_rfl
theorem awS_t1 : ticksF 1000 awS 1 0 = 3 := by kernel_rfl
theorem awS_t0 : ticksF 1000 awS 0 0 = 0 := by kernel_rfl
theorem awS_ban : banF awS = 2 := by kernel_rfl
set_option maxRecDepth 100000 in
set_option maxHeartbeats 4000000 in
theorem awake_any (w : World) (hZ : Tz w) : Calls Tryd.prog 4 #[] w (Gives (.bool true) w) := by
  obtain ⟨K, eK⟩ : ∃ K, w.heap.size = K := ⟨_, rfl⟩
  obtain ⟨cs, ecs⟩ : ∃ cs, cs = ban6 3 (-1) 0 1 (.slice (some ⟨K, 0, none⟩) 2 2) (.slice (some ⟨K + 1, 0, none⟩) 2 2) := ⟨_, rfl⟩
  obtain ⟨w1, ew1⟩ : ∃ w1, w1 = ((w.alloc (.cells #[.int .u64 0, .int .u64 1441440] 22)).alloc (.cells #[.int .i64 1, .int .i64 1] 3)).alloc (.cells #[.int .u64 3, .int .i64 (-1), .int .i64 0, .int .i64 1, .slice (some ⟨K, 0, none⟩) 2 2, .slice (some ⟨K + 1, 0, none⟩) 2 2] 28) := ⟨_, rfl⟩
  have hb1 : Below w.heap.size w w1 := by rw [ew1]; exact (((Below.refl _ w).alloc (Nat.le_refl _) _).alloc (by simp) _).alloc (by simp; omega) _
  have hV : Cells w1 (some ⟨K, 0, none⟩) (u64s [0, 1441440]) := by
    rw [ew1, ← eK]
    exact cells_two (by simp [go_sem]) (by simp [go_sem])
  have hG : Cells w1 (some ⟨K + 1, 0, none⟩) (i64s [1, 1]) := by
    rw [ew1, ← eK]
    exact cells_two (by simp [go_sem]) (by simp [go_sem])
  have hr : Rec w1 (K + 1 + 1) 28 #[.int .u64 3, .int .i64 (-1), .int .i64 0, .int .i64 1, .slice (some ⟨K, 0, none⟩) 2 2, .slice (some ⟨K + 1, 0, none⟩) 2 2] := by
    rw [ew1]
    have := Rec.new ((w.alloc (.cells #[.int .u64 0, .int .u64 1441440] 22)).alloc (.cells #[.int .i64 1, .int .i64 1] 3)) 28 #[.int .u64 3, .int .i64 (-1), .int .i64 0, .int .i64 1, .slice (some ⟨K, 0, none⟩) 2 2, .slice (some ⟨K + 1, 0, none⟩) 2 2]
    rwa [World.size_alloc, World.size_alloc, eK] at this
  have hin : BIn w1 3 (-1) 0 1 [0, 1441440] [1, 1] cs := ⟨by omega, K, 0, 2, some ⟨K + 1, 0, none⟩, 2, ecs, by simp, by simp, by simp, by simp, hV, hG⟩
  have hZ1 := hZ.below hb1
  have HO := hid (show Calls Tryd.prog 8 #[.agg cs, .int .i64 4] w1 (GivesOwn 3 1 4 (i64s [0, 0, 0, 1]) w1) from awS_ord ▸ order_some hin awS_ok hZ1 4 (by omega))
  have HT1 := hid (fun W (hW : Below w1.heap.size w1 W) => (show Calls Tryd.prog 9 #[.agg cs, .int .i64 1] W (Gives (.int .i64 3) W) from awS_t1 ▸ ticks_any (hin.below hW) awS_ok (hZ1.below hW) 1 (by decide)))
  have HT0 := hid (fun W (hW : Below w1.heap.size w1 W) => (show Calls Tryd.prog 9 #[.agg cs, .int .i64 0] W (Gives (.int .i64 0) W) from awS_t0 ▸ ticks_any (hin.below hW) awS_ok (hZ1.below hW) 0 (by decide)))
  have HBN := hid (fun W (hW : Below w1.heap.size w1 W) => (show Calls Tryd.prog 7 #[.agg cs] W (Gives (.int .u64 2) W) from awS_ban ▸ banned_any (hin.below hW) awS_ok.l8 awS_ok.wt (hZ1.below hW)))
  rw [ecs] at HO HT1 HT0 HBN
  unfold ban6 at HO HT1 HT0 HBN
  have HR := hid hr
  have HB1 := hid hb1
  have EW1 := hid ew1
  have EK := hid eK
  clear ew1 hb1 hV hG hr hin hZ1 eK ecs
  go_enter Tryd.func4, Tryd.ntmps4
  go_upto_region 2 with (fail)
  rw [EK.out, ← EW1.out]
  have q0 := Rec.cell HR.out 0
  have q1 := Rec.cell HR.out 1
  have q2 := Rec.cell HR.out 2
  have q3 := Rec.cell HR.out 3
  have q4 := Rec.cell HR.out 4
  have q5 := Rec.cell HR.out 5
  simp at q0 q1 q2 q3 q4 q5
  go_upto_region 3 with (go_at_call 8; refine HO.out.mono ?_; rintro _ w2 ⟨A, c, rfl, hb2, ho2⟩)
  obtain ⟨g, cap, e1, _⟩ := own_succ ho2 (by omega)
  injection e1 with e1 _ e2
  subst e1; subst e2
  have r0 := (Cells.of_own ho2) (by simp [i64s])
  obtain ⟨b', o', e, hc⟩ := r0
  cases e
  have y0 := hc 0 _ rfl
  have y2 := hc 2 _ rfl
  have y3 := hc 3 _ rfl
  simp only [Nat.zero_add] at y0 y2 y3
  have hR2 := HR.out.below hb2 (Nat.le_refl _)
  have HB2 := hid hb2
  have HBW := hid (below_trans' HB1.out hb2)
  clear q0 q1 q2 q3 q4 q5 ho2 hc hb2
  have q0 := Rec.cell hR2 0
  have q1 := Rec.cell hR2 1
  have q2 := Rec.cell hR2 2
  have q3 := Rec.cell hR2 3
  have q4 := Rec.cell hR2 4
  have q5 := Rec.cell hR2 5
  simp at q0 q1 q2 q3 q4 q5
  clear hR2
  go_wp2_with fail
  refine (HT1.out _ (below_trans' HB2.out (by (repeat (first | exact Below.refl _ _ | refine RowKit.Below.past ?_ _ | refine RowKit.Below.alloc' ?_ _ | refine RowKit.Below.drew' ?_ | refine RowKit.Below.drewN' ?_ _ | refine RowKit.Below.setCell' ?_ (by simp [go_sem]) _))))).mono ?_
  rintro _ _ ⟨rfl, x1, rfl⟩
  go_wp2_with fail
  refine (HT0.out _ (below_trans' HB2.out (by (repeat (first | exact Below.refl _ _ | refine RowKit.Below.past ?_ _ | refine RowKit.Below.alloc' ?_ _ | refine RowKit.Below.drew' ?_ | refine RowKit.Below.drewN' ?_ _ | refine RowKit.Below.setCell' ?_ (by simp [go_sem]) _))))).mono ?_
  rintro _ _ ⟨rfl, x2, rfl⟩
  go_wp2_with fail
  refine (HBN.out _ (below_trans' HB2.out (by (repeat (first | exact Below.refl _ _ | refine RowKit.Below.past ?_ _ | refine RowKit.Below.alloc' ?_ _ | refine RowKit.Below.drew' ?_ | refine RowKit.Below.drewN' ?_ _ | refine RowKit.Below.setCell' ?_ (by simp [go_sem]) _))))).mono ?_
  rintro _ _ ⟨rfl, x3, rfl⟩
  go_wp2_with fail
  go_ret
  exact Gives.mk rfl (below_trans' HBW.out (by (repeat (first | exact Below.refl _ _ | refine RowKit.Below.past ?_ _ | refine RowKit.Below.alloc' ?_ _ | refine RowKit.Below.drew' ?_ | refine RowKit.Below.drewN' ?_ _ | refine RowKit.Below.setCell' ?_ (by simp [go_sem]) _))))
end Go.Proofs.YthlogfclgakhkaaDoor
