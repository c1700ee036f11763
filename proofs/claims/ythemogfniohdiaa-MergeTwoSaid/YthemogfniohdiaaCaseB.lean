/-
  Layer 32: lists brought into one, the first ones of it: case B of how many are asked. No condition.
-/
import Derived.Test.YthemogfniohdiaaAwake
import Derived.Test.YthemogfniohdiaaTk
import Derived.Deep.CutRange
import Derived.Deep.RegionWith
namespace Go.Proofs.Ythemogfniohdiaa
open Go.RowKit Go.ChangeShapes Go.WideShapes Go.ChangeAt
set_option maxHeartbeats 4000000 in
theorem MergeTwo_B (A B : Option Addr) (ca cb na nb : Nat) (a b : List Int) (ea : a.length = na) (eb : b.length = nb) (n : Int) (hna : na ≤ maxLen) (hnb : nb ≤ maxLen) (h1 : na ≤ 60) (h2 : nb ≤ 60) (k1 : 0 ≤ n) (k2 : n ≤ (na : Int) + nb) (w : World) (ha : Cells w A (i64s a)) (hb : Cells w B (i64s b)) :
    Calls Try.prog 3 #[.slice A na ca, .slice B nb cb, .int .i64 n] w (Gives (.bool true) w) := by
  have EA := hid ea
  have EB := hid eb
  have HA := hid ha
  have HB := hid hb
  clear ea eb ha hb
  have HR := hid (fun x => RTwo_any A B ca cb na nb a b EA.out EB.out (by omega) (by omega) (w.past x) (HA.out.past x) (HB.out.past x))
  obtain ⟨m, em⟩ : ∃ m, mergeF ltI a b = m := ⟨_, rfl⟩
  obtain ⟨L, eL⟩ : ∃ L, m.length = L := ⟨_, rfl⟩
  have hLe : L = na + nb := by rw [← eL, ← em, merge_length, EA.out, EB.out]
  have hL : L ≤ 120 := by rw [← eL, ← em, merge_length, EA.out, EB.out]; omega
  rw [em, eL] at HR
  have EM := hid em
  have EL := hid eL
  obtain ⟨K, rfl⟩ := Int.eq_ofNat_of_zero_le k1
  have hKK : ((K : Int) < 0 ∧ K = 0) ∨ (0 ≤ (K : Int) ∧ (K : Int) ≤ (L : Int) ∧ (K : Int) = K) ∨ (0 ≤ (K : Int) ∧ (L : Int) < K ∧ K = L) := .inr (.inl ⟨k1, by omega, rfl⟩)
  have hKL : K ≤ L := by omega
  have hT := take_min m (K : Int) K (by rw [eL]; exact hKK)
  have hA := take_all m (by rw [eL]; omega)
  have HT := hid hT
  have HAll := hid hA
  clear em eL hT hA hKK hLe
  go_enter Try.func3, Try.ntmps3
  go_wp2_with ((go_at_call 7; refine (awake_any _).mono ?_; rintro _ _ ⟨rfl, _, rfl⟩))
  refine (HR.out _).mono ?_
  rintro _ w1 ⟨Q, cq, rfl, hb1, ho1⟩
  have HB1 := hid (show Below w.heap.size w w1 from below_trans' (by (repeat (first | exact Below.refl _ _ | refine RowKit.Below.past ?_ _ | refine RowKit.Below.alloc' ?_ _ | refine RowKit.Below.drew' ?_ | refine RowKit.Below.drewN' ?_ _ | refine RowKit.Below.setCell' ?_ (by simp [go_sem]) _))) hb1)
  have HQ1 := hid (Cells.of_own ho1)
  have hcap : L ≤ cq := own_fits ho1
  clear hb1 ho1 HR
  go_wp2_with fail
  refine (twoI_any A B na ca nb cb w1).mono ?_
  rintro _ w2 ⟨rfl, hb2, c0, c1⟩
  have HB2 := hid (below_trans' HB1.out hb2)
  have HQ2 := hid (HQ1.out.below hb2)
  have hF := fun (w' : World) (hw' : Below w2.heap.size w2 w') (k : Int) => First_two w2 w' w1.heap.size (w1.heap.size + 1) A B ca cb na nb a b EA.out EB.out c0 c1 (HA.out.below HB2.out) (HB.out.below HB2.out) (by omega) (by omega) hw' k
  rw [EM.out] at hF
  have HF := hid hF
  clear hb2 c0 c1 hF HQ1 HB1
  go_upto_region 7 with fail
  have hF2 := fun (w' : World) (hw' : Below w2.heap.size w2 w') => HF.out w' hw' 200
  have hFn := fun (w' : World) (hw' : Below w2.heap.size w2 w') => HF.out w' hw' (K : Int)
  have hlK : (m.take K).length = K := by rw [List.length_take, EL.out]; omega
  rw [HAll.out, EL.out] at hF2
  rw [HT.out, hlK] at hFn
  have HF2 := hid hF2
  have HFN := hid hFn
  clear hF2 hFn hlK HF
  have hI := fun (w' : World) (R : Option Addr) (c : Nat) (hr : Cells w' R (i64s m)) (hq : Cells w' Q (i64s m)) => ints_any R Q c cq L L m m EL.out EL.out (by omega) w' hr hq
  have hIn := fun (w' : World) (R : Option Addr) (c : Nat) (hr : Cells w' R (i64s (m.take K))) (hq : Cells w' Q (i64s (m.take K))) => ints_any R Q c cq K K (m.take K) (m.take K) (by rw [List.length_take, EL.out]; omega) (by rw [List.length_take, EL.out]; omega) (by omega) w' hr hq
  rw [show decide (m = m) = true by simp] at hI
  rw [show decide (m.take K = m.take K) = true by simp] at hIn
  have HI := hid hI
  have HIN := hid hIn
  have htk : i64s (m.take K) = (i64s m).take K := by simp [i64s, List.map_take]
  have HTK := hid htk
  clear hI hIn htk
  go_region_with (first
    | (go_at_call 11; first
        | (with_reducible refine (HF2.out _ ?_).mono ?_
           · first | exact (Below.refl _ _).drew | exact RowKit.Below.past hBw _ | exact hBw
           rintro _ w3 ⟨R3, c3, rfl, hb3, ho3⟩
           have hBw : Below w2.heap.size w2 w3 := by first | exact below_trans' (Below.refl _ _).drew hb3 | exact below_trans' (RowKit.Below.past hBw _) hb3 | exact below_trans' hBw hb3
           have hCR := Cells.of_own ho3)
        | (with_reducible refine (HFN.out _ ?_).mono ?_
           · first | exact (Below.refl _ _).drew | exact RowKit.Below.past hBw _ | exact hBw
           rintro _ w3 ⟨R3, c3, rfl, hb3, ho3⟩
           have hBw : Below w2.heap.size w2 w3 := by first | exact below_trans' (Below.refl _ _).drew hb3 | exact below_trans' (RowKit.Below.past hBw _) hb3 | exact below_trans' hBw hb3
           have hCR := Cells.of_own ho3))
    | (go_at_call 10; first
        | (with_reducible refine (HI.out _ _ _ ?_ ?_).mono ?_
           · exact hCR
           · exact HQ2.out.below hBw
           rintro _ _ ⟨rfl, x4, rfl⟩)
        | (with_reducible refine (HIN.out _ _ _ ?_ ?_).mono ?_
           · exact hCR
           · rw [HTK.out]; exact (HQ2.out.below hBw).take _
           rintro _ _ ⟨rfl, x4, rfl⟩)))
  all_goals
    go_wp2
    go_ret
    exact Gives.mk rfl (below_trans' HB2.out (RowKit.Below.past hBw _))
end Go.Proofs.Ythemogfniohdiaa
