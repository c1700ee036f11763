/-
  Layer 35: the law's comparison of what is in the window with a list. No condition.
-/
import Derived.Test.YtplkekmegonenaaWinF
import Derived.Shelf.Abstract
namespace Go.Proofs.Ytplkekmegonenaa
open Go.RowKit Go.Shelf Go.ChangeShapes Go.WideShapes Go.ChangeAt
attribute [local go_sem] Oper.semAt_some
/-- What holds between two rounds. -/
structure RndW (T : Nat → Prop) (w6 : World) (R K : Nat) (pre : List Int) (W : World) : Prop where
  keep : KS T w6 W
  res : Boxed W R 4 (.bool false)
  cnt : Boxed W K 3 (.int .i64 (pre.length : Int))
theorem RndW.far {T : Nat → Prop} {w6 : World} {R K : Nat} {pre : List Int} {A B : World} (h : RndW T w6 R K pre A) (hR : R < w6.heap.size) (hK : K < w6.heap.size) (hb : Below w6.heap.size A B) : RndW T w6 R K pre B :=
  ⟨h.keep.far hb, (hb.block _ hR).trans h.res, (hb.block _ hK).trans h.cnt⟩
/-- A window that holds l, wherever the world below stays. -/
def PtrA (w : World) (p : Option Addr) (l : List Int) : Prop :=
  (p = none ∧ l = []) ∨ ∃ b A c, p = some ⟨b, 0, none⟩ ∧ b < w.heap.size ∧ w.cell? ⟨b, 2, none⟩ = some (.slice A l.length c) ∧ Cells w A (i64s l)
theorem PtrA.to {w w6 : World} {p : Option Addr} {l : List Int} {T : Nat → Prop} (h : PtrA w p l) (hb : Below w.heap.size w w6) (hT : ∀ k, T k → w.heap.size ≤ k) : PtrW T w6 p l := by
  refine ⟨?_⟩
  rcases h with h | ⟨b, A, c, e, hlt, h2, hc⟩
  · exact .inl h
  · exact .inr ⟨b, A, c, e, below_cell hb (Nat.le_refl _) _ _ h2, fun ht => by have := hT b ht; omega, fun W hk => hc.below (hb.trans (hk.under hT hb.size))⟩
set_option maxRecDepth 100000 in
set_option maxHeartbeats 4000000 in
theorem all_any (p : Option Addr) (A : Option Addr) (ca n : Nat) (l : List Int) (en : l.length = n) (h200 : n ≤ 200) (w : World) (hp : PtrA w p l) (hc : Cells w A (i64s l)) :
    Calls Try.prog 13 #[.pointer p, .slice A n ca] w (Gives (.bool true) w) := by
  have EN := hid en
  have HC := hid hc
  have HP := hid hp
  clear en hc hp
  refine (callsIn_wide (n := 5)).1 ?_
  refine callsIn_of_wp_marks Try.func13 rfl trivial ?_ rfl
  refine wpIn_wide.2 ?_
  simp only [Try.ntmps13, List.size_toArray, List.length_cons, List.length_nil, Nat.reduceAdd, Nat.reduceSub, Array.replicate_succ, Array.replicate_zero, List.push_toArray, List.append_toArray, List.nil_append, List.cons_append]
  have bA := Boxed.new w 22 (.slice A n ca)
  have bR := Boxed.new (w.alloc (.cells #[.slice A n ca] 22)) 4 (.bool false)
  have bK := Boxed.new ((w.alloc (.cells #[.slice A n ca] 22)).alloc (.cells #[.bool false] 4)) 3 (.int .i64 0)
  have bA2 := (bA.alloc (.cells #[.bool false] 4)).alloc (.cells #[.int .i64 0] 3)
  have bR2 := bR.alloc (.cells #[.int .i64 0] 3)
  obtain ⟨W3, eW3⟩ : ∃ W3, W3 = ((w.alloc (.cells #[.slice A n ca] 22)).alloc (.cells #[.bool false] 4)).alloc (.cells #[.int .i64 0] 3) := ⟨_, rfl⟩
  simp only [World.size_alloc] at bR2 bK
  have hb3 : Below w.heap.size w W3 := by rw [eW3]; exact (((Below.refl _ w).alloc (Nat.le_refl _) _).alloc (by simp) _).alloc (by simp only [World.size_alloc]; omega) _
  have hs3 : W3.heap.size = w.heap.size + 1 + 1 + 1 := by rw [eW3]; simp
  rw [← eW3] at bA2 bR2 bK
  have EW3 := hid eW3
  clear eW3 bA bR
  go_wp2_with fail
  rw [← EW3.out]
  refine (AllM_any p W3).mono ?_
  rintro _ w6 ⟨rfl, hb6', hs6, hx6⟩
  have hb6 := below_trans' hb3 hb6'
  have bA6 : Boxed w6 w.heap.size 22 (.slice A n ca) := (hb6'.block _ (by omega)).trans bA2
  have bR6 : Boxed w6 (w.heap.size + 1) 4 (.bool false) := (hb6'.block _ (by omega)).trans bR2
  have bK6 : Boxed w6 (w.heap.size + 1 + 1) 3 (.int .i64 0) := (hb6'.block _ (by omega)).trans bK
  rw [hs3] at hx6
  rw [hs3]
  clear bA2 bR2 bK EW3 hb6'
  obtain ⟨T, eT⟩ : ∃ T : Nat → Prop, T = fun k => k = w.heap.size + 1 ∨ k = w.heap.size + 1 + 1 := ⟨_, rfl⟩
  have hR6 : w.heap.size + 1 < w6.heap.size := bR6.lt
  have hK6 : w.heap.size + 1 + 1 < w6.heap.size := bK6.lt
  have hTR : T (w.heap.size + 1) := by rw [eT]; exact .inl rfl
  have hTK : T (w.heap.size + 1 + 1) := by rw [eT]; exact .inr rfl
  have hTw : ∀ k, T k → k < w6.heap.size := by rw [eT]; rintro k (rfl | rfl); exact hR6; exact hK6
  have hTb : ∀ k, T k → w.heap.size ≤ k := by rw [eT]; rintro k (rfl | rfl) <;> omega
  have hTx : ¬ T (w.heap.size + 1 + 1 + 1) := by rw [eT]; rintro (h | h) <;> omega
  have hTA : ¬ T w.heap.size := by rw [eT]; rintro (h | h) <;> omega
  have hRK : w.heap.size + 1 ≠ w.heap.size + 1 + 1 := by omega
  have hseq := all_seq (5 - 1) (by omega) w6 (w.heap.size + 1 + 1 + 1) p l n EN.out h200 T hx6 hTx (HP.out.to hb6 hTb)
  have HSEQ := hid hseq
  have HC6 := hid (fun W (hk : KS T w6 W) => HC.out.below (hb6.trans (hk.under hTb hb6.size)))
  clear hseq eT hx6
  go_wp2_with fail
  refine (wpIn_wide (n := 5)).1 ?_
  apply wpIn_rangeFunc_E rfl (by omega) (gf := 28) (lb := #[.pointer (some ⟨w.heap.size + 1 + 1 + 1, 0, none⟩)]) rfl trivial (enters_of Try.func28 (by kernel_rfl) rfl) HSEQ.out hTw (KS.refl _ _) (fun _ => rfl)
    (fun pre W => RndW T w6 (w.heap.size + 1) (w.heap.size + 1 + 1) pre W)
    (fun _ _ _ => False)
    (fun _ _ _ h hb => h.far hR6 hK6 hb)
    (fun _ _ _ _ h _ => h)
    ⟨KS.refl _ _, bR6, bK6⟩
    _ ?assign ?body ?done ?stop
  case assign =>
    intro lq x W K hK
    simp only [enc1]
    gi_wp2
    exact hK
  case body =>
    rintro lq pre x W hsW hJ hlen hsp
    have ez : atL l pre.length = x := by
      obtain ⟨t, ht⟩ := hsp
      unfold atL
      rw [← ht]; simp
    obtain ⟨bq, oq, eQ, c0⟩ := i64_at (HC6.out W hJ.keep) (k := pre.length) (by rw [EN.out]; exact hlen)
    subst eQ
    rw [ez] at c0
    have bA7 : Boxed W w.heap.size 22 (.slice (some ⟨bq, oq, none⟩) n ca) := hJ.keep.boxed hTA bA6
    have q1 := bA7.cell
    have q4 := hJ.cnt.cell
    have q6 := hJ.cnt.frozen
    obtain ⟨k, ep⟩ : ∃ k, pre.length = k := ⟨_, rfl⟩
    rw [ep] at c0 q4 hlen
    have HJ := hid hJ
    have HEP := hid (show ((pre ++ [x]).length : Int) = (k : Int) + 1 by simp [ep])
    have lt6 := hJ.cnt.lt
    have hadd : IntKind.i64.wrap ((k : Int) + 1) = (k : Int) + 1 := by rw [IntKind.wrap_i64]; omega
    have g1 : decide ((n : Int) ≤ (k : Int)) = false := decide_eq_false (by omega)
    have g2 : decide (n ≤ k) = false := decide_eq_false (by omega)
    clear hJ ez HSEQ hsp ep HP
    gi_wp2
    refine ⟨(KS.refl _ _).setCell hTK 0 _, ⟨HJ.out.keep.setCell hTK 0 _, ((KS.refl (fun q => q = w.heap.size + 1 + 1) _).setCell rfl 0 _).boxed hRK HJ.out.res, ?_⟩⟩
    rw [HEP.out]
    exact HJ.out.cnt.set _
  case stop =>
    rintro D c pre W hD hSp h hK
    exact h.elim
  case done =>
    rintro D pre W hD hS hJ hK
    have bA7 : Boxed W w.heap.size 22 (.slice A n ca) := hJ.keep.boxed hTA bA6
    have q1 := bA7.cell
    have q3 := hJ.res.cell
    have q4 := hJ.cnt.cell
    have q5 := hJ.res.frozen
    rw [hS, EN.out] at q4
    have HJ := hid hJ
    have hRD : w.heap.size + 1 ≠ D := by omega
    have hbx : Boxed ((W.setCell ⟨w.heap.size + 1, 0, none⟩ (.bool true)).putObj D (.deferred none)) (w.heap.size + 1) 4 (.bool true) := (World.putObj_heap_other hRD).trans (HJ.out.res.set _)
    have HCX := hid hbx.cell
    have HBX := hid (below_putObj (RowKit.Below.setCell (p := ⟨w.heap.size + 1, 0, none⟩) (hb6.trans (HJ.out.keep.under hTb hb6.size)) (by simp) (.bool true)) (show w.heap.size ≤ D by omega) (.deferred none))
    have HKD := hid ((Below.heap_setCell W ⟨w.heap.size + 1, 0, none⟩ (.bool true) D (by simp; omega)).trans hK)
    clear hbx hJ HSEQ hK HP hS
    go_wp2_with fail
    have hcx := HCX.out
    refine ⟨by simp, .inl ⟨_, _, rfl, run_takeDeferred HKD.out, ?_⟩⟩
    exact ⟨.bool true, by simp [results, Try.results13, go_sem, hcx], Gives.mk rfl HBX.out⟩
end Go.Proofs.Ytplkekmegonenaa
