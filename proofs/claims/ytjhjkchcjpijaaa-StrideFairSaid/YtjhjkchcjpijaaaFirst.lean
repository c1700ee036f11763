/-
  Layer 37: the first turns. No condition.
-/
import Derived.Test.YtjhjkchcjpijaaaOrder
import Derived.Test.YtjhjkchcjpijaaaPushIn
import Derived.Shelf.Abstract
import Derived.Deep.CutRange
namespace Go.Proofs.Ytjhjkchcjpijaaa
open Go Go.RowKit Go.Shelf HpI
attribute [local go_sem] Oper.semAt_some
theorem order_seq (m : Nat) (hm : 1 ≤ m) (w0 : World) (Bx : Nat) (A : Option Addr) (n ca : Nat) (l : List Int) (en : l.length = n) (hca : n ≤ ca) (hmx : n ≤ maxLen) (T : Nat → Prop) (hBx : w0.cell? ⟨Bx, 0, none⟩ = some (.slice A n ca)) (hBT : ¬ T Bx)
    (hTw : ∀ k, T k → k < w0.heap.size) (hC : ∀ W, KS T w0 W → Cells W A (i64s l)) (N : Nat) :
    SeqJ Fence.wide m Try.prog 18 #[.pointer (some ⟨Bx, 0, none⟩)] encT T (fun xs => l ≠ [] ∧ xs = turnsF (bringW l) xs.length) (fun xs => xs = [] ∧ l = []) (fun pre => l ≠ [] ∧ pre = turnsF (bringW l) pre.length) N w0 :=
  fun lp J Jx W hW hJ _ hN hY h0 => order1_in m hm lp w0 Bx A n ca l en hca hmx T hBx hBT hTw hC N J Jx W hW hJ hN (fun M pre x W1 h1 h2 h3 h4 => hY M pre x W1 h1 h2 h3 (show l ≠ [] ∧ pre ++ [x] = turnsF (bringW l) (pre ++ [x]).length by rw [List.length_append]; exact h4)) h0
theorem Order_any (A : Option Addr) (n ca : Nat) (w : World) :
    Calls Try.prog 8 #[.slice A n ca] w (fun e w' => e = .returned (.func (.func 18) #[] #[.pointer (some ⟨w.heap.size, 0, none⟩)]) ∧
      Below w.heap.size w w' ∧ w'.heap.size = w.heap.size + 1 ∧ w'.cell? ⟨w.heap.size, 0, none⟩ = some (.slice A n ca)) := by
  go_enter Try.func8, Try.ntmps8
  go_wp2
  go_ret
  exact ⟨rfl, (Below.refl _ w).alloc (Nat.le_refl _) _, by simp, by simp [go_sem]⟩
/-- What First gives. -/
def clampN (n : Int) : Nat := (min (max n 0) 4096).toNat
def firstF (l : List Int) (n : Int) : List Int := if l = [] then [] else turnsF (bringW l) (clampN n)
/-- Between two rounds. -/
structure FiI (w : World) (K : Nat) (D : Nat) (cn : Nat) (M : Nat → Prop) (out : List Int) (U : World) : Prop where
  mr : ∀ k, M k → D + 2 ≤ k
  bel : Below w.heap.size w U
  bn : Boxed U K 3 (.int .i64 cn)
  row : ∃ v, Boxed U (K + 1) 22 v ∧ U.ownsRow (D + 2) 3 1 v out.length (i64s out) ∧ ∀ g, v.ownBlock = some g → ¬ M g
theorem FiI.far {w : World} {K D cn : Nat} {M M' X : Nat → Prop} {out : List Int} {A U : World} (h : FiI w K D cn M out A) (hk : KS X A U) (hX : ∀ k, X k → w.heap.size ≤ k ∧ k ≠ K ∧ k ≠ K + 1 ∧ (M k ∨ k < D + 2)) (hM : ∀ k, M' k → M k ∨ A.heap.size ≤ k) (hr : ∀ k, M' k → D + 2 ≤ k) : FiI w K D cn M' out U := by
  obtain ⟨v, h1, h2, h3⟩ := h.row
  refine ⟨hr, h.bel.trans (hk.under (fun k hx => (hX k hx).1) h.bel.size), hk.boxed (fun hx => (hX _ hx).2.1 rfl) h.bn, v, hk.boxed (fun hx => (hX _ hx).2.2.1 rfl) h1, own_kept (X := X) h2 hk.block (fun g hg hx => ?_), fun g hg hm => ?_⟩
  · rcases (hX g hx).2.2.2 with h4 | h4
    · exact h3 g hg h4
    · have := (h2.lt g hg).1; omega
  · rcases hM g hm with h4 | h4
    · exact h3 g hg h4
    · have := (h2.lt g hg).2; omega
set_option maxRecDepth 100000 in
set_option maxHeartbeats 4000000 in
theorem First_any (A : Option Addr) (n ca : Nat) (l : List Int) (en : l.length = n) (hca : n ≤ ca) (hmx : n ≤ maxLen) (w : World) (hc : Cells w A (i64s l)) (t : Int) :
    Calls Try.prog 9 #[.slice A n ca, .int .i64 t] w (GivesOwn 3 1 (firstF l t).length (i64s (firstF l t)) w) := by
  obtain ⟨i0, hi, hz0, hz1, hz2⟩ := info_parts info_i64
  obtain ⟨cn, ecn⟩ : ∃ cn, clampN t = cn := ⟨_, rfl⟩
  have hcase : (t < 0 ∧ (0 : Int) = cn) ∨ (0 ≤ t ∧ 4096 < t ∧ (4096 : Int) = cn) ∨ (0 ≤ t ∧ t ≤ 4096 ∧ t = cn) := by unfold clampN at ecn; omega
  have hcn : cn ≤ 4096 := by omega
  have HF := hid (show firstF l t = if l = [] then [] else turnsF (bringW l) cn by unfold firstF; rw [ecn])
  obtain ⟨K, eK⟩ : ∃ K, w.heap.size = K := ⟨_, rfl⟩
  obtain ⟨w2, ew2⟩ : ∃ w2, w2 = (w.alloc (.cells #[.int .i64 cn] 3)).alloc (.cells #[.slice none 0 0] 22) := ⟨_, rfl⟩
  have hb2 : Below w.heap.size w w2 := by rw [ew2]; exact ((Below.refl _ w).alloc (Nat.le_refl _) _).alloc (by simp) _
  have hs2 : w2.heap.size = K + 2 := by rw [ew2]; simp [eK]
  have bN : Boxed w2 K 3 (.int .i64 cn) := by rw [ew2, ← eK]; exact (Boxed.new w _ _).alloc _
  have bO : Boxed w2 (K + 1) 22 (.slice none 0 0) := by
    rw [ew2, ← eK]
    have := Boxed.new (w.alloc (.cells #[.int .i64 cn] 3)) 22 (.slice none 0 0)
    rwa [World.size_alloc] at this
  have EW2 := hid (show ∀ z : Int, z = cn → (w.alloc (.cells #[.int .i64 z] 3)).alloc (.cells #[.slice none 0 0] 22) = w2 from fun z hz => by rw [hz]; exact ew2.symm)
  have HIN := hid (And.intro en (And.intro hca hmx))
  have HC := hid hc
  have HI := hid hi
  clear ew2 en hca hmx hc ecn hi
  refine (callsIn_wide (n := 5)).1 ?_
  refine callsIn_of_wp_marks Try.func9 rfl trivial ?_ rfl
  refine wpIn_wide.2 ?_
  simp only [Try.ntmps9, List.size_toArray, List.length_cons, List.length_nil, Nat.reduceAdd, Nat.reduceSub, Array.replicate_succ, Array.replicate_zero, List.push_toArray, List.append_toArray, List.nil_append, List.cons_append]
  go_upto_region 1 with (fail)
  go_cut [9] from 7 to 9 (fun _ wx => wx = w.alloc (.cells #[.int .i64 cn] 3))
  case first =>
    rcases hcase with ⟨c1, hz⟩ | ⟨c1, c2, hz⟩ | ⟨c1, c2, hz⟩
    all_goals (
      have HZ := hid hz
      clear hz
      go_wp2_with fail
      go_meet
      case rel => rw [HZ.out])
  case rest =>
    obtain rfl := hcut
    go_wp2_with fail
    rw [EW2.out _ rfl]
    refine (Order_any A n ca w2).mono ?_
    rintro _ w3 ⟨rfl, hb3, hs3, hx3⟩
    rw [hs2] at hs3 hx3 ⊢
    have hb23 := hb2.trans (hb3.mono hb2.size)
    have cN := (hb3.block K (by omega)).trans bN
    have cO := (hb3.block (K + 1) (by omega)).trans bO
    obtain ⟨T, eT⟩ : ∃ T : Nat → Prop, T = fun q => q = K + 1 := ⟨_, rfl⟩
    have hTw : ∀ q, T q → q < w3.heap.size := by rw [eT]; rintro q rfl; omega
    have hTx : ¬ T (K + 2) := by rw [eT]; intro h; omega
    have hTb : ∀ q, T q → w.heap.size ≤ q := by rw [eT]; rintro q rfl; omega
    have hTO : T (K + 1) := by rw [eT]
    have HT := hid eT
    have hseq := order_seq (5 - 1) (by omega) w3 (K + 2) A n ca l HIN.out.1 HIN.out.2.1 HIN.out.2.2 T hx3 hTx hTw (fun W hk => HC.out.below (hb23.trans (hk.under hTb hb23.size))) (cn + 1)
    have HSEQ := hid hseq
    have HI0 : Hid (FiI w K w3.heap.size cn (fun _ => False) [] w3) := hid (⟨fun _ h => h.elim, hb23, cN, _, cO, World.ownsRow_nil _ _ _ _, fun g hg => by simp [Value.ownBlock] at hg⟩)
    clear hseq eT hb2 hb3 hb23 cN cO hx3 bN bO hs2
    have hX7 : ∀ {M : Nat → Prop}, (∀ k, M k → w3.heap.size + 2 ≤ k) → ∀ q, (M q ∨ q = w3.heap.size ∨ q = w3.heap.size + 1) → w.heap.size ≤ q ∧ q ≠ K ∧ q ≠ K + 1 ∧ (M q ∨ q < w3.heap.size + 2) := fun hm q hq => by
      rcases hq with hq | hq | hq
      · have := hm q hq; exact ⟨by omega, by omega, by omega, .inl hq⟩
      · exact ⟨by omega, by omega, by omega, .inr (by omega)⟩
      · exact ⟨by omega, by omega, by omega, .inr (by omega)⟩
    have hK3 : K + 3 ≤ w3.heap.size := by omega
    have HS3 := hid hs3
    clear hs3
    go_wp2_with fail
    refine (wpIn_wide (n := 5)).1 ?_
    apply wpIn_rangeFunc_J rfl (by omega) (gf := 18) (lb := #[.pointer (some ⟨K + 2, 0, none⟩)]) rfl trivial (enters_of Try.func18 (by kernel_rfl) rfl) HSEQ.out hTw (KS.refl _ _) (fun _ => rfl)
      (fun M pre U => FiI w K w3.heap.size cn M pre U ∧ pre.length ≤ cn)
      (fun c M pre U => c = .exit 0 ∧ FiI w K w3.heap.size cn M pre.dropLast U ∧ pre.length = cn + 1)
      (fun M M' s A' U hr hg h hk => ⟨h.1.far hk (hX7 h.1.mr) hg hr, h.2⟩)
      (fun c M M' s A' U hr hg h hk => ⟨h.1, h.2.1.far hk (hX7 h.2.1.mr) hg hr, h.2.2⟩)
      (fun M s A' h => by have := h.2; omega)
      (fun M U hm hb hs => ⟨HI0.out.far (X := fun _ => False) (KS.of_below hb) (fun _ h => h.elim) (fun k h => .inr (by have := (hm k h).1; omega)) (fun k h => (hm k h).1), by simp⟩)
      _ ?assign ?body ?done ?stop
    case assign =>
      intro lq x W K' hK
      simp only [encT]
      gi_wp2
      exact hK
    case body =>
      rintro lq M pre x W hM hsW ⟨hJ, hle⟩ hpre
      obtain ⟨v, hv, hrow, hvM⟩ := hJ.row
      obtain ⟨A', c', rfl⟩ := own_shape hrow
      have q5 := hv.cell
      have f5 := hv.frozen
      have l5 := hv.lt
      have q3 := hJ.bn.cell
      obtain ⟨p, ep⟩ : ∃ p, pre.length = p := ⟨_, rfl⟩
      rw [ep] at q5 hrow hle hvM
      have HROW := hid hrow
      have HEP := hid ep
      have HJ := hid hJ
      have HVM := hid hvM
      have HM := hid hM
      have HV := hid hv
      clear hrow ep hJ hvM hM hv hpre HSEQ
      by_cases hge : cn ≤ p
      · gi_wp2_with fail
        refine ⟨KS.refl _ _, rfl, ?_, ?_⟩
        · rw [List.dropLast_concat]; exact HJ.out
        · rw [List.length_append, HEP.out]; simp; omega
      · gi_wp2_with (gi_at_builtin; go_must (refine wpListIn_pushB rfl (.tmp 17) (.tmp 19) 22 rfl 3 i0 (.int .i64 0) 1 8 Try.underlying22 HI.out hz0 hz1 hz2 rfl (by decide) (w3.heap.size + 2) hsW (.slice A' p c') p (i64s pre) rfl HROW.out _ #[.int .i64 x] rfl rfl rfl (by simp [Value.oneCell']) (by omega) (by unfold maxLen; omega) ?_); intro w1 g cap ho1 hg1 hor; have hg1' := hg1; have hv1 := HV.out.kept hg1 (fun e => by have := (HROW.out.lt (K + 1) e.symm).1; omega); have k5 := hv1.cell; have g5 := hv1.frozen; have m5 := hv1.lt; have HO1 := hid ho1; have HG1 := hid hg1; have HOR := hid hor; have HV1 := hid hv1; clear ho1 hg1 hor hv1)
        have hgb := (HO1.out.lt g rfl).1
        have hgM : ¬ M g := by
          rcases HOR.out with h | h
          · exact HVM.out g h
          · intro hm; have := (HM.out g hm).2; omega
        have hk1 : KS (fun q => T q ∨ (w3.heap.size + 2 ≤ q ∧ ¬ M q)) W w1 := ⟨HG1.out.os, HG1.out.tape, HG1.out.output, HG1.out.size, fun q hq hn => HG1.out.block q hq (fun e => hn (.inr ⟨(HROW.out.lt q e.symm).1, HVM.out q e.symm⟩))⟩
        have hb1 : Below w.heap.size W w1 := ⟨HG1.out.os, HG1.out.tape, HG1.out.output, HG1.out.size, fun q hq => HG1.out.block q (by omega) (fun e => by have := (HROW.out.lt q e.symm).1; omega)⟩
        have hbn1 := HJ.out.bn.kept hg1' (fun e => by have := (HROW.out.lt K e.symm).1; omega)
        refine ⟨hk1.setCell (b := K + 1) (.inl hTO) 0 _, ⟨HJ.out.mr, (HJ.out.bel.trans hb1).setCell (p := ⟨K + 1, 0, none⟩) (by show w.heap.size ≤ K + 1; omega) _, ((KS.refl (fun q => q = K + 1) w1).setCell (b := K + 1) rfl 0 _).boxed (by omega) hbn1, _, HV1.out.set _, ?_, fun q hq => ?_⟩, ?_⟩
        · have e : (pre ++ [x]).length = p + 1 := by rw [List.length_append, HEP.out]; rfl
          rw [e, ← i64s_snoc]
          exact own_kept (X := fun q => q = K + 1) HO1.out ((KS.refl (fun q => q = K + 1) w1).setCell (b := K + 1) rfl 0 _).block (fun q hq => by have := (HO1.out.lt q hq).1; omega)
        · simp only [Value.ownBlock, Option.some.injEq] at hq
          rw [← hq]; exact hgM
        · rw [List.length_append, HEP.out]; simp; omega
    case' stop =>
      rintro D c M pre W hD hSp ⟨hc, hJ, hl⟩ hKD
      subst hc
      have hres : firstF l t = pre.dropLast := by
        rw [HF.out]
        rw [if_neg hSp.1, hSp.2, hl, turns_succ, List.dropLast_concat]
      clear hSp hl
      refine wpIn_wide.2 ?_
    case' done =>
      rintro D M pre W hD hS ⟨hJ, hl⟩ hKD
      have hres : firstF l t = pre := by rw [HF.out, if_pos hS.2, hS.1]
      clear hS hl
    all_goals (
      rw [← hres] at hJ
      obtain ⟨v, hv, hrow, hvM⟩ := hJ.row
      obtain ⟨A', c', rfl⟩ := own_shape hrow
      have q5 := hv.cell
      have HROW := hid hrow
      have HKD := hid hKD
      have HJ := hid hJ
      obtain ⟨fl, efl⟩ : ∃ fl, firstF l t = fl := ⟨_, rfl⟩
      rw [efl] at q5 HROW
      have EFL := hid efl
      clear efl
      clear hrow hKD hJ hres hv HSEQ hvM
      go_wp2_with fail
      refine ⟨by simp, .inl ⟨_, _, rfl, run_takeDeferred HKD.out, ?_⟩⟩
      rw [EFL.out]
      refine ⟨_, results_tmp rfl _ _ _, A', c', rfl, below_putObj HJ.out.bel (by omega) _, own_base (ownsRow_putObj HROW.out _ HKD.out rfl) (show w.heap.size ≤ w3.heap.size + 2 by omega)⟩)
end Go.Proofs.Ytjhjkchcjpijaaa
