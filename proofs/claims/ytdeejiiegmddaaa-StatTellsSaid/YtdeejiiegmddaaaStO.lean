/-
  Layer 25: the document's Task. No condition.
-/
import Derived.Test.YtdeejiiegmddaaaStN
import Derived.Test.YtdeejiiegmddaaaDigA
import Derived.Test.YtdeejiiegmddaaaRegLast
namespace Go.Proofs.Ytdeejiiegmddaaa
open Go Go.RowKit
def rbumpF (l : List Ev) (k : Nat) (t : Ty) : Ty :=
  if (evA l k).kind = 2 then ⟨t.id, t.d + 1, t.p, t.a, t.b, t.e, t.wt⟩ else if (evA l k).kind = 3 then ⟨t.id, t.d, t.p + 1, t.a, t.b, t.e, t.wt⟩
  else if (evA l k).kind = 4 then ⟨t.id, t.d, t.p, t.a + 1, t.b, t.e, t.wt⟩ else if (evA l k).kind = 6 then ⟨t.id, t.d, t.p, t.a, t.b + 1, t.e, addF t.wt (waitedF l k)⟩
  else if (evA l k).kind = 8 then ⟨t.id, t.d, t.p, t.a, t.b, t.e + 1, t.wt⟩ else t
def rtK (l : List Ev) (x : Int) : Nat → Ty
  | 0 => ⟨x, 0, 0, 0, 0, 0, 0⟩
  | k + 1 => if (evA l k).task = x then rbumpF l k (rtK l x k) else rtK l x k
theorem wlF_in {x lock frm : Int} (hf : U64 frm) : ∀ (l : List Ev), (∀ e ∈ l, U64 e.time) → U64 (wlF x lock frm l)
  | [], _ => by show U64 0; exact ⟨by decide, by decide⟩
  | e :: r, h => by
    rw [wlF]
    split
    · exact sub_u64 (h e (List.mem_cons_self ..)) hf
    · exact wlF_in hf r (fun e' h' => h e' (List.mem_cons_of_mem _ h'))
theorem evA_mem {l : List Ev} (h : ∀ k, U64 (evA l k).time) : ∀ e ∈ l, U64 e.time := fun e he => by
  obtain ⟨i, hi, rfl⟩ := List.mem_iff_getElem.1 he
  have := h i
  simpa [evA, List.getElem?_eq_getElem hi] using this
theorem waitedF_in {l : List Ev} (h : ∀ k, U64 (evA l k).time) (k : Nat) : U64 (waitedF l k) :=
  wlF_in (h k) _ (fun e he => evA_mem h e (List.mem_of_mem_drop he))
theorem rtK_in {l : List Ev} (h : ∀ k, U64 (evA l k).time) (x : Int) : ∀ k, TyIn (rtK l x k) k
  | 0 => by
    rw [rtK]
    constructor <;> first | (simp; done) | (show U64 0; exact ⟨by decide, by decide⟩)
  | k + 1 => by
    have ih := rtK_in h x k
    rw [rtK]
    split
    · obtain ⟨i1, i2, i3, i4, i5, i6⟩ := ih
      have hw := waitedF_in h k
      unfold rbumpF
      (repeat' split) <;> constructor <;> first | exact i6 | exact addF_u64 i6 hw | (simp only; omega) | omega
    · exact ih.succ
set_option maxRecDepth 100000 in
set_option maxHeartbeats 8000000 in
theorem RTask_any (A : Option Addr) (ca n : Nat) (l : List Ev) (en : l.length = n) (hn : n ≤ 4294967290) (hl : ∀ k, U64 (evA l k).time) (q : Int) (w : World) (ha : Cells w A (tab evV l)) :
    Calls Try.prog 17 #[.slice A n ca, .int .i64 q] w (Gives (.agg (tyV (rtK l q n)).toArray) w) := by
  have HA := hid ha
  have EN := hid en
  have HL := hid hl
  clear ha en hl
  go_enter Try.func17, Try.ntmps17
  go_upto_region 2 with (fail)
  obtain ⟨s, es⟩ : ∃ s, w.heap.size = s := ⟨_, rfl⟩
  obtain ⟨W0, eW0⟩ : ∃ W0, W0 = (w.alloc (.cells (tyV ⟨0, 0, 0, 0, 0, 0, 0⟩).toArray tTy)).alloc (.cells (tyV (rtK l q 0)).toArray tTy) := ⟨_, rfl⟩
  have hr2 : Rec W0 s tTy (tyV ⟨0, 0, 0, 0, 0, 0, 0⟩).toArray := by rw [eW0, ← es]; exact (Rec.new w _ _).alloc _
  have hr3 : Rec W0 (s + 1) tTy (tyV (rtK l q 0)).toArray := by
    have := Rec.new (w.alloc (.cells (tyV ⟨0, 0, 0, 0, 0, 0, 0⟩).toArray tTy)) tTy (tyV (rtK l q 0)).toArray
    rw [show (w.alloc (.cells (tyV ⟨0, 0, 0, 0, 0, 0, 0⟩).toArray tTy)).heap.size = s + 1 by rw [← es]; simp [go_sem]] at this
    rw [eW0]; exact this
  have hb0 : Below s w W0 := by rw [eW0, ← es]; exact ((Below.refl _ w).alloc (Nat.le_refl _) _).alloc (by simp [go_sem]) _
  have H0 := hid (And.intro hr2 (And.intro hr3 hb0))
  have ES := hid es
  change Code.wp _ _ _ _ ((w.alloc (.cells (tyV ⟨0, 0, 0, 0, 0, 0, 0⟩).toArray tTy)).alloc (.cells (tyV (rtK l q 0)).toArray tTy))
  rw [← eW0, es]
  clear hr2 hr3 hb0 eW0 es
  obtain ⟨b, eb⟩ : ∃ b, s + 1 = b := ⟨_, rfl⟩
  rw [eb] at H0 ⊢
  have EB := hid eb
  clear eb
  go_wp2_with fail
  go_loopw [6] (fun v wr => ∃ k : Nat, v = .int .i64 (k : Int) ∧ k ≤ n ∧ Hid (Rec wr s tTy (tyV ⟨0, 0, 0, 0, 0, 0, 0⟩).toArray ∧ Rec wr b tTy (tyV (rtK l q k)).toArray ∧ Below s w wr)) (fun v _ => n - (intOf v).toNat)
  case atStart => exact ⟨0, rfl, Nat.zero_le _, H0⟩
  case round =>
    clear H0
    obtain ⟨k, rfl, hk, H⟩ := hrel
    by_cases hlt : k < n
    · obtain ⟨gA, oA, rfl, q0, q1, q2, q3, q4⟩ := ev_at (HA.out.below (by rw [ES.out]; exact H.out.2.2)) (k := k) (by rw [EN.out]; exact hlt)
      have HA0 := ev_at HA.out (k := k) (by rw [EN.out]; exact hlt)
      have HT := hid (show rtK l q (k + 1) = if (evA l k).task = q then rbumpF l k (rtK l q k) else rtK l q k from rfl)
      have HRB := hid (fun t => show rbumpF l k t = if (evA l k).kind = 2 then ⟨t.id, t.d + 1, t.p, t.a, t.b, t.e, t.wt⟩ else if (evA l k).kind = 3 then ⟨t.id, t.d, t.p + 1, t.a, t.b, t.e, t.wt⟩
        else if (evA l k).kind = 4 then ⟨t.id, t.d, t.p, t.a + 1, t.b, t.e, t.wt⟩ else if (evA l k).kind = 6 then ⟨t.id, t.d, t.p, t.a, t.b + 1, t.e, addF t.wt (waitedF l k)⟩
        else if (evA l k).kind = 8 then ⟨t.id, t.d, t.p, t.a, t.b, t.e + 1, t.wt⟩ else t from rfl)
      have hin := rtK_in HL.out q k
      have hwin := waitedF_in HL.out k
      have hgs : gA < s := by
        obtain ⟨g', o', e', c', _⟩ := HA0
        cases e'
        have := World.block_lt_of_cell? _ _ c'
        rw [ES.out] at this
        exact this
      obtain ⟨⟨xt, xk, xa, xl, xn⟩, ex⟩ : ∃ z, evA l k = z := ⟨_, rfl⟩
      have EX := hid ex
      rw [ex] at HT HRB q0 q1 q2 q3 q4
      simp only at q0 q1 q2 q3 q4
      obtain ⟨⟨tk, td, tp, ta, tb, te, tw⟩, eL⟩ : ∃ L, rtK l q k = L := ⟨_, rfl⟩
      rw [eL] at HT hin H
      obtain ⟨i1, i2, i3, i4, i5, i6⟩ := hin
      simp only at i1 i2 i3 i4 i5 i6
      have e1 : IntKind.i64.wrap ((k : Int) + 1) = (k : Int) + 1 := by rw [IntKind.wrap_i64]; omega
      have hr := H.out.2.1
      have c0 := Rec.cell hr 0
      have f0 := Rec.frozen hr 0
      have c1 := Rec.cell hr 1
      have f1 := Rec.frozen hr 1
      have c2 := Rec.cell hr 2
      have f2 := Rec.frozen hr 2
      have c3 := Rec.cell hr 3
      have f3 := Rec.frozen hr 3
      have c4 := Rec.cell hr 4
      have f4 := Rec.frozen hr 4
      have c5 := Rec.cell hr 5
      have f5 := Rec.frozen hr 5
      have c6 := Rec.cell hr 6
      have f6 := Rec.frozen hr 6
      simp [tyV] at c0 c1 c2 c3 c4 c5 c6
      have hgl := hr.lt
      have hsb : s < b := by rw [← EB.out]; exact Nat.lt_succ_self s
      have hne : ¬ gA = b := by omega
      have hne2 : ¬ b = gA := by omega
      have HP := hid (fun (j : Nat) (y : Ty) (u : Value) (hy : (tyV y).toArray = (tyV ⟨tk, td, tp, ta, tb, te, tw⟩).toArray.setIfInBounds j u) =>
        show Rec (wr.setCell ⟨b, j, none⟩ u) s tTy (tyV ⟨0, 0, 0, 0, 0, 0, 0⟩).toArray ∧ Rec (wr.setCell ⟨b, j, none⟩ u) b tTy (tyV y).toArray ∧ Below s w (wr.setCell ⟨b, j, none⟩ u) from by
          have h7 := H.out.2.1.set j u
          rw [← hy] at h7
          exact ⟨H.out.1.set_other (p := ⟨b, j, none⟩) (by show b ≠ s; omega) _, h7, below_set H.out.2.2 (by omega) _ _⟩)
      clear eL ex hr HA0
      by_cases hl : xa = q
      · subst hl
        have HE : Hid (rtK l xa (k + 1) = rbumpF l k ⟨tk, td, tp, ta, tb, te, tw⟩) := hid (by rw [HT.out, if_pos rfl])
        clear HT
        by_cases hk2 : xk = 2
        · subst hk2
          have ew : IntKind.i64.wrap (td + 1) = td + 1 := by rw [IntKind.wrap_i64]; omega
          have HE1 : Hid (rtK l xa (k + 1) = ⟨tk, td + 1, tp, ta, tb, te, tw⟩) := hid (by rw [HE.out, HRB.out]; simp)
          clear HRB HE
          go_wp2_with fail
          go_roundw
          case rel => exact ⟨k + 1, by go_num, by omega, hid (by rw [HE1.out]; exact HP.out 1 ⟨tk, td + 1, tp, ta, tb, te, tw⟩ _ rfl)⟩
          case measure => simp [intOf]; omega
        by_cases hk3 : xk = 3
        · subst hk3
          have ew : IntKind.i64.wrap (tp + 1) = tp + 1 := by rw [IntKind.wrap_i64]; omega
          have HE1 : Hid (rtK l xa (k + 1) = ⟨tk, td, tp + 1, ta, tb, te, tw⟩) := hid (by rw [HE.out, HRB.out]; simp)
          clear HRB HE
          go_wp2_with fail
          go_roundw
          case rel => exact ⟨k + 1, by go_num, by omega, hid (by rw [HE1.out]; exact HP.out 2 ⟨tk, td, tp + 1, ta, tb, te, tw⟩ _ rfl)⟩
          case measure => simp [intOf]; omega
        by_cases hk4 : xk = 4
        · subst hk4
          have ew : IntKind.i64.wrap (ta + 1) = ta + 1 := by rw [IntKind.wrap_i64]; omega
          have HE1 : Hid (rtK l xa (k + 1) = ⟨tk, td, tp, ta + 1, tb, te, tw⟩) := hid (by rw [HE.out, HRB.out]; simp)
          clear HRB HE
          go_wp2_with fail
          go_roundw
          case rel => exact ⟨k + 1, by go_num, by omega, hid (by rw [HE1.out]; exact HP.out 3 ⟨tk, td, tp, ta + 1, tb, te, tw⟩ _ rfl)⟩
          case measure => simp [intOf]; omega
        by_cases hk6 : xk = 6
        · subst hk6
          have ew : IntKind.i64.wrap (tb + 1) = tb + 1 := by rw [IntKind.wrap_i64]; omega
          have HE1 : Hid (rtK l xa (k + 1) = ⟨tk, td, tp, ta, tb + 1, te, addF tw (waitedF l k)⟩) := hid (by rw [HE.out, HRB.out]; simp)
          clear HRB HE
          obtain ⟨wv, ewv⟩ : ∃ z, waitedF l k = z := ⟨_, rfl⟩
          obtain ⟨w2, ew2⟩ : ∃ w2, w2 = wr.setCell ⟨b, 4, none⟩ (.int .i64 (tb + 1)) := ⟨_, rfl⟩
          obtain ⟨z1, z2, z3⟩ := HP.out 4 ⟨tk, td, tp, ta, tb + 1, te, tw⟩ (.int .i64 (tb + 1)) rfl
          rw [← ew2] at z1 z2 z3
          have HZ := hid (And.intro z1 (And.intro z2 z3))
          have HWT := hid (fun x : Past => waited_any (some ⟨gA, oA, none⟩) ca n l EN.out hn HL.out k hlt (w2.past x) ((HA.out.below (by rw [ES.out]; exact z3)).past x))
          rw [ewv] at HWT hwin HE1
          have HAD := hid (fun W => RAdd_any tw wv i6 hwin W)
          have EW2 := hid ew2
          clear ewv ew2 z1 z2 z3
          go_upto_region 14 with (fail)
          rw [← EW2.out]
          have c6' := Rec.cell HZ.out.2.1 6
          simp [tyV] at c6'
          have hgl2 := HZ.out.2.1.lt
          refine wp_region_last (C := fun w' => ∃ x : Past, w' = w2.past x) 10 [8] (by kernel_rfl) (by kernel_rfl) (by kernel_rfl) rfl (by kernel_rfl) (.inr fun _ _ d _ _ h => by cases d <;> exact h) (past_of ⟨rfl, rfl, rfl, Nat.le_refl _, fun _ _ => rfl⟩) ?_
          simp only [List.take_succ_cons, List.take_zero]
          repeat (go_big_quiet_step ((first | (go_at_call 26; first | with_reducible exact Calls.in_past (HWT.out _) | with_reducible exact Calls.in_past2 (HWT.out _)) | (go_at_call 12; first | with_reducible exact Calls.in_past (HAD.out _) | with_reducible exact Calls.in_past2 (HAD.out _)) | (go_at_call 26; first | exact Calls.in_past (HWT.out _) | exact Calls.in_past2 (HWT.out _)) | (go_at_call 12; first | exact Calls.in_past (HAD.out _) | exact Calls.in_past2 (HAD.out _)))))
          refine wpQuiet_nil ?_
          rintro _ ⟨xq, rfl⟩
          obtain ⟨w3, ew3⟩ : ∃ w3, w3 = w2.past xq := ⟨_, rfl⟩
          have z1 : Rec w3 s tTy (tyV ⟨0, 0, 0, 0, 0, 0, 0⟩).toArray := by rw [ew3]; exact HZ.out.1.past xq
          have z2 : Rec w3 b tTy (tyV ⟨tk, td, tp, ta, tb + 1, te, tw⟩).toArray := by rw [ew3]; exact HZ.out.2.1.past xq
          have z3 : Below s w w3 := by rw [ew3]; exact HZ.out.2.2.trans ((w2.below_past xq).mono (by have := HZ.out.1.lt; omega))
          have c63 := Rec.cell z2 6
          have f63 := Rec.frozen z2 6
          have hgl3 := z2.lt
          simp [tyV] at c63
          rw [← ew3]
          clear ew3
          refine wpOp_step rfl (fun K hK => ?_)
          go_simp
          refine hK _ _ ?_
          clear hK K
          have h7 := z2.set 6 (.int .u64 (addF tw wv))
          have HF : Hid (Rec (w3.setCell ⟨b, 6, none⟩ (.int .u64 (addF tw wv))) s tTy (tyV ⟨0, 0, 0, 0, 0, 0, 0⟩).toArray ∧ Rec (w3.setCell ⟨b, 6, none⟩ (.int .u64 (addF tw wv))) b tTy (tyV ⟨tk, td, tp, ta, tb + 1, te, addF tw wv⟩).toArray ∧ Below s w (w3.setCell ⟨b, 6, none⟩ (.int .u64 (addF tw wv)))) :=
            hid ⟨z1.set_other (p := ⟨b, 6, none⟩) (by show b ≠ s; omega) _, by unfold Rec at h7 ⊢; rw [h7]; rfl, below_set z3 (by omega) _ _⟩
          obtain ⟨w4, ew4⟩ : ∃ w4, w4 = w3.setCell ⟨b, 6, none⟩ (.int .u64 (addF tw wv)) := ⟨_, rfl⟩
          rw [← ew4] at HF ⊢
          obtain ⟨gA', oA', eA, r0, r1, r2, r3, r4⟩ := ev_at (HA.out.below (by rw [ES.out]; exact HF.out.2.2)) (k := k) (by rw [EN.out]; exact hlt)
          cases eA
          rw [EX.out] at r0 r1 r2 r3 r4
          simp only at r0 r1 r2 r3 r4
          clear ew4 h7 z1 z2 z3 c0 c1 c2 c3 c4 c5 c6 f0 f1 f2 f3 f4 f5 f6 c6' c63 f63 q0 q1 q2 q3 q4
          go_wp2_with fail
          go_roundw
          case rel => exact ⟨k + 1, by go_num, by omega, hid (by rw [HE1.out]; exact HF.out)⟩
          case measure => simp [intOf]; omega
        by_cases hk8 : xk = 8
        · subst hk8
          have ew : IntKind.i64.wrap (te + 1) = te + 1 := by rw [IntKind.wrap_i64]; omega
          have HE1 : Hid (rtK l xa (k + 1) = ⟨tk, td, tp, ta, tb, te + 1, tw⟩) := hid (by rw [HE.out, HRB.out]; simp)
          clear HRB HE
          go_wp2_with fail
          go_roundw
          case rel => exact ⟨k + 1, by go_num, by omega, hid (by rw [HE1.out]; exact HP.out 5 ⟨tk, td, tp, ta, tb, te + 1, tw⟩ _ rfl)⟩
          case measure => simp [intOf]; omega
        have HE2 : Hid (rtK l xa (k + 1) = ⟨tk, td, tp, ta, tb, te, tw⟩) := hid (by rw [HE.out, HRB.out]; simp [hk2, hk3, hk4, hk6, hk8])
        clear HRB HE
        go_wp2_with fail
        go_roundw
        case rel => exact ⟨k + 1, by go_num, by omega, hid (by rw [HE2.out]; exact H.out)⟩
        case measure => simp [intOf]; omega
      · have HE : Hid (rtK l q (k + 1) = ⟨tk, td, tp, ta, tb, te, tw⟩) := hid (by rw [HT.out, if_neg hl])
        clear HT HRB
        go_wp2_with fail
        go_roundw
        case rel => exact ⟨k + 1, by go_num, by omega, hid (by rw [HE.out]; exact H.out)⟩
        case measure => simp [intOf]; omega
    · obtain rfl : k = n := by omega
      have ht := H.out.2.1
      obtain ⟨⟨tk, td, tp, ta, tb, te, tw⟩, et⟩ : ∃ z, rtK l q k = z := ⟨_, rfl⟩
      have ET := hid et
      rw [et] at ht
      have hr := H.out.1
      have c0 := Rec.cell ht 0
      have f0 := Rec.frozen hr 0
      have g0 := Rec.cell hr 0
      have c1 := Rec.cell ht 1
      have f1 := Rec.frozen hr 1
      have g1 := Rec.cell hr 1
      have c2 := Rec.cell ht 2
      have f2 := Rec.frozen hr 2
      have g2 := Rec.cell hr 2
      have c3 := Rec.cell ht 3
      have f3 := Rec.frozen hr 3
      have g3 := Rec.cell hr 3
      have c4 := Rec.cell ht 4
      have f4 := Rec.frozen hr 4
      have g4 := Rec.cell hr 4
      have c5 := Rec.cell ht 5
      have f5 := Rec.frozen hr 5
      have g5 := Rec.cell hr 5
      have c6 := Rec.cell ht 6
      have f6 := Rec.frozen hr 6
      have g6 := Rec.cell hr 6
      have hl3 := ht.lt
      have hl2 := hr.lt
      simp [tyV] at c0 c1 c2 c3 c4 c5 c6
      simp [tyV] at g0 g1 g2 g3 g4 g5 g6
      have HR := hid hr
      clear hr ht et
      have HB := hid H.out.2.2
      clear H
      go_wp2_with fail
      refine bodyPost_ret (results_cell_row rfl _ _ s tTy (tyV ⟨tk, td, tp, ta, tb, te, tw⟩).toArray (0, 0) _ rfl ?rec Try.underlying32 rfl (by kernel_rfl)) rfl ?_
      case rec =>
        have h7 := ((((((HR.out.set 0 (.int .i64 tk)).set 1 (.int .i64 td)).set 2 (.int .i64 tp)).set 3 (.int .i64 ta)).set 4 (.int .i64 tb)).set 5 (.int .i64 te)).set 6 (.int .u64 tw)
        unfold Rec at h7
        simpa [tyV] using h7
      refine Gives.mk (by rw [ET.out]) ?_
      rw [ES.out]
      iterate 7 (refine below_set ?_ (Nat.le_refl _) _ _)
      exact HB.out
end Go.Proofs.Ytdeejiiegmddaaa
