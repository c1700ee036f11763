/-
  Layer 25: the document's Lock. No condition.
-/
import Derived.Test.YtdeejiiegmddaaaStD
namespace Go.Proofs.Ytdeejiiegmddaaa
open Go Go.RowKit
/-- The count of one lock, of the first ones. -/
def rlockK (l : List Ev) (q : Int) : Nat → Ct
  | 0 => ⟨0, 0, 0, 0, 0⟩
  | k + 1 => if (evA l k).lock = q then bumpF (rlockK l q k) (evA l k).kind else rlockK l q k
theorem rlockK_in (l : List Ev) (q : Int) : ∀ k, CtIn (rlockK l q k) k
  | 0 => by constructor <;> simp [rlockK]
  | k + 1 => by
    rw [rlockK]
    split
    · exact (rlockK_in l q k).bump _
    · exact (rlockK_in l q k).succ
/-- The program's row has the document's counts. -/
theorem locK_is (l : List Ev) : ∀ k i, i < 8 → ctA (locK l k) i = rlockK l (i : Int) k
  | 0, i, hi => by
    unfold ctA locK rlockK
    rw [List.getElem?_replicate, if_pos hi]; rfl
  | k + 1, i, hi => by
    have h1 := locK_is l k i hi
    rw [locK, lockF, rlockK]
    by_cases hr : 0 ≤ (evA l k).lock ∧ (evA l k).lock < 8
    · rw [if_pos hr]
      by_cases he : (evA l k).lock = (i : Int)
      · rw [if_pos he, he, Int.toNat_natCast, ← h1]
        unfold ctA
        rw [List.getElem?_set_self (by rw [locK_length]; exact hi)]; rfl
      · rw [if_neg he, ← h1]
        unfold ctA
        rw [List.getElem?_set_ne (by omega)]
    · rw [if_neg hr, if_neg (by omega), h1]
set_option maxRecDepth 100000 in
set_option maxHeartbeats 4000000 in
theorem RLock_any (A : Option Addr) (ca n : Nat) (l : List Ev) (en : l.length = n) (hn : n ≤ maxLen) (q : Int) (w : World) (ha : Cells w A (tab evV l)) :
    Calls Try.prog 11 #[.slice A n ca, .int .i64 q] w (Gives (.agg (ctV (rlockK l q n)).toArray) w) := by
  have HA := hid ha
  have EN := hid en
  clear ha en
  go_enter Try.func11, Try.ntmps11
  go_upto_region 2 with (fail)
  obtain ⟨s, es⟩ : ∃ s, w.heap.size = s := ⟨_, rfl⟩
  obtain ⟨W0, eW0⟩ : ∃ W0, W0 = (w.alloc (.cells (ctV ⟨0, 0, 0, 0, 0⟩).toArray tCt)).alloc (.cells (ctV (rlockK l q 0)).toArray tCt) := ⟨_, rfl⟩
  have hr2 : Rec W0 s tCt (ctV ⟨0, 0, 0, 0, 0⟩).toArray := by rw [eW0, ← es]; exact (Rec.new w _ _).alloc _
  have hr3 : Rec W0 (s + 1) tCt (ctV (rlockK l q 0)).toArray := by
    have := Rec.new (w.alloc (.cells (ctV ⟨0, 0, 0, 0, 0⟩).toArray tCt)) tCt (ctV (rlockK l q 0)).toArray
    rw [show (w.alloc (.cells (ctV ⟨0, 0, 0, 0, 0⟩).toArray tCt)).heap.size = s + 1 by rw [← es]; simp [go_sem]] at this
    rw [eW0]; exact this
  have hb0 : Below s w W0 := by rw [eW0, ← es]; exact ((Below.refl _ w).alloc (Nat.le_refl _) _).alloc (by simp [go_sem]) _
  have H0 := hid (And.intro hr2 (And.intro hr3 hb0))
  have ES := hid es
  change Code.wp _ _ _ _ ((w.alloc (.cells (ctV ⟨0, 0, 0, 0, 0⟩).toArray tCt)).alloc (.cells (ctV (rlockK l q 0)).toArray tCt))
  rw [← eW0, es]
  clear hr2 hr3 hb0 eW0 es
  obtain ⟨b, eb⟩ : ∃ b, s + 1 = b := ⟨_, rfl⟩
  rw [eb] at H0 ⊢
  have EB := hid eb
  clear eb
  go_wp2_with fail
  go_loopw [6] (fun v wr => ∃ k : Nat, v = .int .i64 (k : Int) ∧ k ≤ n ∧ Hid (Rec wr s tCt (ctV ⟨0, 0, 0, 0, 0⟩).toArray ∧ Rec wr b tCt (ctV (rlockK l q k)).toArray ∧ Below s w wr)) (fun v _ => n - (intOf v).toNat)
  case atStart => exact ⟨0, rfl, Nat.zero_le _, H0⟩
  case round =>
    clear H0
    obtain ⟨k, rfl, hk, H⟩ := hrel
    by_cases hlt : k < n
    · obtain ⟨gA, oA, rfl, q0, q1, q2, q3, q4⟩ := ev_at (HA.out.below (by rw [ES.out]; exact H.out.2.2)) (k := k) (by rw [EN.out]; exact hlt)
      have HA0 := ev_at HA.out (k := k) (by rw [EN.out]; exact hlt)
      have HT := hid (show rlockK l q (k + 1) = if (evA l k).lock = q then bumpF (rlockK l q k) (evA l k).kind else rlockK l q k from rfl)
      have hin := rlockK_in l q k
      have hgs : gA < s := by
        obtain ⟨g', o', e', c', _⟩ := HA0
        cases e'
        have := World.block_lt_of_cell? _ _ c'
        rw [ES.out] at this
        exact this
      obtain ⟨⟨xt, xk, xa, xl, xn⟩, ex⟩ : ∃ z, evA l k = z := ⟨_, rfl⟩
      rw [ex] at HT q0 q1 q2 q3 q4
      simp only at q0 q1 q2 q3 q4
      obtain ⟨⟨ca, cb, cr, cd, ce⟩, eL⟩ : ∃ L, rlockK l q k = L := ⟨_, rfl⟩
      rw [eL] at HT hin H
      obtain ⟨i1, i2, i3, i4, i5⟩ := hin
      simp only at i1 i2 i3 i4 i5
      have e1 : IntKind.i64.wrap ((k : Int) + 1) = (k : Int) + 1 := by rw [IntKind.wrap_i64]; unfold maxLen at hn; omega
      have hr := H.out.2.1
      have c0 := Rec.cell hr 0
      have c1 := Rec.cell hr 1
      have c2 := Rec.cell hr 2
      have c3 := Rec.cell hr 3
      have c4 := Rec.cell hr 4
      simp [ctV] at c0 c1 c2 c3 c4
      have f0 := Rec.frozen hr 0
      have f1 := Rec.frozen hr 1
      have f2 := Rec.frozen hr 2
      have f3 := Rec.frozen hr 3
      have f4 := Rec.frozen hr 4
      have hgl := hr.lt
      have hsb : s < b := by rw [← EB.out]; exact Nat.lt_succ_self s
      have hne : ¬ gA = b := by omega
      have hne2 : ¬ b = gA := by omega
      have HP := hid (fun (j : Nat) (y : Ct) (u : Value) (hy : (ctV y).toArray = (ctV ⟨ca, cb, cr, cd, ce⟩).toArray.setIfInBounds j u) =>
        show Rec (wr.setCell ⟨b, j, none⟩ u) s tCt (ctV ⟨0, 0, 0, 0, 0⟩).toArray ∧ Rec (wr.setCell ⟨b, j, none⟩ u) b tCt (ctV y).toArray ∧ Below s w (wr.setCell ⟨b, j, none⟩ u) from by
          have h7 := H.out.2.1.set j u
          rw [← hy] at h7
          exact ⟨H.out.1.set_other (p := ⟨b, j, none⟩) (by show b ≠ s; omega) _, h7, below_set H.out.2.2 (by omega) _ _⟩)
      clear eL ex hr HA0
      by_cases hl : xl = q
      · subst hl
        have HE : Hid (rlockK l xl (k + 1) = bumpF ⟨ca, cb, cr, cd, ce⟩ xk) := hid (by rw [HT.out, if_pos rfl])
        clear HT
        by_cases hk4 : xk = 4
        · subst hk4
          have ew : IntKind.i64.wrap (ca + 1) = ca + 1 := by rw [IntKind.wrap_i64]; unfold maxLen at hn; omega
          go_wp2_with fail
          go_roundw
          case rel => exact ⟨k + 1, by go_num, by omega, hid (by rw [HE.out]; exact HP.out 0 ⟨ca + 1, cb, cr, cd, ce⟩ _ rfl)⟩
          case measure => simp [intOf]; omega
        by_cases hk6 : xk = 6
        · subst hk6
          have ew : IntKind.i64.wrap (cb + 1) = cb + 1 := by rw [IntKind.wrap_i64]; unfold maxLen at hn; omega
          go_wp2_with fail
          go_roundw
          case rel => exact ⟨k + 1, by go_num, by omega, hid (by rw [HE.out]; exact HP.out 1 ⟨ca, cb + 1, cr, cd, ce⟩ _ rfl)⟩
          case measure => simp [intOf]; omega
        by_cases hk5 : xk = 5
        · subst hk5
          have ew : IntKind.i64.wrap (cr + 1) = cr + 1 := by rw [IntKind.wrap_i64]; unfold maxLen at hn; omega
          go_wp2_with fail
          go_roundw
          case rel => exact ⟨k + 1, by go_num, by omega, hid (by rw [HE.out]; exact HP.out 2 ⟨ca, cb, cr + 1, cd, ce⟩ _ rfl)⟩
          case measure => simp [intOf]; omega
        by_cases hk12 : xk = 12
        · subst hk12
          have ew : IntKind.i64.wrap (cd + 1) = cd + 1 := by rw [IntKind.wrap_i64]; unfold maxLen at hn; omega
          go_wp2_with fail
          go_roundw
          case rel => exact ⟨k + 1, by go_num, by omega, hid (by rw [HE.out]; exact HP.out 3 ⟨ca, cb, cr, cd + 1, ce⟩ _ rfl)⟩
          case measure => simp [intOf]; omega
        by_cases hk8 : xk = 8
        · subst hk8
          have ew : IntKind.i64.wrap (ce + 1) = ce + 1 := by rw [IntKind.wrap_i64]; unfold maxLen at hn; omega
          go_wp2_with fail
          go_roundw
          case rel => exact ⟨k + 1, by go_num, by omega, hid (by rw [HE.out]; exact HP.out 4 ⟨ca, cb, cr, cd, ce + 1⟩ _ rfl)⟩
          case measure => simp [intOf]; omega
        have HE2 : Hid (rlockK l xl (k + 1) = ⟨ca, cb, cr, cd, ce⟩) := hid (by rw [HE.out, bumpF, if_neg hk4, if_neg hk6, if_neg hk5, if_neg hk12, if_neg hk8])
        go_wp2_with fail
        go_roundw
        case rel => exact ⟨k + 1, by go_num, by omega, hid (by rw [HE2.out]; exact H.out)⟩
        case measure => simp [intOf]; omega
      · have HE : Hid (rlockK l q (k + 1) = ⟨ca, cb, cr, cd, ce⟩) := hid (by rw [HT.out, if_neg hl])
        clear HT
        go_wp2_with fail
        go_roundw
        case rel => exact ⟨k + 1, by go_num, by omega, hid (by rw [HE.out]; exact H.out)⟩
        case measure => simp [intOf]; omega
    · obtain rfl : k = n := by omega
      have ht := H.out.2.1
      obtain ⟨⟨ca, cb, cr, cd, ce⟩, et⟩ : ∃ z, rlockK l q k = z := ⟨_, rfl⟩
      have ET := hid et
      rw [et] at ht
      have hr := H.out.1
      have c0 := Rec.cell ht 0
      have f0 := Rec.frozen hr 0
      have g0 := Rec.cell hr 0
      have c1 := Rec.cell ht 1
      have f1 := Rec.frozen hr 1
      have g1 := Rec.cell hr 1
      have c2 := Rec.cell ht 2
      have f2 := Rec.frozen hr 2
      have g2 := Rec.cell hr 2
      have c3 := Rec.cell ht 3
      have f3 := Rec.frozen hr 3
      have g3 := Rec.cell hr 3
      have c4 := Rec.cell ht 4
      have f4 := Rec.frozen hr 4
      have g4 := Rec.cell hr 4
      have hl3 := ht.lt
      have hl2 := hr.lt
      simp [ctV] at c0 c1 c2 c3 c4
      simp [ctV] at g0 g1 g2 g3 g4
      have HR := hid hr
      clear hr ht et
      have HB := hid H.out.2.2
      clear H
      go_wp2_with fail
      refine bodyPost_ret (results_cell_row rfl _ _ s tCt (ctV ⟨ca, cb, cr, cd, ce⟩).toArray (0, 0) _ rfl ?rec Try.underlying34 rfl (by kernel_rfl)) rfl ?_
      case rec =>
        have h7 := ((((HR.out.set 0 (.int .i64 ca)).set 1 (.int .i64 cb)).set 2 (.int .i64 cr)).set 3 (.int .i64 cd)).set 4 (.int .i64 ce)
        unfold Rec at h7
        simpa [ctV] using h7
      refine Gives.mk (by rw [ET.out]) ?_
      rw [ES.out]
      iterate 5 (refine below_set ?_ (Nat.le_refl _) _ _)
      exact HB.out
end Go.Proofs.Ytdeejiiegmddaaa
