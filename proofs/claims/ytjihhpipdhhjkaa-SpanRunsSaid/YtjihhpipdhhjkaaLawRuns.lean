/-
  Layer 33's SpanRuns: whatever is added and cut, a set has just that; its spans, and gaps, are the document's. No condition.
-/
import Derived.Test.YtjihhpipdhhjkaaSpZ
import Derived.Test.YtjihhpipdhhjkaaSpV
import Derived.Test.YtjihhpipdhhjkaaRegSplit
import Derived.Deep.CutRange
import Derived.StillTailTactics
namespace Go.Proofs.Ytjihhpipdhhjkaa
open Go.RowKit Go.ChangeShapes Go.WideShapes Go.ChangeAt
attribute [local go_sem] Oper.semAt_some
theorem few_spec {l : List Dd} (h : fewB l = true) {k : Nat} (hk : k < l.length) : DdOk (dd l k) := by
  unfold fewB at h
  have h := of_decide_eq_true h
  unfold dd
  rw [List.getElem?_eq_getElem hk]
  exact h.2 _ (List.getElem_mem _)
set_option maxRecDepth 100000 in
set_option maxHeartbeats 8000000 in
theorem SpanRuns_any (A : Option Addr) (ca n : Nat) (l : List Dd) (en : l.length = n) (hn : n ≤ maxLen) (hkk : ∀ k, k < n → 0 ≤ (dd l k).k ∧ (dd l k).k < 256) (x : Int) (hx : I64 x) (y : Int) (hy : 0 ≤ y ∧ y < 256) (w : World) (ha : Cells w A (tab ddV l)) :
    Calls Try.prog 4 #[.slice A n ca, .int .i64 x, .int .u8 y] w (Gives (.bool true) w) := by
  have HAW := hid (awake_any w)
  have HA := hid ha
  have EN := hid en
  have HKK := hid hkk
  have HFW := hid (fun W (hW : Below w.heap.size w W) => few_any A ca n l en hn W (ha.below hW))
  have HX := hid hx
  clear ha hkk hx
  rcases Bool.eq_false_or_eq_true (fewB l) with hf | hf
  · have HDK := hid (fun k (hk : k < n) => few_spec hf (k := k) (by rw [en]; exact hk))
    have hn60 : n ≤ 60 := by
      unfold fewB at hf
      have hf := of_decide_eq_true hf
      rw [← en]; exact hf.1
    rw [hf] at HFW
    clear hf en hn
    go_enter Try.func4, Try.ntmps4
    go_upto_region 5 with (first | (refine HAW.out.mono ?_; rintro _ _ ⟨rfl, x0, rfl⟩) | (go_at_call 7; refine (HFW.out _ (by (repeat (first | exact Below.refl _ _ | refine RowKit.Below.past ?_ _ | refine RowKit.Below.alloc' ?_ _ | refine RowKit.Below.drew' ?_ | refine RowKit.Below.drewN' ?_ _ | refine RowKit.Below.setCell' ?_ (by simp [go_sem]) _)))).mono ?_; rintro _ _ ⟨rfl, x1, rfl⟩))
    obtain ⟨w1, ew1⟩ : ∃ W, W = w.past (x0.and x1) := ⟨_, rfl⟩
    have HB1 := hid (show Below w.heap.size w w1 by rw [ew1]; exact w.below_past _)
    rw [← ew1]
    clear ew1
    go_wp2_with fail
    refine (New_any w1).mono ?_
    rintro _ w2 ⟨rfl, h2, hb2⟩
    have HS2 := hid h2
    have HB2 := hid hb2
    obtain ⟨b, eb⟩ : ∃ b, w1.heap.size = b := ⟨_, rfl⟩
    rw [eb] at HS2 HB2 ⊢
    have hwb : w.heap.size ≤ b := by rw [← eb]; exact HB1.out.size
    have EB := hid eb
    clear eb h2 hb2
    have HZS := hid (zero_set w2)
    obtain ⟨zs, ezs⟩ : ∃ z : Array Value, Array.replicate 400 (.bool false) = z := ⟨_, rfl⟩
    have hzs : (zeroValue 37).run Try.prog w2 = .ok (.agg zs) w2 := by rw [← ezs]; exact HZS.out
    have hzc : ∀ {α : Type} (k : Array Value → α), (match (Value.agg zs) with | .agg cs => k cs | v => k #[v]) = k zs := fun k => rfl
    go_upto_region 6 with (fail)
    obtain ⟨d, ed⟩ : ∃ d, w2.heap.size = d := ⟨_, rfl⟩
    obtain ⟨w4, ew4⟩ : ∃ W, W = w2.alloc (.cells zs 37) := ⟨_, rfl⟩
    have HR4 := hid (show RfAt w4 d (fun _ => false) by rw [ew4, ← ed, ← ezs]; exact RfAt.new w2)
    have hb4 : Below w2.heap.size w2 w4 := by rw [ew4]; exact (Below.refl _ _).alloc (Nat.le_refl _) _
    have HS4 := hid (HS2.out.far hb4)
    have hbd : b ≠ d := by have := HS2.out.lt; omega
    have hBd : b ≤ d := by have := HS2.out.lt; omega
    have HB4 := hid (HB2.out.trans (hb4.mono (by have := HS2.out.lt; omega)))
    have hb1 : b ≤ w1.heap.size := by rw [EB.out]; exact Nat.le_refl _
    rw [← ew4, ed]
    clear ew4 hb4 ed hzs hzc ezs HZS HS2 HB2 HAW HFW
    go_wp2_with fail
    go_loopw [10, 11, 12, 13, 14, 15, 16, 17, 28] (fun _ _ _ _ _ _ _ _ i wr => ∃ (k : Nat) (L : List (Int × Int)) (f : Int → Bool), i = .int .i64 (k : Int) ∧ k ≤ n ∧ Hid (SpAt b wr b L) ∧ Hid (RfAt wr d f) ∧ Hid (Sm L f) ∧ Hid (Below b w1 wr)) (fun _ _ _ _ _ _ _ _ i _ => n - natI i)
    case atStart => exact ⟨0, [], _, rfl, by omega, HS4, HR4, hid Sm.nil, HB4⟩
    case round =>
      clear HS4 HR4 HB4
      obtain ⟨k, L, f, rfl, hk, HS, HR, HSM, HB⟩ := hrel
      have HBW := hid (HB1.out.trans (HB.out.mono hwb))
      by_cases hlt : k < n
      · obtain ⟨g, o, rfl, c0, c1, c2⟩ := dd_at (HA.out.below HBW.out) (k := k) (by rw [EN.out]; exact hlt)
        have hdk := HDK.out k hlt
        have hkk := HKK.out k hlt
        obtain ⟨D, eD⟩ : ∃ D, dd l k = D := ⟨_, rfl⟩
        rw [eD] at c0 c1 c2 hdk hkk
        have HDO := hid hdk
        obtain ⟨w3, ew3⟩ : ∃ W, W = wr.alloc (.cells #[.int .u8 D.k, .int .i64 D.a, .int .i64 D.b] 28) := ⟨_, rfl⟩
        obtain ⟨X, eX⟩ : ∃ X, wr.heap.size = X := ⟨_, rfl⟩
        have hb3 : Below wr.heap.size wr w3 := by rw [ew3]; exact (Below.refl _ wr).alloc (Nat.le_refl _) _
        have hlb := HS.out.lt
        have hld := HR.out.lt
        have HST := hid (show St b b d X D w1 w3 L f from ⟨HS.out.far hb3, HR.out.far hb3, by rw [ew3, ← eX]; exact Rec.new wr _ _, HB.out.trans (hb3.mono (by omega)), hbd, hBd, by omega, by omega, hb1⟩)
        have EW3 := hid ew3
        have EX := hid eX
        obtain ⟨hk0, hk1⟩ := hkk
        have hq : wr.alloc (.cells #[.int .u8 D.k, .int .i64 D.a, .int .i64 D.b] 28) = w3 := ew3.symm
        clear eD hdk ew3 hb3 eX hq
        go_upto_region 9 with (fail)
        rw [← EW3.out, EX.out]
        clear c0 c1 c2 HS HR HB HBW
        obtain ⟨e0, e1, e2⟩ := HST.out.cells
        have h4 : D.k % 4 = 0 ∨ D.k % 4 = 1 ∨ D.k % 4 = 2 ∨ D.k % 4 = 3 := by omega
        have hdl : (k : Nat) < n := hlt
        go_upto_block 2 with (fail)
        go_cut [11, 12, 13, 14, 15, 16, 28] from 28 to 128 (fun v11 _ _ _ _ _ v28 wx => v11 = .bool true ∧ v28 = .int .i64 (k : Int) ∧ ∃ L' f', Hid (St b b d X D w1 wx L' f') ∧ Hid (Sm L' f'))
        case first =>
          have hal := (HSM.out.add HDO.out).len
          have hcl := (HSM.out.cut HDO.out).len
          have HAD := hid (fun (W : World) (g : Int → Bool) (h : St b b d X D w1 W L g) => h.add (by omega))
          have HCU := hid (fun (W : World) (g : Int → Bool) (h : St b b d X D w1 W L g) => h.cut (by omega))
          have HRD := hid (fun (W : World) (M : List (Int × Int)) (h : St b b d X D w1 W M f) => h.radd HDO.out)
          have HRC := hid (fun (W : World) (M : List (Int × Int)) (h : St b b d X D w1 W M f) => h.rcut HDO.out)
          have HSMA := hid (HSM.out.add HDO.out)
          have HSMC := hid (HSM.out.cut HDO.out)
          clear hal hcl
          rcases h4 with h4 | h4 | h4 | h4
          · go_upto_region 13 with (fail)
            have hS0 := HST.out.far (Below.refl _ _).drew
            refine wp_region_split (S := (fun W => W.cell? ⟨X, 1, none⟩ = some (.int .i64 D.a) ∧ W.cell? ⟨X, 2, none⟩ = some (.int .i64 D.b))) 12 (by kernel_rfl) (by kernel_rfl) ?_ (fun hHeld => ?_)
            · (first | (simp [go_sem, *]; done))
            simp only [List.take_succ_cons, List.take_zero, List.drop_succ_cons, List.drop_zero]
            refine wpAnyH_take (i := 0) (v := ?_) rfl (by kernel_rfl) (by kernel_rfl) (by kernel_rfl) (fun _ _ _ h => h) (Or.inl ⟨by rfl, ?_⟩) (by assumption) ?_
            rotate_left
            · intro w hSw; (try dsimp only at hSw); go_simp; try with_reducible rfl
            try simp only [put_simp]
            refine wpAnyH_take (i := 1) (v := ?_) rfl (by kernel_rfl) (by kernel_rfl) (by kernel_rfl) (fun _ _ _ h => h) (Or.inl ⟨by rfl, ?_⟩) (by assumption) ?_
            rotate_left
            · intro w hSw; (try dsimp only at hSw); go_simp; try with_reducible rfl
            try simp only [put_simp]
            refine wpAnyH_take (i := 2) (v := ?_) rfl (by kernel_rfl) (by kernel_rfl) (by kernel_rfl) (fun _ _ _ h => h) (Or.inl ⟨by rfl, ?_⟩) (by assumption) ?_
            rotate_left
            · intro w hSw; (try dsimp only at hSw); go_simp; try with_reducible rfl
            try simp only [put_simp]
            refine wpAnyH_take (i := 3) (v := ?_) rfl (by kernel_rfl) (by kernel_rfl) (by kernel_rfl) (fun _ _ _ h => h) (Or.inl ⟨by rfl, ?_⟩) (by assumption) ?_
            rotate_left
            · intro w hSw; (try dsimp only at hSw); go_simp; try with_reducible rfl
            try simp only [put_simp]
            refine wpAnyH_take (i := 4) (v := ?_) rfl (by kernel_rfl) (by kernel_rfl) (by kernel_rfl) (fun _ _ _ h => h) (Or.inl ⟨by rfl, ?_⟩) (by assumption) ?_
            rotate_left
            · intro w hSw; (try dsimp only at hSw); go_simp; try with_reducible rfl
            try simp only [put_simp]
            refine wpAnyH_take (i := 6) (v := ?_) rfl (by kernel_rfl) (by kernel_rfl) (by kernel_rfl) (fun _ _ _ h => h) (Or.inl ⟨by rfl, ?_⟩) (by assumption) ?_
            rotate_left
            · intro w hSw; (try dsimp only at hSw); go_simp; try with_reducible rfl
            try simp only [put_simp]
            refine wpAnyH_take (i := 7) (v := ?_) rfl (by kernel_rfl) (by kernel_rfl) (by kernel_rfl) (fun _ _ _ h => h) (Or.inl ⟨by rfl, ?_⟩) (by assumption) ?_
            rotate_left
            · intro w hSw; (try dsimp only at hSw); go_simp; try with_reducible rfl
            try simp only [put_simp]
            refine wpAnyH_take (i := 8) (v := ?_) rfl (by kernel_rfl) (by kernel_rfl) (by kernel_rfl) (fun _ _ _ h => h) (Or.inl ⟨by rfl, ?_⟩) (by assumption) ?_
            rotate_left
            · intro w hSw; (try dsimp only at hSw); go_simp; try with_reducible rfl
            try simp only [put_simp]
            refine wpAnyH_take (i := 9) (v := ?_) rfl (by kernel_rfl) (by kernel_rfl) (by kernel_rfl) (fun _ _ _ h => h) (Or.inl ⟨by rfl, ?_⟩) (by assumption) ?_
            rotate_left
            · intro w hSw; (try dsimp only at hSw); go_simp; try with_reducible rfl
            try simp only [put_simp]
            refine wpAnyH_take (i := 10) (v := ?_) rfl (by kernel_rfl) (by kernel_rfl) (by kernel_rfl) (fun _ _ _ h => h) (Or.inl ⟨by rfl, ?_⟩) (by assumption) ?_
            rotate_left
            · intro w hSw; (try dsimp only at hSw); go_simp; try with_reducible rfl
            try simp only [put_simp]
            refine wpAnyH_ready (rs := [5]) (by kernel_rfl) (by simp) ?_
            refine AllReadyH.cons rfl (fun K hK => ?_) ?_
            · go_simp; refine (HAD.out _ _ hS0).mono ?_; rintro _ w7 ⟨rfl, hS7⟩; obtain ⟨-, g71, g72⟩ := hS7.cells
              refine hK.out _ _ ?_ (fun hHeld => ?_)
              · (first | (simp [go_sem, *]; done))
              clear hK K
              try simp only [put_simp]
              refine wpAnyH_ready (rs := [11]) (by kernel_rfl) (by simp) ?_
              refine AllReadyH.cons rfl (fun K hK => ?_) ?_
              · go_simp; refine (HRD.out _ _ hS7).mono ?_; rintro _ w8 ⟨rfl, hS8⟩; obtain ⟨-, g81, g82⟩ := hS8.cells
                refine hK.out _ _ ?_ (fun hHeld => ?_)
                · (first | (simp [go_sem, *]; done))
                clear hK K
                try simp only [put_simp]
                refine wpAnyH_done (by kernel_rfl) ?_ _
                change wpList _ _ _ _ _ _
                have HS8 := hid hS8
                clear hS7 hS8 hS0
                go_wp2_with fail
                go_meet
                case rel => exact ⟨by simp, rfl, _, _, HS8, HSMA⟩
              exact AllReadyH.nil
            exact AllReadyH.nil
          · go_upto_region 13 with (fail)
            have hS0 := HST.out.far (Below.refl _ _).drew
            refine wp_region_split (S := (fun W => W.cell? ⟨X, 1, none⟩ = some (.int .i64 D.a) ∧ W.cell? ⟨X, 2, none⟩ = some (.int .i64 D.b))) 12 (by kernel_rfl) (by kernel_rfl) ?_ (fun hHeld => ?_)
            · (first | (simp [go_sem, *]; done))
            simp only [List.take_succ_cons, List.take_zero, List.drop_succ_cons, List.drop_zero]
            refine wpAnyH_take (i := 0) (v := ?_) rfl (by kernel_rfl) (by kernel_rfl) (by kernel_rfl) (fun _ _ _ h => h) (Or.inl ⟨by rfl, ?_⟩) (by assumption) ?_
            rotate_left
            · intro w hSw; (try dsimp only at hSw); go_simp; try with_reducible rfl
            try simp only [put_simp]
            refine wpAnyH_take (i := 1) (v := ?_) rfl (by kernel_rfl) (by kernel_rfl) (by kernel_rfl) (fun _ _ _ h => h) (Or.inl ⟨by rfl, ?_⟩) (by assumption) ?_
            rotate_left
            · intro w hSw; (try dsimp only at hSw); go_simp; try with_reducible rfl
            try simp only [put_simp]
            refine wpAnyH_take (i := 2) (v := ?_) rfl (by kernel_rfl) (by kernel_rfl) (by kernel_rfl) (fun _ _ _ h => h) (Or.inl ⟨by rfl, ?_⟩) (by assumption) ?_
            rotate_left
            · intro w hSw; (try dsimp only at hSw); go_simp; try with_reducible rfl
            try simp only [put_simp]
            refine wpAnyH_take (i := 3) (v := ?_) rfl (by kernel_rfl) (by kernel_rfl) (by kernel_rfl) (fun _ _ _ h => h) (Or.inl ⟨by rfl, ?_⟩) (by assumption) ?_
            rotate_left
            · intro w hSw; (try dsimp only at hSw); go_simp; try with_reducible rfl
            try simp only [put_simp]
            refine wpAnyH_take (i := 4) (v := ?_) rfl (by kernel_rfl) (by kernel_rfl) (by kernel_rfl) (fun _ _ _ h => h) (Or.inl ⟨by rfl, ?_⟩) (by assumption) ?_
            rotate_left
            · intro w hSw; (try dsimp only at hSw); go_simp; try with_reducible rfl
            try simp only [put_simp]
            refine wpAnyH_take (i := 6) (v := ?_) rfl (by kernel_rfl) (by kernel_rfl) (by kernel_rfl) (fun _ _ _ h => h) (Or.inl ⟨by rfl, ?_⟩) (by assumption) ?_
            rotate_left
            · intro w hSw; (try dsimp only at hSw); go_simp; try with_reducible rfl
            try simp only [put_simp]
            refine wpAnyH_take (i := 7) (v := ?_) rfl (by kernel_rfl) (by kernel_rfl) (by kernel_rfl) (fun _ _ _ h => h) (Or.inl ⟨by rfl, ?_⟩) (by assumption) ?_
            rotate_left
            · intro w hSw; (try dsimp only at hSw); go_simp; try with_reducible rfl
            try simp only [put_simp]
            refine wpAnyH_take (i := 8) (v := ?_) rfl (by kernel_rfl) (by kernel_rfl) (by kernel_rfl) (fun _ _ _ h => h) (Or.inl ⟨by rfl, ?_⟩) (by assumption) ?_
            rotate_left
            · intro w hSw; (try dsimp only at hSw); go_simp; try with_reducible rfl
            try simp only [put_simp]
            refine wpAnyH_take (i := 9) (v := ?_) rfl (by kernel_rfl) (by kernel_rfl) (by kernel_rfl) (fun _ _ _ h => h) (Or.inl ⟨by rfl, ?_⟩) (by assumption) ?_
            rotate_left
            · intro w hSw; (try dsimp only at hSw); go_simp; try with_reducible rfl
            try simp only [put_simp]
            refine wpAnyH_take (i := 10) (v := ?_) rfl (by kernel_rfl) (by kernel_rfl) (by kernel_rfl) (fun _ _ _ h => h) (Or.inl ⟨by rfl, ?_⟩) (by assumption) ?_
            rotate_left
            · intro w hSw; (try dsimp only at hSw); go_simp; try with_reducible rfl
            try simp only [put_simp]
            refine wpAnyH_ready (rs := [5]) (by kernel_rfl) (by simp) ?_
            refine AllReadyH.cons rfl (fun K hK => ?_) ?_
            · go_simp; refine (HAD.out _ _ hS0).mono ?_; rintro _ w7 ⟨rfl, hS7⟩; obtain ⟨-, g71, g72⟩ := hS7.cells
              refine hK.out _ _ ?_ (fun hHeld => ?_)
              · (first | (simp [go_sem, *]; done))
              clear hK K
              try simp only [put_simp]
              refine wpAnyH_ready (rs := [11]) (by kernel_rfl) (by simp) ?_
              refine AllReadyH.cons rfl (fun K hK => ?_) ?_
              · go_simp; refine (HRD.out _ _ hS7).mono ?_; rintro _ w8 ⟨rfl, hS8⟩; obtain ⟨-, g81, g82⟩ := hS8.cells
                refine hK.out _ _ ?_ (fun hHeld => ?_)
                · (first | (simp [go_sem, *]; done))
                clear hK K
                try simp only [put_simp]
                refine wpAnyH_done (by kernel_rfl) ?_ _
                change wpList _ _ _ _ _ _
                have HS8 := hid hS8
                clear hS7 hS8 hS0
                go_wp2_with fail
                go_meet
                case rel => exact ⟨by simp, rfl, _, _, HS8, HSMA⟩
              exact AllReadyH.nil
            exact AllReadyH.nil
          · go_upto_region 15 with (fail)
            have hS0 := HST.out.far (Below.refl _ _).drew
            refine wp_region_split (S := (fun W => W.cell? ⟨X, 1, none⟩ = some (.int .i64 D.a) ∧ W.cell? ⟨X, 2, none⟩ = some (.int .i64 D.b))) 12 (by kernel_rfl) (by kernel_rfl) ?_ (fun hHeld => ?_)
            · (first | (simp [go_sem, *]; done))
            simp only [List.take_succ_cons, List.take_zero, List.drop_succ_cons, List.drop_zero]
            refine wpAnyH_take (i := 0) (v := ?_) rfl (by kernel_rfl) (by kernel_rfl) (by kernel_rfl) (fun _ _ _ h => h) (Or.inl ⟨by rfl, ?_⟩) (by assumption) ?_
            rotate_left
            · intro w hSw; (try dsimp only at hSw); go_simp; try with_reducible rfl
            try simp only [put_simp]
            refine wpAnyH_take (i := 1) (v := ?_) rfl (by kernel_rfl) (by kernel_rfl) (by kernel_rfl) (fun _ _ _ h => h) (Or.inl ⟨by rfl, ?_⟩) (by assumption) ?_
            rotate_left
            · intro w hSw; (try dsimp only at hSw); go_simp; try with_reducible rfl
            try simp only [put_simp]
            refine wpAnyH_take (i := 2) (v := ?_) rfl (by kernel_rfl) (by kernel_rfl) (by kernel_rfl) (fun _ _ _ h => h) (Or.inl ⟨by rfl, ?_⟩) (by assumption) ?_
            rotate_left
            · intro w hSw; (try dsimp only at hSw); go_simp; try with_reducible rfl
            try simp only [put_simp]
            refine wpAnyH_take (i := 3) (v := ?_) rfl (by kernel_rfl) (by kernel_rfl) (by kernel_rfl) (fun _ _ _ h => h) (Or.inl ⟨by rfl, ?_⟩) (by assumption) ?_
            rotate_left
            · intro w hSw; (try dsimp only at hSw); go_simp; try with_reducible rfl
            try simp only [put_simp]
            refine wpAnyH_take (i := 4) (v := ?_) rfl (by kernel_rfl) (by kernel_rfl) (by kernel_rfl) (fun _ _ _ h => h) (Or.inl ⟨by rfl, ?_⟩) (by assumption) ?_
            rotate_left
            · intro w hSw; (try dsimp only at hSw); go_simp; try with_reducible rfl
            try simp only [put_simp]
            refine wpAnyH_take (i := 6) (v := ?_) rfl (by kernel_rfl) (by kernel_rfl) (by kernel_rfl) (fun _ _ _ h => h) (Or.inl ⟨by rfl, ?_⟩) (by assumption) ?_
            rotate_left
            · intro w hSw; (try dsimp only at hSw); go_simp; try with_reducible rfl
            try simp only [put_simp]
            refine wpAnyH_take (i := 7) (v := ?_) rfl (by kernel_rfl) (by kernel_rfl) (by kernel_rfl) (fun _ _ _ h => h) (Or.inl ⟨by rfl, ?_⟩) (by assumption) ?_
            rotate_left
            · intro w hSw; (try dsimp only at hSw); go_simp; try with_reducible rfl
            try simp only [put_simp]
            refine wpAnyH_take (i := 8) (v := ?_) rfl (by kernel_rfl) (by kernel_rfl) (by kernel_rfl) (fun _ _ _ h => h) (Or.inl ⟨by rfl, ?_⟩) (by assumption) ?_
            rotate_left
            · intro w hSw; (try dsimp only at hSw); go_simp; try with_reducible rfl
            try simp only [put_simp]
            refine wpAnyH_take (i := 9) (v := ?_) rfl (by kernel_rfl) (by kernel_rfl) (by kernel_rfl) (fun _ _ _ h => h) (Or.inl ⟨by rfl, ?_⟩) (by assumption) ?_
            rotate_left
            · intro w hSw; (try dsimp only at hSw); go_simp; try with_reducible rfl
            try simp only [put_simp]
            refine wpAnyH_take (i := 10) (v := ?_) rfl (by kernel_rfl) (by kernel_rfl) (by kernel_rfl) (fun _ _ _ h => h) (Or.inl ⟨by rfl, ?_⟩) (by assumption) ?_
            rotate_left
            · intro w hSw; (try dsimp only at hSw); go_simp; try with_reducible rfl
            try simp only [put_simp]
            refine wpAnyH_ready (rs := [5]) (by kernel_rfl) (by simp) ?_
            refine AllReadyH.cons rfl (fun K hK => ?_) ?_
            · go_simp; refine (HCU.out _ _ hS0).mono ?_; rintro _ w7 ⟨rfl, hS7⟩; obtain ⟨-, g71, g72⟩ := hS7.cells
              refine hK.out _ _ ?_ (fun hHeld => ?_)
              · (first | (simp [go_sem, *]; done))
              clear hK K
              try simp only [put_simp]
              refine wpAnyH_ready (rs := [11]) (by kernel_rfl) (by simp) ?_
              refine AllReadyH.cons rfl (fun K hK => ?_) ?_
              · go_simp; refine (HRC.out _ _ hS7).mono ?_; rintro _ w8 ⟨rfl, hS8⟩; obtain ⟨-, g81, g82⟩ := hS8.cells
                refine hK.out _ _ ?_ (fun hHeld => ?_)
                · (first | (simp [go_sem, *]; done))
                clear hK K
                try simp only [put_simp]
                refine wpAnyH_done (by kernel_rfl) ?_ _
                change wpList _ _ _ _ _ _
                have HS8 := hid hS8
                clear hS7 hS8 hS0
                go_wp2_with fail
                go_meet
                case rel => exact ⟨by simp, rfl, _, _, HS8, HSMC⟩
              exact AllReadyH.nil
            exact AllReadyH.nil
          · have HGP := hid (Gap_any HST.out.sp D.a D.b)
            have HRG := hid (fun (W : World) (hW : Below w3.heap.size w3 W) => RGap_any (HST.out.rf.far hW) D.a D.b HDO.out.1 HDO.out.2.2.2 HDO.out.2.1 HDO.out.2.2.1)
            have HGU := hid (fun (g : Int × Int × Bool) (hg : GapIs (fun x => f x = true) D.a D.b g) => HSM.out.gap hg)
            obtain ⟨⟨ga, gc, gk⟩, eg⟩ : ∃ g, gapV L D.a D.b = g := ⟨_, rfl⟩
            rw [eg] at HGP HGU
            clear eg
            go_upto_region 18 with (go_at_call 10; refine HGP.out.mono ?_; rintro _ _ ⟨rfl, x4, rfl⟩)
            go_upto_region 19 with (go_at_call 15; refine (HRG.out _ (w3.below_past x4)).mono ?_; rintro _ w6 ⟨gg, hgi, rfl, hb6⟩; have hgu := HGU.out gg hgi; have HS6 := hid ((HST.out.far (w3.below_past x4)).far hb6); subst hgu; clear hb6 hgi)
            cases gk
            all_goals
              go_wp2_with fail
              go_meet
              case rel => exact ⟨by simp, rfl, _, _, hid (HS6.out.far ((Below.refl _ _).alloc (Nat.le_refl _) _)), HSM⟩
        case rest =>
          obtain ⟨rfl, rfl, L2, f2, HST2, HSM2⟩ := hcut
          clear HST HSM e0 e1 e2 h4
          have hra := RAll_any HST2.out.rf
          rw [← HSM2.out.eq] at hra
          have HRA := hid hra
          clear hra
          go_upto_region 21 with (go_at_call 16; refine HRA.out.mono ?_; rintro _ w5 ⟨A5, c5, rfl, hb5, ho5⟩)
          have HST5 := hid (HST2.out.far hb5)
          have HAL := hid (fun W (hW : Below w5.heap.size w5 W) => all_any (HST5.out.sp.far hW) A5 c5 ((Cells.of_own ho5).below hW) 500 ⟨by omega, by omega⟩)
          have HLN := hid (fun W (hW : Below w5.heap.size w5 W) => Len_any (HST5.out.sp.far hW))
          have HHS := hid (fun W (hW : Below w5.heap.size w5 W) => Has_any (HST5.out.sp.far hW) x)
          have HRH := hid (fun W (hW : Below w5.heap.size w5 W) => RHas_any (HST5.out.rf.far hW) x HX.out)
          have hhs := HSM2.out.has x
          obtain ⟨z, ez⟩ : ∃ z, f2 x = z := ⟨_, rfl⟩
          rw [hhs, ez] at HHS
          rw [ez] at HRH
          clear hhs ez hb5 ho5 HRA
          obtain ⟨m, em⟩ : ∃ m, L2.length = m := ⟨_, rfl⟩
          rw [em] at HAL HLN ⊢
          clear em
          cases z
          all_goals
            go_wp2_with (first | (go_at_call 17; refine (HLN.out _ (by (repeat (first | exact Below.refl _ _ | refine RowKit.Below.past ?_ _ | refine RowKit.Below.alloc' ?_ _ | refine RowKit.Below.drew' ?_ | refine RowKit.Below.drewN' ?_ _ | refine RowKit.Below.setCell' ?_ (by simp [go_sem]) _)))).mono ?_; rintro _ _ ⟨rfl, x6, rfl⟩) | (go_at_call 18; refine (HAL.out _ (by (repeat (first | exact Below.refl _ _ | refine RowKit.Below.past ?_ _ | refine RowKit.Below.alloc' ?_ _ | refine RowKit.Below.drew' ?_ | refine RowKit.Below.drewN' ?_ _ | refine RowKit.Below.setCell' ?_ (by simp [go_sem]) _)))).mono ?_; rintro _ _ ⟨rfl, x7, rfl⟩) | (go_at_call 11; refine (HHS.out _ (by (repeat (first | exact Below.refl _ _ | refine RowKit.Below.past ?_ _ | refine RowKit.Below.alloc' ?_ _ | refine RowKit.Below.drew' ?_ | refine RowKit.Below.drewN' ?_ _ | refine RowKit.Below.setCell' ?_ (by simp [go_sem]) _)))).mono ?_; rintro _ _ ⟨rfl, x8, rfl⟩) | (go_at_call 19; refine (HRH.out _ (by (repeat (first | exact Below.refl _ _ | refine RowKit.Below.past ?_ _ | refine RowKit.Below.alloc' ?_ _ | refine RowKit.Below.drew' ?_ | refine RowKit.Below.drewN' ?_ _ | refine RowKit.Below.setCell' ?_ (by simp [go_sem]) _)))).mono ?_; rintro _ w9 ⟨rfl, h9⟩; rw [h9]; clear h9 w9))
            go_roundw
            case rel => exact ⟨k + 1, L2, f2, by go_num, by omega, hid (HST5.out.sp.far (w5.below_past _)), hid (HST5.out.rf.far (w5.below_past _)), HSM2, hid (HST5.out.far (w5.below_past _)).below⟩
            case measure => simp [natI]; omega
      · obtain rfl : k = n := by omega
        have hra := RAll_any HR.out
        rw [← HSM.out.eq] at hra
        have HRA := hid hra
        clear hra
        have hlb := HS.out.lt
        obtain ⟨m, em⟩ : ∃ m, L.length = m := ⟨_, rfl⟩
        have EM := hid em
        rw [em] at HRA
        clear em
        have ew : IntKind.i64.wrap y = y := by rw [IntKind.wrap_i64]; omega
        go_wp2_with (first | (go_at_call 16; refine HRA.out.mono ?_; rintro _ w5 ⟨A5, c5, rfl, hb5, ho5⟩; have HAL := hid (all_any (HS.out.far hb5) A5 c5 (Cells.of_own ho5) y ⟨by omega, by omega⟩); rw [EM.out] at HAL; have HBF := hid (HBW.out.trans (hb5.mono HBW.out.size)); clear hb5 ho5) | (go_at_call 18; refine HAL.out.mono ?_; rintro _ _ ⟨rfl, x7, rfl⟩))
        go_ret
        exact Gives.mk rfl (HBF.out.trans ((World.below_past _ _).mono HBF.out.size))
  · clear en hn
    rw [hf] at HFW
    clear hf
    go_enter Try.func4, Try.ntmps4
    go_wp2_with (first | (refine HAW.out.mono ?_; rintro _ _ ⟨rfl, x0, rfl⟩) | (go_at_call 7; refine (HFW.out _ (by (repeat (first | exact Below.refl _ _ | refine RowKit.Below.past ?_ _ | refine RowKit.Below.alloc' ?_ _ | refine RowKit.Below.drew' ?_ | refine RowKit.Below.drewN' ?_ _ | refine RowKit.Below.setCell' ?_ (by simp [go_sem]) _)))).mono ?_; rintro _ _ ⟨rfl, x1, rfl⟩))
    go_ret
    exact Gives.mk rfl (by (repeat (first | exact Below.refl _ _ | refine RowKit.Below.past ?_ _ | refine RowKit.Below.alloc' ?_ _ | refine RowKit.Below.drew' ?_ | refine RowKit.Below.drewN' ?_ _ | refine RowKit.Below.setCell' ?_ (by simp [go_sem]) _)))
theorem spanRuns_own : ownKnob Try.prog.godebug = none := by kernel_rfl
theorem spanRuns_laidOut : laidOutB Try.prog = true := by kernel_rfl
theorem spanRuns_types : ∀ t ∈ Try.f4.params.toList, Try.prog.readableRec t = true ∧ t < Try.prog.types.size := by
  rw [Try.params4]
  intro t ht
  simp only [List.mem_cons, List.not_mem_nil, or_false] at ht
  rcases ht with rfl | rfl | rfl
  · exact ⟨by kernel_rfl, of_decide_eq_true (by kernel_rfl)⟩
  · exact ⟨by kernel_rfl, of_decide_eq_true (by kernel_rfl)⟩
  · exact ⟨by kernel_rfl, of_decide_eq_true (by kernel_rfl)⟩
set_option maxRecDepth 100000 in
theorem spanRuns_lifted (os : Os) (started : os.Started) (H : Type) (enc : TypeId × Value → H) :
    ReturnsInHanded {} Try.checked os 4 .any (Rows.spanRunsSpec.pre6 enc Try.prog Try.f4 Rows.spanRunsRow.domain false) (Rows.spanRunsSpec.post enc Try.prog Try.f4 false true false false) := by
  refine returnsInHanded_of_change (C := Try.checked) spanRuns_own started (by kernel_rfl) Try.func4
    (ChangeSpec.witness6 (enc := enc) (C := Try.checked) false ⟨#[], #[.slice none 0 0, .int .i64 0, .int .u8 0], []⟩ 8 (by kernel_rfl) (by kernel_rfl) (by kernel_rfl) (by kernel_rfl)) ?_
  intro W base args ds gs before hval0 hW hcnd _
  have hval : ∀ (j : Nat) t v, Try.f4.params[j]? = some t → args[j]? = some v → Value.okWide Try.prog W .any base t v := hval0
  have hW' := hW
  obtain ⟨p, q, hA0, hV, hpq, hfz, hnd⟩ := hW
  have hA : DataW.TrodAll enc Try.prog W 0 (fun _ => true) true Try.f4.params.toList args.toList ds p := hA0
  rw [Try.params4] at hA hval
  obtain ⟨v0, vs0, d0, ds0, p0, q0, hargs, rfl, rfl, h0, r0⟩ := trodAll_cons hA
  obtain ⟨v1, vs1, d1, ds1, p1, q1, rfl, rfl, rfl, h1, r1⟩ := trodAll_cons r0
  obtain ⟨v2, vs2, d2, ds2, p2, q2, rfl, rfl, rfl, h2, r2⟩ := trodAll_cons r1
  obtain ⟨rfl, rfl, rfl⟩ := trodAll_nil r2
  obtain rfl : args = #[v0, v1, v2] := by cases args; simp_all
  have k0 := hval 0 22 v0 rfl rfl
  have k1 := hval 1 3 v1 rfl rfl
  have k2 := hval 2 5 v2 rfl rfl
  clear hA0 hval0 hval hcnd hfz hnd hpq hV hargs r2
  suffices hs : Calls Try.prog 4 #[v0, v1, v2] W (Gives (.bool true) W) from hs.mono fun e W' ⟨he, x, hx⟩ => ⟨_, he, law_post spanRuns_laidOut hW' rfl rfl (by kernel_rfl) (by first | exact Try.underlying4 | rfl) spanRuns_types (hx ▸ W.below_past x)⟩
  clear hW'
  obtain ⟨A, ca, l, rfl, ha, hkl, hl, _⟩ := rd_tabC (f := ddV) (c := 3) (K := fun x => 0 ≤ x.k ∧ x.k < 256) ddV_length (by omega) (rd_slice Try.underlying22 k0 h0) Try.underlying22 c_deed3 (fun _ h => by obtain ⟨x, e, hk, _⟩ := rd_deed h; exact ⟨x, e, hk⟩)
  obtain ⟨p, rfl, _, _, hp⟩ := open_int Try.underlying3 k1 h1
  obtain ⟨q, rfl, _, _, hq⟩ := open_int Try.underlying5 k2 h2
  exact SpanRuns_any A ca _ l rfl hl (fun k hk => hkl _ (by unfold dd; rw [List.getElem?_eq_getElem hk]; exact List.getElem_mem _)) p (i64_of hp) q (u8_of hq) W ha
theorem spanRuns_holds : Rows.SpanRunsSaid :=
  OpenClaim.holds_of_wide 4 Try.f4 rfl rfl rfl rfl rfl rfl rfl ⟨rfl, rfl, rfl, rfl, rfl⟩ rfl rfl rfl rfl rfl (by kernel_rfl) Try.func4 (by kernel_rfl)
    (of_decide_eq_true (by kernel_rfl)) (by unfold Func.isWrapper; first | (rw [if_pos (by decide +kernel)]; kernel_rfl) | (rw [if_neg (by decide +kernel)]; exact ⟨rfl, rfl⟩))
    (fun os started H enc _ => spanRuns_lifted os started H enc)
end Go.Proofs.Ytjihhpipdhhjkaa
