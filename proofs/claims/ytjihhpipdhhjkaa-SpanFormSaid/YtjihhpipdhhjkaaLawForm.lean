/-
  Layer 33's SpanForm: in its one form no spans meet; it hangs on what is in it alone, not on how it came. No condition.
-/
import Derived.Test.YtjihhpipdhhjkaaSpTw
import Derived.Test.YtjihhpipdhhjkaaPushIn
import Derived.Test.YtjihhpipdhhjkaaRegLast
import Derived.Deep.CutRange
import Derived.StillTailTactics
namespace Go.Proofs.Ytjihhpipdhhjkaa
open Go.RowKit Go.Shelf Go.ChangeShapes Go.WideShapes Go.ChangeAt
attribute [local go_sem] Oper.semAt_some
theorem own_kept {X : Nat → Prop} {B e : Nat} {s n : Nat} {v : Value} {xs : List Value} {w w' : World} (h : w.ownsRow B e s v n xs) (hos : ∀ k, k < w.heap.size → ¬ X k → w'.heap[k]? = w.heap[k]?) (hn : ∀ g, v.ownBlock = some g → ¬ X g) : w'.ownsRow B e s v n xs := by
  refine ⟨h.1, ?_⟩
  rcases h.2 with h1 | ⟨g, cap, cur, hv, hg, hh, hr⟩
  · exact .inl h1
  · exact .inr ⟨g, cap, cur, hv, hg, (hos g (Array.getElem?_eq_some_iff.1 hh).1 (hn g (by rw [hv]; rfl))).trans hh, hr⟩
/-- Between two rounds of the loop over the spans. -/
structure FoI (w5 : World) (K : Nat) (M : Nat → Prop) (out : List (Int × Int)) (U : World) : Prop where
  mr : ∀ k, M k → w5.heap.size + 2 ≤ k
  bel : Below K w5 U
  row : ∃ v, Boxed U K 42 v ∧ U.ownsRow (w5.heap.size + 2) 39 2 v out.length (tab pcV out) ∧ ∀ g, v.ownBlock = some g → ¬ M g
  la : Boxed U (K + 1) 3 (.int .i64 (if out = [] then 0 else (pc out (out.length - 1)).2))
  nn : Boxed U (K + 2) 3 (.int .i64 (out.length : Int))
theorem FoI.far {w5 : World} {K : Nat} {M M' X : Nat → Prop} {out : List (Int × Int)} {A U : World} (h : FoI w5 K M out A) (hw : K + 3 ≤ w5.heap.size) (hk : KS X A U) (hX : ∀ k, X k → K + 3 ≤ k ∧ (M k ∨ k < w5.heap.size + 2)) (hM : ∀ k, M' k → M k ∨ A.heap.size ≤ k) (hr : ∀ k, M' k → w5.heap.size + 2 ≤ k) : FoI w5 K M' out U := by
  obtain ⟨v, h1, h2, h3⟩ := h.row
  have nx : ∀ k, k < K + 3 → ¬ X k := fun k hk hx => by have := (hX k hx).1; omega
  refine ⟨hr, h.bel.trans (hk.under (fun k hx => by have := (hX k hx).1; omega) (by have := h.bel.size; omega)), ⟨v, hk.boxed (nx _ (by omega)) h1, own_kept (X := X) h2 hk.block (fun g hg hx => ?_), fun g hg hm => ?_⟩, hk.boxed (nx _ (by omega)) h.la, hk.boxed (nx _ (by omega)) h.nn⟩
  · rcases (hX g hx).2 with h4 | h4
    · exact h3 g hg h4
    · have := (h2.lt g hg).1; omega
  · rcases hM g hm with h4 | h4
    · exact h3 g hg h4
    · have := (h2.lt g hg).2; omega
set_option maxRecDepth 100000 in
set_option maxHeartbeats 8000000 in
theorem SpanForm_any (A : Option Addr) (ca n : Nat) (l : List (Int × Int)) (en : l.length = n) (hn : n ≤ maxLen) (w : World) (ha : Cells w A (tab pcV l)) :
    Calls Try.prog 5 #[.slice A n ca] w (Gives (.bool true) w) := by
  obtain ⟨i0, hi, hz0, hz1, hz2⟩ := info_parts info_sp
  have HI := hid hi
  have HA := hid ha
  have EN := hid en
  obtain ⟨R, eR⟩ : ∃ R, w.heap.size = R := ⟨_, rfl⟩
  have hwR : w.heap.size ≤ R := by rw [eR]; exact Nat.le_refl _
  obtain ⟨w0, ew0⟩ : ∃ W, W = w.alloc (.cells #[.bool false] 4) := ⟨_, rfl⟩
  have bR0 : Boxed w0 R 4 (.bool false) := by rw [ew0, ← eR]; exact Boxed.new w _ _
  have hb0 : Below w.heap.size w w0 := by rw [ew0]; exact (Below.refl _ w).alloc (Nat.le_refl _) _
  have HBR0 := hid bR0
  have HB0 := hid hb0
  have HAW := hid (awake_any w0)
  have EW0 := hid ew0
  have ER := hid eR
  clear ew0 bR0 hb0 hi ha en eR
  by_cases h60 : 60 < n
  · clear HA EN
    go_enter Try.func5, Try.ntmps5
    go_upto_region 1 with (fail)
    rw [← EW0.out, ER.out]
    go_upto_region 3 with (refine HAW.out.mono ?_; rintro _ _ ⟨rfl, x0, rfl⟩)
    obtain ⟨w1, ew1⟩ : ∃ W, W = w0.past x0 := ⟨_, rfl⟩
    have hb01 : Below w0.heap.size w0 w1 := by rw [ew1]; exact w0.below_past _
    have bR1 : Boxed w1 R 4 (.bool false) := (hb01.block _ HBR0.out.lt).trans HBR0.out
    have hb1 := HB0.out.trans (hb01.mono HB0.out.size)
    have c0 := bR1.cell
    have f0 := bR1.frozen
    have l0 := bR1.lt
    have q9 := (bR1.set (.bool true)).cell
    rw [← ew1]
    clear ew1 hb01 bR1
    go_wp2_with fail
    refine bodyPost_ret (v := .bool true) ?_ rfl ?_
    · simp [results, Try.results5, go_sem, q9]
    · exact Gives.mk rfl (hb1.setCell (p := ⟨R, 0, none⟩) hwR _)
  · have hn60 : n ≤ 60 := by omega
    clear h60 hn
    refine (callsIn_wide (n := 5)).1 ?_
    refine callsIn_of_wp_marks Try.func5 rfl trivial ?_ rfl
    refine wpIn_wide.2 ?_
    simp only [Try.ntmps5, List.size_toArray, List.length_cons, List.length_nil, Nat.reduceAdd, Nat.reduceSub, Array.replicate_succ, Array.replicate_zero, List.push_toArray, List.append_toArray, List.nil_append, List.cons_append]
    go_upto_region 1 with (fail)
    rw [← EW0.out, ER.out]
    go_upto_region 5 with (refine HAW.out.mono ?_; rintro _ _ ⟨rfl, x0, rfl⟩)
    obtain ⟨w1, ew1⟩ : ∃ W, W = w0.past x0 := ⟨_, rfl⟩
    have hb01 : Below w0.heap.size w0 w1 := by rw [ew1]; exact w0.below_past _
    have HBR1 := hid (show Boxed w1 R 4 (.bool false) from (hb01.block _ HBR0.out.lt).trans HBR0.out)
    have HB1 := hid (HB0.out.trans (hb01.mono HB0.out.size))
    rw [← ew1]
    clear ew1 hb01 HBR0 HB0 HAW EW0
    go_wp2_with fail
    refine (New_any w1).mono ?_
    rintro _ w2 ⟨rfl, h2, hb2⟩
    obtain ⟨b1, eb1⟩ : ∃ b, w1.heap.size = b := ⟨_, rfl⟩
    rw [eb1] at h2 hb2 ⊢
    have HS2 := hid h2
    have HB2 := hid hb2
    clear h2 hb2
    go_wp2_with fail
    refine (New_any w2).mono ?_
    rintro _ w3 ⟨rfl, h3, hb3⟩
    have hlt := HS2.out.lt
    have HTW := hid (show Tw b1 w2.heap.size w1 w3 [] [] from ⟨HS2.out.far hb3, h3, HB2.out.trans (hb3.mono (by omega)), hlt, by rw [eb1]; exact Nat.le_refl _⟩)
    obtain ⟨b2, eb2⟩ : ∃ b, w2.heap.size = b := ⟨_, rfl⟩
    rw [eb2] at HTW ⊢
    have hRb : R < b1 := by rw [← eb1]; exact HBR1.out.lt
    have hwb : w.heap.size ≤ b1 := by rw [← eb1]; exact HB1.out.size
    clear h3 hb3 hlt HS2 HB2 eb2 eb1
    go_wp2_with fail
    go_loopw [5, 6, 7, 26] (fun _ _ _ i wr => ∃ (k : Nat) (L1 L2 : List (Int × Int)), i = .int .i64 (k : Int) ∧ k ≤ n ∧ Hid (Tw b1 b2 w1 wr L1 L2) ∧ Hid (Fm l (fun j => j < k) k L1) ∧ Hid (Fm l (fun j => n - k ≤ j ∧ j < n) k L2)) (fun _ _ _ i _ => n - natI i)
    case atStart => exact ⟨0, [], [], rfl, by omega, HTW, hid (Fm.nil l (fun j h => by omega)), hid (Fm.nil l (fun j h => by omega))⟩
    case round =>
      clear HTW
      obtain ⟨k, L1, L2, rfl, hk, HT, HF1, HF2⟩ := hrel
      have HBW := hid (HB1.out.trans (HT.out.below.mono hwb))
      by_cases hlt : k < n
      · obtain ⟨g, o, rfl, c0, c1⟩ := pc_at (HA.out.below HBW.out) (k := k) (by rw [EN.out]; exact hlt)
        have HPC := hid (fun (W : World) (hW : Below w.heap.size w W) => pc_at (HA.out.below hW) (k := n - 1 - k) (by rw [EN.out]; omega))
        have HN1 := hid (HF1.out.add (p' := fun j => j < k + 1) (j := k) (fun i => by omega))
        have HN2 := hid (HF2.out.add (p' := fun j => n - (k + 1) ≤ j ∧ j < n) (j := n - 1 - k) (fun i => by omega))
        obtain ⟨x, ex⟩ : ∃ x, pc l k = x := ⟨_, rfl⟩
        obtain ⟨y, ey⟩ : ∃ x, pc l (n - 1 - k) = x := ⟨_, rfl⟩
        rw [ex] at c0 c1 HN1
        rw [ey] at HPC HN2
        have HAD1 := hid (fun (W : World) (M : List (Int × Int)) (h : Tw b1 b2 w1 W L1 M) => h.add1 x.1 x.2 (by have := HN1.out.len; omega))
        have HAD2 := hid (fun (W : World) (M : List (Int × Int)) (h : Tw b1 b2 w1 W M L2) => h.add2 y.1 y.2 (by have := HN2.out.len; omega))
        have hnk : n - 1 - k < n := by omega
        have hsub : (n : Int) - 1 - (k : Int) = ((n - 1 - k : Nat) : Int) := by omega
        clear ex ey
        go_upto_region 10 with (go_at_call 9; (refine (HAD1.out _ _ (HT.out.far ((Below.refl _ _).alloc (Nat.le_refl _) _))).mono ?_); rintro _ w5 ⟨rfl, h5⟩)
        have HT5 := hid h5
        obtain ⟨g2, o2, e2, d0, d1⟩ := HPC.out w5 (HB1.out.trans (h5.below.mono hwb))
        injection e2 with e2
        injection e2 with e2 e3 _
        subst e2; subst e3
        clear h5 HPC c0 c1
        go_wp2_with (go_at_call 9; (refine (HAD2.out _ _ (HT5.out.far ((Below.refl _ _).alloc (Nat.le_refl _) _))).mono ?_); rintro _ w6 ⟨rfl, h6⟩; have HT6 := hid h6; clear h6)
        go_roundw
        case rel => exact ⟨k + 1, _, _, by go_num, by omega, HT6, HN1, HN2⟩
        case measure => simp [natI]; omega
      · obtain rfl : k = n := by omega
        have hLL : L1 = L2 := HF1.out.uniq HF2.out (fun i => by omega)
        subst hLL
        have bR9 : Boxed wr R 4 (.bool false) := (HT.out.below.block _ hRb).trans HBR1.out
        have HBR9 := hid bR9
        obtain ⟨K, eK⟩ : ∃ K, wr.heap.size = K := ⟨_, rfl⟩
        obtain ⟨w4, ew4⟩ : ∃ w4, w4 = (((wr.alloc (.cells #[.slice none 0 0] 42)).alloc (.cells #[.int .i64 0] 3)).alloc (.cells #[.int .i64 0] 3)) := ⟨_, rfl⟩
        have hb4 : Below wr.heap.size wr w4 := by rw [ew4]; exact (((Below.refl _ wr).alloc (Nat.le_refl _) _).alloc (by simp) _).alloc (by simp; omega) _
        have hs4 : w4.heap.size = K + 3 := by rw [ew4]; simp; omega
        have bS4 : Boxed w4 K 42 (.slice none 0 0) := by rw [ew4, ← eK]; exact ((Boxed.new wr _ _).alloc _).alloc _
        have bL4 : Boxed w4 (K + 1) 3 (.int .i64 0) := by
          rw [ew4, ← eK]
          have := Boxed.new (wr.alloc (.cells #[.slice none 0 0] 42)) 3 (.int .i64 0)
          rw [World.size_alloc] at this
          exact this.alloc _
        have bN4 : Boxed w4 (K + 2) 3 (.int .i64 0) := by
          rw [ew4, ← eK]
          have := Boxed.new ((wr.alloc (.cells #[.slice none 0 0] 42)).alloc (.cells #[.int .i64 0] 3)) 3 (.int .i64 0)
          rwa [World.size_alloc, World.size_alloc] at this
        have EW4 := hid ew4
        have HT4 := hid (HT.out.far hb4)
        have HX4 := hid (And.intro bS4 (And.intro bL4 (And.intro bN4 ((hb4.block _ bR9.lt).trans bR9 : Boxed w4 R 4 (.bool false)))))
        have HBW4 := hid (HBW.out.trans (hb4.mono HBW.out.size))
        have hRK : R < K := by rw [← eK]; exact bR9.lt
        have hwK : w.heap.size ≤ K := by rw [← eK]; exact HBW.out.size
        have hbK1 : b1 < K := by rw [← eK]; exact HT.out.a.lt
        have hbK2 : b2 < K := by rw [← eK]; exact HT.out.c.lt
        have EK := hid eK
        have HBK4 := hid hb4
        clear ew4 hb4 bS4 bL4 bN4 bR9 HBR9 eK HBW
        go_upto_region 15 with (fail)
        rw [← EW4.out, EK.out]
        go_wp2_with fail
        refine (All_any (some ⟨b1, 0, none⟩) w4).mono ?_
        rintro _ w5 ⟨rfl, hb5, hs5, hx5⟩
        rw [hs4] at hs5 hx5 ⊢
        rw [show K + 1 + 1 = K + 2 from rfl]
        have hx4 := HX4.out
        have bS5 : Boxed w5 K 42 (.slice none 0 0) := (hb5.block _ (by omega)).trans hx4.1
        have bL5 : Boxed w5 (K + 1) 3 (.int .i64 0) := (hb5.block _ (by omega)).trans hx4.2.1
        have bN5 : Boxed w5 (K + 2) 3 (.int .i64 0) := (hb5.block _ (by omega)).trans hx4.2.2.1
        have bR5 : Boxed w5 R 4 (.bool false) := (hb5.block _ (by omega)).trans hx4.2.2.2
        have HBR5 := hid bR5
        have HT5 := hid (HT4.out.far hb5)
        have HB5 := hid (HBW4.out.trans (hb5.mono HBW4.out.size))
        obtain ⟨T, eT⟩ : ∃ T : Nat → Prop, T = fun k => k = K ∨ k = K + 1 ∨ k = K + 2 := ⟨_, rfl⟩
        have hT0 : T K := by rw [eT]; exact .inl rfl
        have hT1 : T (K + 1) := by rw [eT]; exact .inr (.inl rfl)
        have hT2 : T (K + 2) := by rw [eT]; exact .inr (.inr rfl)
        have hTw : ∀ k, T k → k < w5.heap.size := by rw [eT]; rintro k (rfl | rfl | rfl) <;> omega
        have hTK : ∀ k, T k → K ≤ k := by rw [eT]; rintro k (rfl | rfl | rfl) <;> omega
        have hTx : ¬ T (K + 3) := by rw [eT]; rintro (h | h | h) <;> omega
        have HBK := hid (HBK4.out.trans (hb5.mono HBK4.out.size))
        obtain ⟨As, cs, hsee⟩ := HT.out.a.seen
        obtain ⟨m, em⟩ : ∃ m, L1.length = m := ⟨_, rfl⟩
        have hm100 : m ≤ 100000 := by rw [← em]; exact HT.out.a.len
        rw [em] at hsee
        have HSEE2 := hid (fun W (hk : KS (fun k => T k ∨ w5.heap.size ≤ k) w5 W) => (show W.cell? ⟨b1, 0, none⟩ = some (.slice As m cs) ∧ Cells W As (tab pcV L1) by
          exact hsee W (HBK.out.trans (hk.under (fun k h => by rw [EK.out]; rcases h with h | h; exact hTK k h; omega) HBK.out.size))))
        have hseq := all_seqJ (5 - 1) (by omega) w5 (K + 3) b1 m cs As L1 em T hx5 hTx hm100 HSEE2.out (m + 1)
        have HSEQ := hid hseq
        have EM := hid em
        have HI0 : Hid (FoI w5 K (fun _ => False) [] w5) := hid ⟨fun _ h => h.elim, Below.refl _ _, ⟨_, bS5, World.ownsRow_nil _ _ _ _, fun g hg => by simp [Value.ownBlock] at hg⟩, bL5, bN5⟩
        have hGD := HF1.out.good
        have hK4 : K + 4 ≤ w5.heap.size := by omega
        have HGD := hid hGD
        clear hseq hx5 hb5 eT bS5 bL5 bN5 bR5 hx4 HX4 hs4 hs5 em hGD hsee HT4 HBW4 HF1 HF2 EW4
        have hX7 : ∀ {M : Nat → Prop}, (∀ k, M k → w5.heap.size + 2 ≤ k) → ∀ q, (M q ∨ q = w5.heap.size ∨ q = w5.heap.size + 1) → K + 3 ≤ q ∧ (M q ∨ q < w5.heap.size + 2) := fun hm q hq => by
          rcases hq with hq | hq | hq
          · have := hm q hq; exact ⟨by omega, .inl hq⟩
          · exact ⟨by omega, .inr (by omega)⟩
          · exact ⟨by omega, .inr (by omega)⟩
        go_wp2_with fail
        refine (wpIn_wide (n := 5)).1 ?_
        apply wpIn_rangeFunc_J rfl (by omega) (gf := 30) (lb := #[.pointer (some ⟨K + 3, 0, none⟩)]) rfl trivial (enters_of Try.func30 (by kernel_rfl) rfl) HSEQ.out hTw (KS.refl _ _) (fun _ => rfl)
          (fun M pre U => FoI w5 K M pre U ∧ pre <+: L1)
          (fun _ _ _ _ => False)
          (fun M M' s A' U hr hg h hk => ⟨h.1.far (by omega) hk (hX7 h.1.mr) hg hr, h.2⟩)
          (fun _ _ _ _ _ _ _ _ h _ => h)
          (fun M s A' h => by have := h.2.length_le; have := EM.out; omega)
          (fun M U hm hb hs => ⟨HI0.out.far (X := fun _ => False) (by omega) (KS.of_below hb) (fun _ h => h.elim) (fun k h => .inr (by have := (hm k h).1; omega)) (fun k h => (hm k h).1), List.nil_prefix⟩)
          _ ?assign ?body ?done ?stop
        case assign =>
          intro lq x W K' hK
          simp only [encP]
          gi_wp2
          exact hK
        case stop =>
          rintro D c M pre W hD hSp h hKD
          exact h.elim
        case done =>
          rintro D M pre W hD hS ⟨hJ, -⟩ hKD
          subst hS
          subst hD
          obtain ⟨v, hv, hrow, -⟩ := hJ.row
          obtain ⟨A9, c9, rfl⟩ := own_shape hrow
          have hn9 := hJ.nn
          rw [EM.out] at hv hrow hn9
          have hBK9 := HBK.out.trans (hJ.bel.mono (by rw [EK.out]; exact Nat.le_refl _))
          have bR9 : Boxed W R 4 (.bool false) := (hJ.bel.block _ hRK).trans HBR5.out
          have HT9 := hid (HT.out.far hBK9)
          have HW9 := hid (HB5.out.trans (hJ.bel.mono hwK))
          have HC9 := hid (Cells.of_own hrow)
          have HX9 := hid (And.intro hv (And.intro hn9 bR9))
          have HKD := hid hKD
          have hD9 : w5.heap.size < W.heap.size := (Array.getElem?_eq_some_iff.1 hKD).1
          have hR9 : R < W.heap.size := bR9.lt
          clear hJ hv hrow hn9 hBK9 bR9 hKD HSEQ HI0 hX7 hTw hTK hTx hT0 hT1 hT2 HSEE2 HT5
          go_upto_region 25 with (go_at_call 10; refine (Gap_nil 0 1 (by decide) _).mono ?_; rintro _ _ ⟨rfl, x4, rfl⟩)
          go_wp2_with fail
          refine (All_any none (W.past x4)).mono ?_
          rintro _ w7 ⟨rfl, hb7, hs7, hx7⟩
          obtain ⟨G, eG⟩ : ∃ G, (W.past x4).heap.size = G := ⟨_, rfl⟩
          have hb79 : Below W.heap.size W w7 := (W.below_past x4).trans (hb7.mono (by simp [World.size_past]))
          have hWG : W.heap.size ≤ G := by rw [← eG]; simp [World.size_past]
          rw [eG] at hs7 hx7 ⊢
          have HB7 := hid hb79
          have hseq2 := all_nil_seq (5 - 1) (by omega) w7 G (fun _ => False) hx7 (fun h => h)
          have HSEQ2 := hid hseq2
          have hG7 : W.heap.size < w7.heap.size := by omega
          clear hb7 hs7 hx7 eG hb79 hseq2
          go_wp2_with fail
          refine (wpIn_wide (n := 5)).1 ?_
          apply wpIn_rangeFunc_E rfl (by omega) (gf := 30) (lb := #[.pointer (some ⟨G, 0, none⟩)]) rfl trivial (enters_of Try.func30 (by kernel_rfl) rfl) HSEQ2.out (fun _ h => h.elim) (KS.refl _ _) (fun _ => rfl)
            (fun _ U => KS (fun _ => False) w7 U)
            (fun _ _ _ => False)
            (fun _ _ _ h hb => h.far hb)
            (fun _ _ _ _ h _ => h)
            (KS.refl _ _)
            _ ?assign1 ?body1 ?done1 ?stop1
          case assign1 =>
            intro lq x W K' hK
            simp only [encP]
            gi_wp2
            exact hK
          case body1 =>
            rintro lq pre2 x U hsW hJ hlen hsp
            exact hsp.elim
          case stop1 =>
            rintro D c pre2 U hD hSp h hK
            exact h.elim
          case done1 =>
            rintro D2 pre2 U hD2 - hJ2 hKD2
            have hbU : Below w7.heap.size w7 U := hJ2.under (fun _ h => h.elim) (Nat.le_refl _)
            have hbWU : Below W.heap.size W U := HB7.out.trans (hbU.mono HB7.out.size)
            have HT10 := hid (HT9.out.far hbWU)
            have hx9 := HX9.out
            have bS : Boxed U K 42 _ := (hbWU.block _ hx9.1.lt).trans hx9.1
            have bN : Boxed U (K + 2) 3 _ := (hbWU.block _ hx9.2.1.lt).trans hx9.2.1
            have bR : Boxed U R 4 _ := (hbWU.block _ hx9.2.2.lt).trans hx9.2.2
            have z1 : U.heap[w5.heap.size]? = some (.deferred (some [])) := (hbWU.block _ hD9).trans HKD.out
            have HW10 := hid (HW9.out.trans (hbWU.mono HW9.out.size))
            have HAL := hid (fun (x : Past) => (show Calls Try.prog 18 #[.pointer (some ⟨b2, 0, none⟩), .slice A9 m c9, .int .i64 500] (U.past x) (Gives (.bool true) (U.past x)) by
              have := all_any (HT10.out.c.far (U.below_past x)) A9 c9 (HC9.out.below (hbWU.trans ((U.below_past x).mono hbWU.size))) 500 ⟨by omega, by omega⟩
              rwa [EM.out] at this))
            have HLN := hid (fun (x : Past) => (show Calls Try.prog 17 #[.pointer (some ⟨b1, 0, none⟩)] (U.past x) (Gives (.int .i64 (m : Int)) (U.past x)) by
              have := Len_any (HT10.out.a.far (U.below_past x))
              rw [EM.out] at this
              exact this.mono fun _ _ q => by obtain ⟨rfl, rfl⟩ := q; exact Gives.mk rfl (Below.refl _ _)))
            have qS := bS.cell
            have qN := bN.cell
            have HBR := hid bR
            have HZ1 := hid z1
            have HKD2 := hid hKD2
            have hD2U : D2 < U.heap.size := (Array.getElem?_eq_some_iff.1 hKD2).1
            have hD92 : w5.heap.size < D2 := by omega
            clear hbU hbWU hx9 bS bN bR z1 hKD2 hJ2 HSEQ2 HX9 HC9 HT9 HT10
            go_upto_region 27 with (fail)
            refine wp_region_last (C := fun w' => ∃ x : Past, w' = U.past x) 33 [] (by kernel_rfl) (by kernel_rfl) (by kernel_rfl) rfl (by kernel_rfl) (.inl rfl) (past_of ⟨rfl, rfl, rfl, Nat.le_refl _, fun _ _ => rfl⟩) ?_
            simp only [List.take_succ_cons, List.take_zero]
            repeat (go_big_quiet_step ((first | (go_at_call 17; first | with_reducible exact Calls.in_past (HLN.out _) | with_reducible exact Calls.in_past2 (HLN.out _)) | (go_at_call 18; first | with_reducible exact Calls.in_past (HAL.out _) | with_reducible exact Calls.in_past2 (HAL.out _)) | (go_at_call 9; first | with_reducible exact Calls.in_past (Add_nil 0 1 _) | with_reducible exact Calls.in_past2 (Add_nil 0 1 _)) | (go_at_call 13; first | with_reducible exact Calls.in_past (Cut_nil 0 1 _) | with_reducible exact Calls.in_past2 (Cut_nil 0 1 _)) | (go_at_call 11; first | with_reducible exact Calls.in_past (Has_nil 0 _) | with_reducible exact Calls.in_past2 (Has_nil 0 _)) | (go_at_call 17; first | with_reducible exact Calls.in_past (Len_nil _) | with_reducible exact Calls.in_past2 (Len_nil _)) | (go_at_call 17; first | exact Calls.in_past (HLN.out _) | exact Calls.in_past2 (HLN.out _)) | (go_at_call 18; first | exact Calls.in_past (HAL.out _) | exact Calls.in_past2 (HAL.out _)) | (go_at_call 9; first | exact Calls.in_past (Add_nil 0 1 _) | exact Calls.in_past2 (Add_nil 0 1 _)) | (go_at_call 13; first | exact Calls.in_past (Cut_nil 0 1 _) | exact Calls.in_past2 (Cut_nil 0 1 _)) | (go_at_call 11; first | exact Calls.in_past (Has_nil 0 _) | exact Calls.in_past2 (Has_nil 0 _)) | (go_at_call 17; first | exact Calls.in_past (Len_nil _) | exact Calls.in_past2 (Len_nil _)))))
            refine wpQuiet_nil ?_
            rintro _ ⟨xq, rfl⟩
            obtain ⟨V, eV⟩ : ∃ V, V = U.past xq := ⟨_, rfl⟩
            have hUV : Below U.heap.size U V := by rw [eV]; exact U.below_past _
            have bRV : Boxed V R 4 (.bool false) := (hUV.block _ HBR.out.lt).trans HBR.out
            have q2 := bRV.cell
            have f2 := bRV.frozen
            have l2 := bRV.lt
            rw [← eV]
            clear eV
            refine wpOp_step rfl (fun K hK => ?_)
            go_simp
            refine hK _ _ ?_
            clear hK K
            have hRU := HBR.out.lt
            obtain ⟨V9, eV9⟩ : ∃ V9, V9 = V.setCell ⟨R, 0, none⟩ (.bool true) := ⟨_, rfl⟩
            rw [← eV9]
            have b9 : Boxed V9 R 4 (.bool true) := by rw [eV9]; exact bRV.set _
            have z2 : V9.heap[D2]? = some (.deferred (some [])) := by rw [eV9]; exact (heap_setCell_other _ _ _ _ (by simp; omega)).trans ((hUV.block _ hD2U).trans HKD2.out)
            have z1 : V9.heap[w5.heap.size]? = some (.deferred (some [])) := by rw [eV9]; exact (heap_setCell_other _ _ _ _ (by simp; omega)).trans ((hUV.block _ (by omega)).trans HZ1.out)
            have hb9 : Below w.heap.size w V9 := by rw [eV9]; exact (HW10.out.trans (hUV.mono HW10.out.size)).setCell (p := ⟨R, 0, none⟩) hwR _
            have z3 : (V9.putObj D2 (.deferred none)).heap[w5.heap.size]? = some (.deferred (some [])) := (World.putObj_heap_other (by omega)).trans z1
            have b10 : Boxed (V9.putObj D2 (.deferred none)) R 4 (.bool true) := (World.putObj_heap_other (by omega)).trans b9
            have hb10 : Below w.heap.size w (V9.putObj D2 (.deferred none)) := below_putObj hb9 (by omega) _
            have b11 : Boxed ((V9.putObj D2 (.deferred none)).putObj w5.heap.size (.deferred none)) R 4 (.bool true) := (World.putObj_heap_other (by omega)).trans b10
            have q11 := b11.cell
            have HZ := hid (And.intro z2 z3)
            have HBB := hid (below_putObj hb10 (show w.heap.size ≤ w5.heap.size by omega) (.deferred none))
            clear z1 z2 z3 b10 b11 hb10 b9 hb9 q2 f2 l2 bRV hUV eV9
            go_wp2_with fail
            refine ⟨by simp, .inl ⟨_, _, rfl, run_takeDeferred HZ.out.1, ?_⟩⟩
            refine ⟨by simp, .inl ⟨_, _, rfl, run_takeDeferred HZ.out.2, ?_⟩⟩
            exact ⟨.bool true, by simp [results, Try.results5, go_sem, q11], Gives.mk rfl HBB.out⟩
        case body =>
          rintro lq M pre x W hM hsW ⟨hJ, -⟩ hpre
          obtain ⟨hp1, hp2⟩ := prefix_pc hpre
          rw [EM.out] at hp1
          obtain ⟨v, hv, hrow, hvM⟩ := hJ.row
          obtain ⟨A', c', rfl⟩ := own_shape hrow
          have q0 := hv.cell
          have f0 := hv.frozen
          have l0 := hv.lt
          have q1 := hJ.la.cell
          have f1 := hJ.la.frozen
          have l1 := hJ.la.lt
          have q2 := hJ.nn.cell
          have f2 := hJ.nn.frozen
          have l2 := hJ.nn.lt
          have hxlt : ¬ (x.2 ≤ x.1) := by
            have := HGD.out.lt (k := pre.length) (by rw [EM.out]; exact hp1)
            rw [hp2] at this; omega
          have hls : pre.length = 0 ∨ ((0 < pre.length) ∧ ¬ (x.1 ≤ (if pre = [] then 0 else (pc pre (pre.length - 1)).2))) := by
            by_cases hp0 : pre = []
            · exact .inl (by rw [hp0]; rfl)
            · refine .inr ⟨List.length_pos_iff.2 hp0, ?_⟩
              rw [if_neg hp0]
              have h1 : 0 < pre.length := List.length_pos_iff.2 hp0
              have := HGD.out.ord (i := pre.length - 1) (j := pre.length) (by omega) (by rw [EM.out]; exact hp1)
              rw [hp2] at this
              have e3 : pc L1 (pre.length - 1) = pc pre (pre.length - 1) := by
                obtain ⟨t, ht⟩ := hpre
                rw [← ht, List.append_assoc]
                unfold pc
                rw [List.getElem?_append_left (by omega)]
              rw [e3] at this
              omega
          obtain ⟨z, ez⟩ : ∃ z, (if pre = [] then 0 else (pc pre (pre.length - 1)).2) = z := ⟨_, rfl⟩
          rw [ez] at q1 hls
          obtain ⟨p, ep⟩ : ∃ p, pre.length = p := ⟨_, rfl⟩
          have HPRE := hid hpre
          have HEP := hid ep
          have HEL := hid (show (pre ++ [x]).length = p + 1 by rw [List.length_append, ep]; rfl)
          have HLA := hid (show (if pre ++ [x] = [] then 0 else (pc (pre ++ [x]) ((pre ++ [x]).length - 1)).2) = x.2 by rw [if_neg (by simp)]; simp [pc])
          have hp60 : p ≤ 100000 := by omega
          rw [ep] at q0 hrow q2 hls hvM hv
          have HROW := hid hrow
          have HJ := hid hJ
          have HVM := hid hvM
          have HM := hid hM
          have HV := hid hv
          have e2 : IntKind.i64.wrap ((p : Int) + 1) = (p : Int) + 1 := by rw [IntKind.wrap_i64]; omega
          have HFIN : Hid (∀ (w6 : World) (g cap : Nat), w6.ownsRow (w5.heap.size + 2) 39 2 (.slice (some ⟨g, 0, none⟩) (p + 1) cap) (p + 1) (tab pcV pre ++ [.int .i64 x.1, .int .i64 x.2]) → W.grownBy w6 (Value.slice A' p c').ownBlock → ((Value.slice A' p c').ownBlock = some g ∨ W.heap.size ≤ g) →
              (∀ k, k < K + 3 → w6.heap[k]? = W.heap[k]?) ∧ KS (fun k => T k ∨ (w5.heap.size + 2 ≤ k ∧ ¬ M k)) W (((w6.setCell ⟨K, 0, none⟩ (.slice (some ⟨g, 0, none⟩) (p + 1) cap)).setCell ⟨K + 1, 0, none⟩ (.int .i64 x.2)).setCell ⟨K + 2, 0, none⟩ (.int .i64 ((p : Int) + 1))) ∧ FoI w5 K M (pre ++ [x]) (((w6.setCell ⟨K, 0, none⟩ (.slice (some ⟨g, 0, none⟩) (p + 1) cap)).setCell ⟨K + 1, 0, none⟩ (.int .i64 x.2)).setCell ⟨K + 2, 0, none⟩ (.int .i64 ((p : Int) + 1)))) := hid (by
            intro w6 g cap ho hg hor
            have hown : ∀ q, (Value.slice A' p c').ownBlock = some q → w5.heap.size + 2 ≤ q := fun q e => (HROW.out.lt q e).1
            have hblk : ∀ k, k < K + 3 → w6.heap[k]? = W.heap[k]? := fun k hk => hg.block k (by omega) (fun e => by have := hown k e.symm; omega)
            have hgb := (ho.lt g rfl).1
            have hgM : ¬ M g := by
              rcases hor with h | h
              · exact HVM.out g h
              · intro hm; have := (HM.out g hm).2; omega
            have hk1 : KS (fun q => T q ∨ (w5.heap.size + 2 ≤ q ∧ ¬ M q)) W w6 := ⟨hg.os, hg.tape, hg.output, hg.size, fun q hq hn => hg.block q hq (fun e => hn (.inr ⟨hown q e.symm, HVM.out q e.symm⟩))⟩
            have hb6 : Below K W w6 := ⟨hg.os, hg.tape, hg.output, hg.size, fun q hq => hblk q (by omega)⟩
            have b0 : Boxed w6 K 42 (.slice A' p c') := (hblk K (by omega)).trans HV.out
            have b1' : Boxed w6 (K + 1) 3 _ := (hblk (K + 1) (by omega)).trans HJ.out.la
            have b2' : Boxed w6 (K + 2) 3 _ := (hblk (K + 2) (by omega)).trans HJ.out.nn
            refine ⟨hblk, ((hk1.setCell (b := K) (.inl hT0) 0 _).setCell (b := K + 1) (.inl hT1) 0 _).setCell (b := K + 2) (.inl hT2) 0 _, HJ.out.mr, (((HJ.out.bel.trans hb6).setCell (p := ⟨K, 0, none⟩) (Nat.le_refl _) _).setCell (p := ⟨K + 1, 0, none⟩) (by show K ≤ K + 1; omega) _).setCell (p := ⟨K + 2, 0, none⟩) (by show K ≤ K + 2; omega) _, ⟨_, ((b0.set _).other (by omega) _).other (by omega) _, ?_, fun q hq => ?_⟩, ?_, ?_⟩
            · rw [HEL.out]
              have e4 : tab pcV (pre ++ [x]) = tab pcV pre ++ [.int .i64 x.1, .int .i64 x.2] := by rw [← tab_append]; rfl
              rw [e4]
              exact own_kept (X := fun q => q = K ∨ q = K + 1 ∨ q = K + 2) ho ((((KS.refl (fun q => q = K ∨ q = K + 1 ∨ q = K + 2) w6).setCell (b := K) (.inl rfl) 0 _).setCell (b := K + 1) (.inr (.inl rfl)) 0 _).setCell (b := K + 2) (.inr (.inr rfl)) 0 _).block (fun q hq => by have := (ho.lt q hq).1; omega)
            · simp only [Value.ownBlock, Option.some.injEq] at hq
              rw [← hq]; exact hgM
            · rw [HLA.out]
              exact ((b1'.other (by omega) _).set _).other (by omega) _
            · rw [HEL.out]
              have := ((b2'.other (B' := K) (by omega) (.slice (some ⟨g, 0, none⟩) (p + 1) cap)).other (B' := K + 1) (by omega) (.int .i64 x.2)).set (.int .i64 ((p : Int) + 1))
              rw [show ((p + 1 : Nat) : Int) = (p : Int) + 1 by omega]
              exact this)
          have ez0 := ez
          clear hrow ep hJ hvM hM hv hpre HSEQ hp2 hp1 ez
          have HEZ := hid ez0
          clear ez0
          rcases hls with hp0 | ⟨hz1', hz2'⟩
          · obtain rfl : p = 0 := hp0
            gi_wp2_with (gi_at_builtin; go_must (refine wpListIn_pushB rfl (.tmp 68) (.tmp 72) 42 rfl 39 i0 (.agg #[.int .i64 0, .int .i64 0]) 2 16 Try.underlying42 HI.out hz0 hz1 hz2 rfl (by decide) (w5.heap.size + 2) hsW (.slice A' 0 c') 0 (tab pcV pre) rfl HROW.out _ #[.int .i64 x.1, .int .i64 x.2] rfl rfl rfl (by simp [Value.oneCell']) (by omega) (by unfold maxLen; omega) ?_); intro w6 g cap ho1 hg1 hor; have hF := HFIN.out w6 g cap ho1 hg1 hor; have b0 : Boxed w6 K _ _ := (hF.1 K (by omega)).trans HV.out; have b1' : Boxed w6 (K + 1) _ _ := (hF.1 (K + 1) (by omega)).trans HJ.out.la; have b2' : Boxed w6 (K + 2) _ _ := (hF.1 (K + 2) (by omega)).trans HJ.out.nn; have s0 := b0.cell; have s1 := b1'.cell; have s2 := b2'.cell; rw [HEZ.out] at s1; rw [HEP.out] at s2; have g0 := b0.frozen; have g1 := b1'.frozen; have g2 := b2'.frozen; have m0 := b0.lt; have m1 := b1'.lt; have m2 := b2'.lt; have HF := hid hF.2; clear hF ho1 hg1 hor b0 b1' b2')
            exact ⟨HF.out.1, HF.out.2, HPRE.out⟩
          · gi_wp2_with (gi_at_builtin; go_must (refine wpListIn_pushB rfl (.tmp 68) (.tmp 72) 42 rfl 39 i0 (.agg #[.int .i64 0, .int .i64 0]) 2 16 Try.underlying42 HI.out hz0 hz1 hz2 rfl (by decide) (w5.heap.size + 2) hsW (.slice A' p c') p (tab pcV pre) rfl HROW.out _ #[.int .i64 x.1, .int .i64 x.2] rfl rfl rfl (by simp [Value.oneCell']) (by omega) (by unfold maxLen; omega) ?_); intro w6 g cap ho1 hg1 hor; have hF := HFIN.out w6 g cap ho1 hg1 hor; have b0 : Boxed w6 K _ _ := (hF.1 K (by omega)).trans HV.out; have b1' : Boxed w6 (K + 1) _ _ := (hF.1 (K + 1) (by omega)).trans HJ.out.la; have b2' : Boxed w6 (K + 2) _ _ := (hF.1 (K + 2) (by omega)).trans HJ.out.nn; have s0 := b0.cell; have s1 := b1'.cell; have s2 := b2'.cell; rw [HEZ.out] at s1; rw [HEP.out] at s2; have g0 := b0.frozen; have g1 := b1'.frozen; have g2 := b2'.frozen; have m0 := b0.lt; have m1 := b1'.lt; have m2 := b2'.lt; have HF := hid hF.2; clear hF ho1 hg1 hor b0 b1' b2')
            exact ⟨HF.out.1, HF.out.2, HPRE.out⟩
theorem spanForm_own : ownKnob Try.prog.godebug = none := by kernel_rfl
theorem spanForm_laidOut : laidOutB Try.prog = true := by kernel_rfl
theorem spanForm_types : ∀ t ∈ Try.f5.params.toList, Try.prog.readableRec t = true ∧ t < Try.prog.types.size := by
  rw [Try.params5]
  intro t ht
  simp only [List.mem_cons, List.not_mem_nil, or_false] at ht
  rcases ht with rfl
  · exact ⟨by kernel_rfl, of_decide_eq_true (by kernel_rfl)⟩
set_option maxRecDepth 100000 in
theorem spanForm_lifted (os : Os) (started : os.Started) (H : Type) (enc : TypeId × Value → H) :
    ReturnsInHanded {} Try.checked os 5 .any (Rows.spanFormSpec.pre6 enc Try.prog Try.f5 Rows.spanFormRow.domain false) (Rows.spanFormSpec.post enc Try.prog Try.f5 false true false false) := by
  refine returnsInHanded_of_change (C := Try.checked) spanForm_own started (by kernel_rfl) Try.func5
    (ChangeSpec.witness6 (enc := enc) (C := Try.checked) false ⟨#[], #[.slice none 0 0], []⟩ 8 (by kernel_rfl) (by kernel_rfl) (by kernel_rfl) (by kernel_rfl)) ?_
  intro W base args ds gs before hval0 hW hcnd _
  have hval : ∀ (j : Nat) t v, Try.f5.params[j]? = some t → args[j]? = some v → Value.okWide Try.prog W .any base t v := hval0
  have hW' := hW
  obtain ⟨p, q, hA0, hV, hpq, hfz, hnd⟩ := hW
  have hA : DataW.TrodAll enc Try.prog W 0 (fun _ => true) true Try.f5.params.toList args.toList ds p := hA0
  rw [Try.params5] at hA hval
  obtain ⟨v0, vs0, d0, ds0, p0, q0, hargs, rfl, rfl, h0, r0⟩ := trodAll_cons hA
  obtain ⟨rfl, rfl, rfl⟩ := trodAll_nil r0
  obtain rfl : args = #[v0] := by cases args; simp_all
  have k0 := hval 0 47 v0 rfl rfl
  clear hA0 hval0 hval hcnd hfz hnd hpq hV hargs r0
  suffices hs : Calls Try.prog 5 #[v0] W (Gives (.bool true) W) from hs.mono fun e W' ⟨he, x, hx⟩ => ⟨_, he, law_post spanForm_laidOut hW' rfl rfl (by kernel_rfl) (by first | exact Try.underlying4 | rfl) spanForm_types (hx ▸ W.below_past x)⟩
  clear hW'
  obtain ⟨A, ca, l, rfl, ha, _, hl, _⟩ := rd_tabC (f := pcV) (c := 2) (K := fun _ => True) pcV_length (by omega) (rd_slice Try.underlying47 k0 h0) Try.underlying47 c_arr2 (fun _ h => by obtain ⟨x, e⟩ := rd_pr h; exact ⟨x, e, trivial⟩)
  exact SpanForm_any A ca _ l rfl hl W ha
theorem spanForm_holds : Rows.SpanFormSaid :=
  OpenClaim.holds_of_wide 5 Try.f5 rfl rfl rfl rfl rfl rfl rfl ⟨rfl, rfl, rfl, rfl, rfl⟩ rfl rfl rfl rfl rfl (by kernel_rfl) Try.func5 (by kernel_rfl)
    (of_decide_eq_true (by kernel_rfl)) (by unfold Func.isWrapper; first | (rw [if_pos (by decide +kernel)]; kernel_rfl) | (rw [if_neg (by decide +kernel)]; exact ⟨rfl, rfl⟩))
    (fun os started H enc _ => spanForm_lifted os started H enc)
end Go.Proofs.Ytjihhpipdhhjkaa
