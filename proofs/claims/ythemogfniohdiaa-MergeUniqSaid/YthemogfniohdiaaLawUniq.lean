/-
  Layer 32's MergeUniq: groups of the same ones, and how many they have, are the document's. No condition.
-/
import Derived.Test.YthemogfniohdiaaUqR
namespace Go.Proofs.Ythemogfniohdiaa
open Go.RowKit Go.Shelf Go.ChangeShapes Go.WideShapes Go.ChangeAt
attribute [local go_sem] Oper.semAt_some
/-- What holds between two rounds. -/
structure RndU (T : Nat → Prop) (w6 : World) (R K : Nat) (pre : List (Int × Int)) (W : World) : Prop where
  keep : KS T w6 W
  res : Boxed W R 4 (.bool false)
  cnt : Boxed W K 3 (.int .i64 (pre.length : Int))
theorem RndU.far {T : Nat → Prop} {w6 : World} {R K : Nat} {pre : List (Int × Int)} {A B : World} (h : RndU T w6 R K pre A) (hR : R < w6.heap.size) (hK : K < w6.heap.size) (hb : Below w6.heap.size A B) : RndU T w6 R K pre B :=
  ⟨h.keep.far hb, (hb.block _ hR).trans h.res, (hb.block _ hK).trans h.cnt⟩
theorem own_rest {w w' : World} {base : Nat} {e : TypeId} {size n : Nat} {v : Value} {xs : List Value} (h : w.ownsRow base e size v n xs) (hb : ∀ k, base ≤ k → k < w.heap.size → w'.heap[k]? = w.heap[k]?) : w'.ownsRow base e size v n xs := by
  refine ⟨h.1, ?_⟩
  rcases h.2 with h1 | ⟨g, cap, cur, hv, hg, hh, hr⟩
  · exact .inl h1
  · have hlt : g < w.heap.size := by
      rcases Nat.lt_or_ge g w.heap.size with h' | h'
      · exact h'
      · rw [Array.getElem?_eq_none h'] at hh; cases hh
    exact .inr ⟨g, cap, cur, hv, hg, by rw [hb g hg hlt]; exact hh, hr⟩
set_option maxRecDepth 100000 in
set_option maxHeartbeats 8000000 in
theorem MergeUniq_any (A : Option Addr) (ca n : Nat) (l : List Int) (en : l.length = n) (hmx : n ≤ maxLen) (y : Int) (hy : 0 ≤ y ∧ y ≤ 255) (w : World) (hw : Cells w A (i64s l)) :
    Calls Try.prog 6 #[.slice A n ca, .int .u8 y] w (Gives (.bool true) w) := by
  have EN := hid en
  have HW := hid hw
  clear en hw
  obtain ⟨W, eW⟩ : ∃ W, W = (w.alloc (.cells #[.int .u8 y] 5)).alloc (.cells #[.bool false] 4) := ⟨_, rfl⟩
  refine (callsIn_wide (n := 5)).1 ?_
  refine callsIn_of_wp_marks Try.func6 rfl trivial ?_ rfl
  refine wpIn_wide.2 ?_
  simp only [Try.ntmps6, List.size_toArray, List.length_cons, List.length_nil, Nat.reduceAdd, Nat.reduceSub, Array.replicate_succ, Array.replicate_zero, List.push_toArray, List.append_toArray, List.nil_append, List.cons_append]
  have bY0 := Boxed.new w 5 (.int .u8 y)
  have bR := Boxed.new (w.alloc (.cells #[.int .u8 y] 5)) 4 (.bool false)
  have bY := bY0.alloc (.cells #[.bool false] 4)
  rw [World.size_alloc] at bR
  have hBW : Below w.heap.size w W := by rw [eW]; exact ((Below.refl _ w).alloc (Nat.le_refl _) _).alloc (by simp) _
  have hsz : W.heap.size = w.heap.size + 2 := by rw [eW]; simp
  rw [← eW] at bR bY
  have EW := hid eW
  clear eW bY0
  go_wp2_with fail
  rw [← EW.out]
  refine (awake_any _).mono ?_
  rintro _ _ ⟨rfl, x, rfl⟩
  obtain ⟨W2, eW2⟩ : ∃ W2, W2 = W.past x := ⟨_, rfl⟩
  have hB2 : Below W.heap.size W W2 := by rw [eW2]; exact W.below_past x
  rw [← eW2]
  have bR2 : Boxed W2 (w.heap.size + 1) 4 (.bool false) := (hB2.block _ (by omega)).trans bR
  have bY2 : Boxed W2 w.heap.size 5 (.int .u8 y) := (hB2.block _ (by omega)).trans bY
  have hBW2 := below_trans' hBW hB2
  have hsz2 : w.heap.size + 2 ≤ W2.heap.size := by have := hB2.size; omega
  clear eW2 bR bY hB2 EW hsz hBW
  have hc := bR2.cell
  have hf := bR2.frozen
  by_cases h80 : 80 < n
  · go_wp2_with fail
    refine ⟨.bool true, ?_, Gives.mk rfl (hBW2.setCell (p := ⟨w.heap.size + 1, 0, none⟩) (by simp) _)⟩
    simp [results, Try.results6, go_sem, hc]
  · have HW2 := hid (HW.out.below hBW2)
    go_wp2_with fail
    refine (RUniq_any A ca n l EN.out (by omega) W2 HW2.out).mono ?_
    rintro _ w3 ⟨Q, cq, rfl, hb3, ho3⟩
    have bR3 : Boxed w3 (w.heap.size + 1) 4 (.bool false) := (hb3.block _ (by omega)).trans bR2
    have bY3 : Boxed w3 w.heap.size 5 (.int .u8 y) := (hb3.block _ (by omega)).trans bY2
    have hBW3 := below_trans' hBW2 hb3
    have hsz3 : w.heap.size + 2 ≤ w3.heap.size := by have := hb3.size; omega
    have HO3 := hid ho3
    have HLW := hid hsz2
    have hNn := uq_length l n
    obtain ⟨N, eN⟩ : ∃ N, (uq l n).length = N := ⟨_, rfl⟩
    have HN := hid eN
    rw [eN] at HO3 hNn ⊢
    clear bR2 bY2 hBW2 hsz2 hc hf HW2 hb3 ho3 eN
    have bQ := Boxed.new w3 33 (.slice Q N cq)
    have bK := Boxed.new (w3.alloc (.cells #[.slice Q N cq] 33)) 3 (.int .i64 0)
    rw [World.size_alloc] at bK
    have bQ2 := bQ.alloc (.cells #[.int .i64 0] 3)
    obtain ⟨W5, eW5⟩ : ∃ W5, W5 = (w3.alloc (.cells #[.slice Q N cq] 33)).alloc (.cells #[.int .i64 0] 3) := ⟨_, rfl⟩
    have hb5 : Below w3.heap.size w3 W5 := by rw [eW5]; exact ((Below.refl _ w3).alloc (Nat.le_refl _) _).alloc (by simp) _
    have hs5 : W5.heap.size = w3.heap.size + 2 := by rw [eW5]; simp
    rw [← eW5] at bQ2 bK
    have EW5 := hid eW5
    clear eW5 bQ
    go_wp2_with fail
    rw [← EW5.out]
    refine (List_any A n ca W5).mono ?_
    rintro _ w5 ⟨rfl, hb5', hs5', hx5⟩
    go_wp2_with fail
    refine (UniqI_any _ _ w5).mono ?_
    rintro _ w6 ⟨rfl, hb6', hs6, hx6⟩
    have hb6 := below_trans' hb5' hb6'
    have bR6 : Boxed w6 (w.heap.size + 1) 4 (.bool false) := (hb6.block _ (by omega)).trans ((hb5.block _ (by omega)).trans bR3)
    have bY6 : Boxed w6 w.heap.size 5 (.int .u8 y) := (hb6.block _ (by omega)).trans ((hb5.block _ (by omega)).trans bY3)
    have bQ6 : Boxed w6 w3.heap.size 33 (.slice Q N cq) := (hb6.block _ (by omega)).trans bQ2
    have bK6 : Boxed w6 (w3.heap.size + 1) 3 (.int .i64 0) := (hb6.block _ (by omega)).trans bK
    have hx5' := below_cell hb6' (Nat.le_refl _) _ _ hx5
    have hb36 := below_trans' hb5 hb6
    have HB36 := hid hb36
    have hBW6 := below_trans' hBW3 hb36
    rw [hs5] at hx5'
    rw [hs5'] at hx6
    rw [hs5] at hx6
    clear bR3 bY3 bQ2 bK EW5 hb5 hb6 hx5 hb5' hb6'
    obtain ⟨T, eT⟩ : ∃ T : Nat → Prop, T = fun k => k = w.heap.size + 1 ∨ k = w3.heap.size + 1 := ⟨_, rfl⟩
    have hR6 : w.heap.size + 1 < w6.heap.size := bR6.lt
    have hK6 : w3.heap.size + 1 < w6.heap.size := bK6.lt
    have hTR : T (w.heap.size + 1) := by rw [eT]; exact .inl rfl
    have hTK : T (w3.heap.size + 1) := by rw [eT]; exact .inr rfl
    have hTw : ∀ k, T k → k < w6.heap.size := by rw [eT]; rintro k (rfl | rfl); exact hR6; exact hK6
    have hTb : ∀ k, T k → w.heap.size ≤ k := by rw [eT]; rintro k (rfl | rfl) <;> omega
    have hTx : ¬ T (w3.heap.size + 2) := by rw [eT]; rintro (h | h) <;> omega
    have hTx2 : ¬ T (w3.heap.size + 2 + 1) := by rw [eT]; rintro (h | h) <;> omega
    have hTY : ¬ T w.heap.size := by rw [eT]; rintro (h | h) <;> omega
    have hTQ : ¬ T w3.heap.size := by rw [eT]; rintro (h | h) <;> omega
    have hRK : w.heap.size + 1 ≠ w3.heap.size + 1 := by omega
    have HOW := hid (fun W (hk : KS T w6 W) => own_rest HO3.out (w' := W) (fun q h1 h2 => (hk.block q (by have := HB36.out.size; omega) (by rw [eT]; have := HLW.out; rintro (h | h) <;> omega)).trans (HB36.out.block q h2)))
    have hseq := uniq_seq (5 - 1) (by omega) w6 (w3.heap.size + 2 + 1) (w3.heap.size + 2) A n ca l EN.out (by omega) T hTw hx6 hTx2 hx5' hTx (fun V hk => HW.out.below (hBW6.trans (hk.under hTb hBW6.size)))
    rw [HN.out] at hseq
    have HSEQ := hid hseq
    clear hseq eT hx6 hx5'
    go_wp2_with fail
    refine (wpIn_wide (n := 5)).1 ?_
    apply wpIn_rangeFunc_E rfl (by omega) (gf := 23) (lb := #[.pointer (some ⟨w3.heap.size + 2 + 1, 0, none⟩)]) rfl trivial (enters_of Try.func23 (by kernel_rfl) rfl) HSEQ.out hTw (KS.refl _ _) (fun _ => rfl)
      (fun pre W => RndU T w6 (w.heap.size + 1) (w3.heap.size + 1) pre W ∧ (pre.length : Int) ≤ y)
      (fun c pre W => c = .exit 0 ∧ RndU T w6 (w.heap.size + 1) (w3.heap.size + 1) pre W ∧ (pre.length : Int) = y + 1)
      (fun _ _ _ h hb => ⟨h.1.far hR6 hK6 hb, h.2⟩)
      (fun _ _ _ _ h hb => ⟨h.1, h.2.1.far hR6 hK6 hb, h.2.2⟩)
      ⟨⟨KS.refl _ _, bR6, bK6⟩, by simp; omega⟩
      _ ?assign ?body ?done ?stop
    case assign =>
      intro lq x W K hK
      simp only [encU]
      gi_wp2
      exact hK
    case body =>
      rintro lq pre ⟨x1, x2⟩ W hsW ⟨hJ, hle⟩ hlen hsp
      have hoW := HOW.out W hJ.keep
      have ez : (uq l n)[pre.length]? = some (x1, x2) := by
        obtain ⟨t, ht⟩ := hsp
        rw [← ht]; simp
      obtain ⟨bq, oq, eQ, hcq⟩ := (Cells.of_own hoW).tab_at pairI_length ez (by omega)
      subst eQ
      have c1 := hcq 0 _ rfl
      have c2 := hcq 1 _ rfl
      rw [Nat.add_zero] at c1
      have bQ7 : Boxed W w3.heap.size 33 (.slice (some ⟨bq, oq, none⟩) N cq) := hJ.keep.boxed hTQ bQ6
      have bY7 : Boxed W w.heap.size 5 (.int .u8 y) := hJ.keep.boxed hTY bY6
      have q1 := bQ7.cell
      have q2 := bY7.cell
      have q4 := hJ.cnt.cell
      have q6 := hJ.cnt.frozen
      obtain ⟨p, ep⟩ : ∃ p, pre.length = p := ⟨_, rfl⟩
      rw [ep] at c1 c2 q4 hlen hle
      have HJ := hid hJ
      have HEP := hid (show ((pre ++ [(x1, x2)]).length : Int) = (p : Int) + 1 by simp [ep])
      have lt6 := hJ.cnt.lt
      have hcv : IntKind.i64.wrap y = y := by rw [IntKind.wrap_i64]; omega
      have hadd : IntKind.i64.wrap ((p : Int) + 1) = (p : Int) + 1 := by rw [IntKind.wrap_i64]; omega
      have hne : ¬ w3.heap.size + 1 = w.heap.size := by omega
      clear hJ ez hcq hoW HSEQ hsp ep
      by_cases hy2 : (p : Int) + 1 > y
      · gi_wp2
        refine ⟨(KS.refl _ _).setCell hTK 0 _, rfl, ⟨HJ.out.keep.setCell hTK 0 _, ((KS.refl (fun q => q = w3.heap.size + 1) _).setCell rfl 0 _).boxed hRK HJ.out.res, ?_⟩, ?_⟩
        · rw [HEP.out]
          exact HJ.out.cnt.set _
        · rw [HEP.out]; omega
      · gi_wp2
        refine ⟨(KS.refl _ _).setCell hTK 0 _, ⟨HJ.out.keep.setCell hTK 0 _, ((KS.refl (fun q => q = w3.heap.size + 1) _).setCell rfl 0 _).boxed hRK HJ.out.res, ?_⟩, ?_⟩
        · rw [HEP.out]
          exact HJ.out.cnt.set _
        · rw [HEP.out]; omega
    case' stop =>
      rintro D c pre W hD hSp ⟨hc, hJ, hp⟩ hK
      subst hc
      have hpl : pre.length ≤ N := by have := hSp.length_le; rwa [HN.out] at this
      have hmin : min (N : Int) (y + 1) = (pre.length : Int) := by omega
      refine wpIn_wide.2 ?_
    case' done =>
      rintro D pre W hD hS ⟨hJ, hp⟩ hK
      have hpl : pre.length = N := by rw [hS, HN.out]
      have hmin : min (N : Int) (y + 1) = (pre.length : Int) := by omega
    all_goals (
      have bQ7 : Boxed W w3.heap.size 33 (.slice Q N cq) := hJ.keep.boxed hTQ bQ6
      have bY7 : Boxed W w.heap.size 5 (.int .u8 y) := hJ.keep.boxed hTY bY6
      have q1 := bQ7.cell
      have q2 := bY7.cell
      have q3 := hJ.res.cell
      have q4 := hJ.cnt.cell
      have q5 := hJ.res.frozen
      rw [← hmin] at q4
      have hadd : IntKind.i64.wrap (y + 1) = y + 1 := by rw [IntKind.wrap_i64]; omega
      have hcv : IntKind.i64.wrap y = y := by rw [IntKind.wrap_i64]; omega
      have HJ := hid hJ
      have hRD : w.heap.size + 1 ≠ D := by omega
      have hbx : Boxed ((W.setCell ⟨w.heap.size + 1, 0, none⟩ (.bool true)).putObj D (.deferred none)) (w.heap.size + 1) 4 (.bool true) := (World.putObj_heap_other hRD).trans (HJ.out.res.set _)
      have HCX := hid hbx.cell
      have HBX := hid (below_putObj (RowKit.Below.setCell (p := ⟨w.heap.size + 1, 0, none⟩) (hBW6.trans (HJ.out.keep.under hTb hBW6.size)) (by simp) (.bool true)) (show w.heap.size ≤ D by omega) (.deferred none))
      have HKD := hid ((Below.heap_setCell W ⟨w.heap.size + 1, 0, none⟩ (.bool true) D (by simp; omega)).trans hK)
      clear hbx hJ HSEQ hK
      rcases (show (N : Int) < y + 1 ∨ y + 1 = (N : Int) ∨ y + 1 < (N : Int) by omega) with hle | hle | hle
      all_goals first | (exfalso; omega) | (
        first
          | (have em2 : min (N : Int) (y + 1) = y + 1 := by omega)
          | (have em2 : min (N : Int) (y + 1) = (N : Int) := by omega)
        rw [em2] at q4
        clear em2 hmin
        go_wp2_with fail
        have hcx := HCX.out
        clear q1 q2 q3 q4 q5
        refine ⟨by simp, .inl ⟨_, _, rfl, run_takeDeferred HKD.out, ?_⟩⟩
        exact ⟨.bool true, by simp [results, Try.results6, go_sem, hcx], Gives.mk rfl HBX.out⟩))
theorem cs_i64s : Try.prog.cellsOf 3 = 1 := by kernel_rfl
theorem rd_i64s {H : Type} {enc : TypeId × Value → H} {W : World} {v : Value} (h : Rd enc Try.prog W 22 [v]) : ∃ (A : Option Addr) (c : Nat) (l : List Int), v = .slice A l.length c ∧ Cells W A (i64s l) ∧ (∀ x ∈ l, I64 x) ∧ l.length ≤ maxLen :=
  rd_ints_row h Try.underlying22 Try.underlying3 cs_i64s (fun _ hx => i64_of hx)
theorem mergeUniq_own : ownKnob Try.prog.godebug = none := by kernel_rfl
theorem mergeUniq_laidOut : laidOutB Try.prog = true := by kernel_rfl
theorem mergeUniq_types : ∀ t ∈ Try.f6.params.toList, Try.prog.readableRec t = true ∧ t < Try.prog.types.size := by
  rw [Try.params6]
  intro t ht
  simp only [List.mem_cons, List.not_mem_nil, or_false] at ht
  rcases ht with rfl | rfl
  · exact ⟨by kernel_rfl, of_decide_eq_true (by kernel_rfl)⟩
  · exact ⟨by kernel_rfl, of_decide_eq_true (by kernel_rfl)⟩
set_option maxRecDepth 100000 in
theorem mergeUniq_lifted (os : Os) (started : os.Started) (H : Type) (enc : TypeId × Value → H) :
    ReturnsInHanded {} Try.checked os 6 .any (Rows.mergeUniqSpec.pre6 enc Try.prog Try.f6 Rows.mergeUniqRow.domain false) (Rows.mergeUniqSpec.post enc Try.prog Try.f6 false true false false) := by
  refine returnsInHanded_of_change (C := Try.checked) mergeUniq_own started (by kernel_rfl) Try.func6
    (ChangeSpec.witness6 (enc := enc) (C := Try.checked) false ⟨#[], #[.slice none 0 0, .int .u8 0], []⟩ 8 (by kernel_rfl) (by kernel_rfl) (by kernel_rfl) (by kernel_rfl)) ?_
  intro W base args ds gs before hval0 hW hcnd _
  have hval : ∀ (j : Nat) t v, Try.f6.params[j]? = some t → args[j]? = some v → Value.okWide Try.prog W .any base t v := hval0
  have hW' := hW
  obtain ⟨p, q, hA0, hV, hpq, hfz, hnd⟩ := hW
  have hA : DataW.TrodAll enc Try.prog W 0 (fun _ => true) true Try.f6.params.toList args.toList ds p := hA0
  rw [Try.params6] at hA hval
  obtain ⟨v0, vs0, d0, ds0, p0, q0, hargs, rfl, rfl, h0, r0⟩ := trodAll_cons hA
  obtain ⟨v1, vs1, d1, ds1, p1, q1, rfl, rfl, rfl, h1, r1⟩ := trodAll_cons r0
  obtain ⟨rfl, rfl, rfl⟩ := trodAll_nil r1
  obtain rfl : args = #[v0, v1] := by cases args; simp_all
  have k0 := hval 0 22 v0 rfl rfl
  have k1 := hval 1 5 v1 rfl rfl
  clear hA0 hval0 hval hcnd hfz hnd hpq hV hargs r1
  suffices hs : Calls Try.prog 6 #[v0, v1] W (Gives (.bool true) W) from hs.mono fun e W' ⟨he, x, hx⟩ => ⟨_, he, law_post mergeUniq_laidOut hW' rfl rfl (by kernel_rfl) (by first | exact Try.underlying4 | rfl) mergeUniq_types (hx ▸ W.below_past x)⟩
  clear hW'
  obtain ⟨A, ca, l, rfl, ha, _, hl⟩ := rd_i64s (rd_slice Try.underlying22 k0 h0)
  obtain ⟨x1, rfl, _, _, w1⟩ := open_int Try.underlying5 k1 h1
  exact MergeUniq_any A ca _ l rfl hl x1 (by have := u8_of w1; unfold U8 at this; omega) W ha
theorem mergeUniq_holds : Rows.MergeUniqSaid :=
  OpenClaim.holds_of_wide 6 Try.f6 rfl rfl rfl rfl rfl rfl rfl ⟨rfl, rfl, rfl, rfl, rfl⟩ rfl rfl rfl rfl rfl (by kernel_rfl) Try.func6 (by kernel_rfl)
    (of_decide_eq_true (by kernel_rfl)) (by unfold Func.isWrapper; first | (rw [if_pos (by decide +kernel)]; kernel_rfl) | (rw [if_neg (by decide +kernel)]; exact ⟨rfl, rfl⟩))
    (fun os started H enc _ => mergeUniq_lifted os started H enc)
end Go.Proofs.Ythemogfniohdiaa
