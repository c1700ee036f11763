/-
  Layer 04: awake: what is due. No condition.
-/
import Derived.Test.YtcbdghjakdbedaaHsQ
import Derived.Shelf.Abstract
namespace Go.Proofs.Ytcbdghjakdbedaa
open Go Go.RowKit Go.Shelf
attribute [local go_sem] Oper.semAt_some
open HpS
abbrev i1 : Hp.It HpS.A := ⟨5, 1, ⟨#[97]⟩⟩
abbrev i2 : Hp.It HpS.A := ⟨3, 2, ⟨#[98]⟩⟩
theorem took_one {pre L : List (Hp.It HpS.A)} {x : Hp.It HpS.A} (h : Took 4 [i2, i1] (pre ++ [x]) L) : pre = [] ∧ x = i2 := by
  have h1 := h.filt
  have e : ([i2, i1] : List (Hp.It HpS.A)).filter (fun y => decide (y.v ≤ 4)) = [i2] := by simp [List.filter]
  rw [e] at h1
  have h2 := h1.length_eq
  simp at h2
  have e2 : pre = [] := List.eq_nil_of_length_eq_zero (by omega)
  subst e2
  refine ⟨rfl, ?_⟩
  have h3 := h1.mem_iff.1 (show x ∈ ([] ++ [x]) ++ _ by simp)
  simpa using h3
theorem took_end {xs L : List (Hp.It HpS.A)} (h : Took 4 [i2, i1] xs L) (hL : ∀ y ∈ L, 4 < y.v) : xs = [i2] ∧ L = [i1] := by
  obtain ⟨h1, h2⟩ := h.rest hL
  have e : ([i2, i1] : List (Hp.It HpS.A)).filter (fun y => decide (y.v ≤ 4)) = [i2] := by simp [List.filter]
  have e2 : ([i2, i1] : List (Hp.It HpS.A)).filter (fun y => !decide (y.v ≤ 4)) = [i1] := by simp [List.filter]
  rw [e] at h1
  rw [e2] at h2
  exact ⟨List.perm_singleton.1 h1, List.perm_singleton.1 h2⟩
/-- What holds between two rounds. -/
structure RndA (w : World) (R K : Nat) (v : Int) (W : World) : Prop where
  bel : Below w.heap.size w W
  res : Boxed W R 4 (.bool false)
  cnt : Boxed W K 3 (.int .i64 v)
theorem RndA.ks {w : World} {R K : Nat} {v : Int} {A B : World} {X : Nat → Prop} (h : RndA w R K v A) (hk : KS X A B) (hX : ∀ k, X k → w.heap.size ≤ k) (hR : ¬ X R) (hK : ¬ X K) : RndA w R K v B :=
  ⟨h.bel.trans (hk.under hX h.bel.size), hk.boxed hR h.res, hk.boxed hK h.cnt⟩
set_option maxRecDepth 100000 in
set_option maxHeartbeats 4000000 in
theorem awake_any (w : World) : Calls Try.prog 5 #[] w (Gives (.bool true) w) := by
  obtain ⟨w1, ew1⟩ : ∃ w1, w1 = w.alloc (.cells #[.bool false] 4) := ⟨_, rfl⟩
  have hb1 : Below w.heap.size w w1 := by rw [ew1]; exact (Below.refl _ w).alloc (Nat.le_refl _) _
  have hs1 : w1.heap.size = w.heap.size + 1 := by rw [ew1]; simp
  have bR1 : Boxed w1 w.heap.size 4 (.bool false) := by rw [ew1]; exact Boxed.new w _ _
  have EW1 := hid ew1
  obtain ⟨B, eB⟩ : ∃ B, B = w1.heap.size := ⟨_, rfl⟩
  have HB := hid eB
  have HNew := hid (New_any (B := B) 5 w1 (by omega))
  clear ew1 eB
  refine (callsIn_wide (n := 5)).1 ?_
  refine callsIn_of_wp_marks Try.func5 rfl trivial ?_ rfl
  refine wpIn_wide.2 ?_
  simp only [Try.ntmps5, List.size_toArray, List.length_cons, List.length_nil, Nat.reduceAdd, Nat.reduceSub, Array.replicate_succ, Array.replicate_zero, List.push_toArray, List.append_toArray, List.nil_append, List.cons_append]
  go_wp2_with fail
  rw [← EW1.out]
  refine HNew.out.mono ?_
  rintro _ w2 ⟨b, mb, rfl, hP2, hb2, -, -⟩
  have HP2 := hid hP2
  have HB2 := hid hb2
  clear hP2 hb2
  go_wp2_with fail
  refine (Push_any HP2.out (by decide) (by have := HB.out; have := HB2.out.size; omega) i1 (by unfold I64; decide)).mono ?_
  rintro _ w3 ⟨rfl, hP3, hb3, -⟩
  have e3 : pushE [] (mostH 5) 1 = 0 := by decide
  have e3' : pushL [] (mostH 5) i1 = [i1] := by unfold pushL; rw [if_pos e3]
  rw [e3'] at hP3
  have HP3 := hid hP3
  have HB3 := hid hb3
  rw [show pushE [] (mostH 5) i1.id = 0 from e3]
  clear hP3 hb3 e3 e3'
  go_wp2_with fail
  refine (Push_any HP3.out (by decide) (by have := HB.out; have := HB2.out.size; have := HB3.out.size; omega) i2 (by unfold I64; decide)).mono ?_
  rintro _ w4 ⟨rfl, hP4, hb4, -⟩
  have e4 : pushE [i1] (mostH 5) i2.id = 0 := by decide
  have e4' : pushL [i1] (mostH 5) i2 = [i2, i1] := by unfold pushL; rw [if_pos e4]
  rw [e4'] at hP4
  rw [e4]
  have hBB : Below B w1 w4 := (HB2.out.mono (by have := HB.out; omega)).trans (HB3.out.trans hb4)
  have hbW : Below w.heap.size w w4 := hb1.trans (hBB.mono (by have := HB.out; omega))
  have bR4 : Boxed w4 w.heap.size 4 (.bool false) := (hBB.block _ (by have := HB.out; omega)).trans bR1
  have hB4 : B ≤ w4.heap.size := by have := HB.out; have := hBB.size; omega
  have HP4 := hid hP4
  clear hP4 hb4 e4 e4' hBB hb1 bR1
  go_wp2_with (go_at_call 26; refine (Len_any HP4.out).mono ?_; rintro _ w9 ⟨rfl, h9⟩; rw [h9]; clear h9 w9)
  have hBw : B = w.heap.size + 1 := by rw [HB.out, hs1]
  obtain ⟨K, eK⟩ : ∃ K, w4.heap.size = K := ⟨_, rfl⟩
  obtain ⟨w5, ew5⟩ : ∃ w5, w5 = w4.alloc (.cells #[.int .i64 0] 3) := ⟨_, rfl⟩
  have hb5 : Below w4.heap.size w4 w5 := by rw [ew5]; exact (Below.refl _ _).alloc (Nat.le_refl _) _
  have hs5 : w5.heap.size = K + 1 := by rw [ew5]; simp [eK]
  have bK5 : Boxed w5 K 3 (.int .i64 0) := by rw [ew5, ← eK]; exact Boxed.new w4 _ _
  rw [← ew5, eK]
  refine (Due_any _ _ w5).mono ?_
  rintro _ w6 ⟨rfl, hb6, hs6, hx6, hu6⟩
  have hb46 := hb5.trans (hb6.mono (by omega))
  have hP5 := HP4.out.far hb5
  have hP6 := HP4.out.far hb46
  have hMh := new_out hP5 hb6 (Nat.le_refl _)
  have hMu := new_out hP5 hb6 (Nat.le_succ _)
  have bR6 : Boxed w6 w.heap.size 4 (.bool false) := (hb46.block _ (by omega)).trans bR4
  have bK6 : Boxed w6 K 3 (.int .i64 0) := (hb6.block _ (by omega)).trans bK5
  have hbW6 : Below w.heap.size w w6 := hbW.trans (hb46.mono hbW.size)
  rw [hs5] at hx6 hu6 hMh hMu ⊢
  have hsz6 : w6.heap.size = K + 3 := by omega
  have hKw : w.heap.size < K := by omega
  have hMK : ∀ k, hF b mb w6 k → B ≤ k ∧ k < K := fun k hk => by
    have h1 := hF_lt hP6 hk
    refine ⟨h1.1, ?_⟩
    rcases Nat.lt_or_ge k K with h | h
    · exact h
    · exact absurd hk (new_out HP4.out hb46 (by omega))
  obtain ⟨T, eT⟩ : ∃ T : Nat → Prop, T = fun k => k = K := ⟨_, rfl⟩
  have hTK : T K := by rw [eT]
  have hTw : ∀ k, T k → k < w6.heap.size := by rw [eT]; rintro k rfl; omega
  have hTb : ∀ k, T k → w.heap.size ≤ k := by rw [eT]; rintro k rfl; omega
  have hTh : ¬ T (K + 1) := by rw [eT]; intro h; omega
  have hTu : ¬ T (K + 1 + 1) := by rw [eT]; intro h; omega
  have hTM : ∀ k, hF b mb w6 k → ¬ T k := by rw [eT]; rintro k hk rfl; have := (hMK _ hk).2; omega
  have hseq := due_seq (5 - 1) (by omega) w6 (K + 1) (K + 1 + 1) 4 [i2, i1] T hx6 hu6 hTh hTu hMh hMu hP6 hTM (by omega)
  have hXg : ∀ k, TT (hF b mb w6) w6.heap.size (w6.heap.size + 2) k → w.heap.size ≤ k ∧ k ≠ w.heap.size ∧ k ≠ K := by
    rintro k (h | h)
    · have := hMK _ h; omega
    · omega
  have HXG := hid hXg
  have HMK := hid hMK
  have hMl : ∀ k, hF b mb w6 k → k < w6.heap.size := fun k hk => by have := (hMK k hk).2; omega
  have HML := hid hMl
  have HSEQ := hid hseq
  have HRD : Hid (RndA w w.heap.size K 0 w6) := hid ⟨hbW6, bR6, bK6⟩
  have HSZ := hid hsz6
  have HKW := hid hKw
  clear hseq eT hx6 hu6 hMh hMu hP5 hP6 hb46 hb5 hb6 hXg hMK hbW6 bR6 bK6 bK5 bR4 hbW ew5 hMl hTM hs5 hs6 eK
  go_wp2_with fail
  refine (wpIn_wide (n := 5)).1 ?_
  apply wpIn_rangeFunc_H1 rfl (by omega) (gf := 38) (lb := #[.pointer (some ⟨K + 1, 0, none⟩), .pointer (some ⟨K + 1 + 1, 0, none⟩)]) rfl trivial (enters_of Try.func38 (by kernel_rfl) rfl) HSEQ.out HML.out (fun _ _ _ h hk => dueS_far HML.out h hk) (fun _ _ _ h hk => dueSp_far HML.out h hk) hTw (KS.refl _ _) (fun _ => rfl)
    (fun pre U => RndA w w.heap.size K pre.length U)
    (fun _ _ _ => False)
    (fun _ _ _ h hk => h.ks hk (fun k hX => (HXG.out k hX).1) (fun hX => (HXG.out _ hX).2.1 rfl) (fun hX => (HXG.out _ hX).2.2 rfl))
    (fun _ _ _ _ h _ => h.elim)
    HRD.out
    30 (fun x => #[.int .u64 x.v, .int .i64 x.id]) _ ?assign ?body ?done ?stop
  case assign =>
    intro lq x W c K' hsW hc hK
    simp only [encK]
    gi_wp2
    try rw [hc]
    exact hK _ (by rw [← hc]; exact Rec.new W _ _) ((Below.refl _ W).alloc (Nat.le_refl _) _)
  case body =>
    rintro lq pre x c W hsW hJ hlen ⟨L, htk⟩ hcS hrec
    obtain ⟨rfl, rfl⟩ := took_one htk
    have c1 := Rec.cell hrec 1
    simp at c1
    have q4 := hJ.cnt.cell
    have f4 := hJ.cnt.frozen
    have l4 := hJ.cnt.lt
    simp at q4
    have HJ := hid hJ
    clear hJ htk hrec
    have hne : w.heap.size ≠ K := by have := HKW.out; omega
    gi_wp2
    refine ⟨(KS.refl _ _).setCell hTK 0 _, ⟨HJ.out.bel.setCell (p := ⟨K, 0, none⟩) (by have := HKW.out; show _ ≤ K; omega) _, ((KS.refl (fun q => q = K) _).setCell rfl 0 _).boxed hne HJ.out.res, ?_⟩⟩
    have := HJ.out.cnt.set (.int .i64 1)
    simpa using this
  case stop =>
    rintro _ _ _ _ _ _ h
    exact h.elim
  case done =>
    rintro D xs W hD ⟨L, htk, hL, hPW, hFW⟩ hJ hKD
    obtain ⟨rfl, rfl⟩ := took_end htk hL
    have q4 := hJ.cnt.cell
    simp at q4
    have HJ := hid hJ
    have HPW := hid hPW
    have HKD := hid hKD
    have HFW := hid hFW
    have HD := hid hD
    clear hJ hPW hKD htk hL hFW
    go_wp2_with (go_at_call 26; refine (Len_any HPW.out).mono ?_; rintro _ w9 ⟨rfl, h9⟩; rw [h9]; clear h9 w9)
    have hBW : B ≤ W.heap.size := by have := (Array.getElem?_eq_some_iff.1 HKD.out).1; have := HD.out; have := HSZ.out; omega
    refine (Move_some HPW.out i1 (by simp) 9 [] (List.Perm.refl _) hBW).mono ?_
    rintro _ w8 ⟨rfl, -, hb8, hk8⟩
    have bR8 : Boxed w8 w.heap.size 4 (.bool false) := (hb8.block _ (by omega)).trans HJ.out.res
    have hKD8 : w8.heap[D]? = some (.deferred (some [])) := (hk8.kept.block D (Array.getElem?_eq_some_iff.1 HKD.out).1 (fun hf => by have := (HMK.out D (HFW.out D hf)).2; have := HD.out; have := HSZ.out; omega)).trans HKD.out
    have q0 := bR8.cell
    have f0 := bR8.frozen
    have l0 := bR8.lt
    have hDR : w.heap.size ≠ D := by have := HD.out; have := HSZ.out; have := HKW.out; omega
    have hB8 : Below w.heap.size w w8 := HJ.out.bel.trans (hb8.mono (by omega))
    have HB8 := hid hB8
    have HKD8 := hid hKD8
    have HDR := hid hDR
    have HR8 := hid bR8
    clear hB8 hKD8 hb8 hk8 bR8 hBW hDR
    go_wp2_with fail
    obtain ⟨w10, ew10⟩ : ∃ w10, w10 = w8.setCell ⟨w.heap.size, 0, none⟩ (.bool true) := ⟨_, rfl⟩
    have hb10 : Below w.heap.size w w10 := by rw [ew10]; exact HB8.out.setCell (p := ⟨w.heap.size, 0, none⟩) (Nat.le_refl _) _
    have hk10 : w10.heap[D]? = some (.deferred (some [])) := by rw [ew10]; exact (heap_setCell_other _ _ _ _ (fun e => HDR.out e.symm)).trans HKD8.out
    have b10 : Boxed w10 w.heap.size 4 (.bool true) := by rw [ew10]; exact HR8.out.set _
    rw [← ew10]
    refine ⟨by simp, .inl ⟨_, _, rfl, run_takeDeferred hk10, ?_⟩⟩
    have b11 : Boxed (w10.putObj D (.deferred none)) w.heap.size 4 (.bool true) := (World.putObj_heap_other HDR.out).trans b10
    have q11 := b11.cell
    refine ⟨.bool true, by simp [results, Try.results5, go_sem, q11], Gives.mk rfl ?_⟩
    exact below_putObj hb10 (by have := HD.out; have := HSZ.out; have := HKW.out; omega) _
end Go.Proofs.Ytcbdghjakdbedaa
