/-
  Layer 05: same: the queue's values, in order, are the document's. No condition.
-/
import Derived.Test.YtifdogmlaengoaaFifJ
import Derived.Test.YtifdogmlaengoaaFifL
import Derived.Test.YtifdogmlaengoaaPastRd
import Derived.Deep.CutRange
import Derived.StillTailTactics
import Derived.Shelf.Abstract
namespace Go.Proofs.Ytifdogmlaengoaa
open Go.RowKit Go.Shelf
attribute [local go_sem] Oper.semAt_some
theorem get_snoc {pre L : List (Int × Int)} {x : Int × Int} (h : pre ++ [x] <+: L) : L[pre.length]? = some x ∧ pre.length < L.length := by
  obtain ⟨t, rfl⟩ := h
  simp
set_option maxRecDepth 100000 in
set_option maxHeartbeats 2000000 in
theorem same_any {B : Nat} {w : World} {b : Nat} {F : Nat → Prop} {most tk : Int} {L : List (Int × Int)} (h1 : QA B w b F most tk L) {B' r : Nat} {G : Nat → Prop} {most' tk' : Int} (h2 : DA B' w r G most' tk' L) :
    Calls Try.prog 19 #[.pointer (some ⟨b, 0, none⟩), .pointer (some ⟨r, 0, none⟩)] w (Gives (.bool true) w) := by
  have HQA := hid h1
  have HDA := hid h2
  obtain ⟨q, f, c, Q, ks, g1, g2, g3, g4, g5, g6, g7⟩ := h1
  have hln : L.length ≤ 5000 := by omega
  have HG1 := hid g1
  have HG2 := hid g2
  have HG3 := hid g3
  clear h2 g1 g2 g3 g4 g5 g6 g7
  refine (callsIn_wide (n := 5)).1 ?_
  refine callsIn_of_wp_marks Try.func19 rfl trivial ?_ rfl
  refine wpIn_wide.2 ?_
  simp only [Try.ntmps19, List.size_toArray, List.length_cons, List.length_nil, Nat.reduceAdd, Nat.reduceSub, Array.replicate_succ, Array.replicate_zero, List.push_toArray, List.append_toArray, List.nil_append, List.cons_append]
  obtain ⟨w3, ew3⟩ : ∃ w3, w3 = ((w.alloc (.cells #[.pointer (some ⟨r, 0, none⟩)] 37)).alloc (.cells #[.int .i64 0] 3)).alloc (.cells #[.bool true] 4) := ⟨_, rfl⟩
  have bp := ((Boxed.new w 37 (.pointer (some ⟨r, 0, none⟩))).alloc (.cells #[.int .i64 0] 3)).alloc (.cells #[.bool true] 4)
  have bn := (Boxed.new (w.alloc (.cells #[.pointer (some ⟨r, 0, none⟩)] 37)) 3 (.int .i64 0)).alloc (.cells #[.bool true] 4)
  have bk := Boxed.new ((w.alloc (.cells #[.pointer (some ⟨r, 0, none⟩)] 37)).alloc (.cells #[.int .i64 0] 3)) 4 (.bool true)
  rw [World.size_alloc] at bn
  rw [World.size_alloc, World.size_alloc] at bk
  have hB3 : Below w.heap.size w w3 := by rw [ew3]; exact (((Below.refl _ w).alloc (Nat.le_refl _) _).alloc (by simp) _).alloc (by simp; omega) _
  have hs3 : w3.heap.size = w.heap.size + 3 := by rw [ew3]; simp
  rw [← ew3] at bp bn bk
  have EW := hid ew3
  obtain ⟨s, es⟩ : ∃ s, w.heap.size = s := ⟨_, rfl⟩
  have ES := hid es
  clear ew3
  go_wp2_with fail
  rw [← EW.out]
  refine (All_any (some ⟨b, 0, none⟩) w3).mono ?_
  rintro _ w8 ⟨rfl, hb8, hs8, hx8⟩
  have hB8 : Below w.heap.size w w8 := below_trans' hB3 hb8
  have bp8 : Boxed w8 w.heap.size 37 (.pointer (some ⟨r, 0, none⟩)) := (hb8.block _ bp.lt).trans bp
  have bn8 : Boxed w8 (w.heap.size + 1) 3 (.int .i64 0) := (hb8.block _ bn.lt).trans bn
  have bk8 : Boxed w8 (w.heap.size + 1 + 1) 4 (.bool true) := (hb8.block _ bk.lt).trans bk
  rw [hs3, es] at hx8
  rw [es] at bp8 bn8 bk8
  clear hb8 bp bn bk hB3
  obtain ⟨T, eT⟩ : ∃ T : Nat → Prop, T = fun q => q = s + 1 ∨ q = s + 1 + 1 := ⟨_, rfl⟩
  have hT1 : T (s + 1) := by rw [eT]; exact .inl rfl
  have hT2 : T (s + 1 + 1) := by rw [eT]; exact .inr rfl
  have hk1 := bn8.lt
  have hk2 := bk8.lt
  have hTw : ∀ q, T q → q < w8.heap.size := by rw [eT]; rintro q (rfl | rfl) <;> omega
  have hTb : ∀ q, T q → w.heap.size ≤ q := by rw [eT]; rintro q (rfl | rfl) <;> omega
  have hTx : ¬ T (s + 3) := by rw [eT]; rintro (h | h) <;> omega
  have hTs : ¬ T s := by rw [eT]; rintro (h | h) <;> omega
  have hTF : ∀ k, F k → ¬ T k := by rw [eT]; intro k hk h; have := (HG1.out.foot k hk).2; rcases h with h | h <;> omega
  have HT8 := hid (fun W (h : KS T w8 W) => (hB8.trans (h.under hTb hB8.size) : Below w.heap.size w W))
  have hseq := all_seq (5 - 1) (by omega) w8 (s + 3) b B F most q tk f c Q ks (HG1.out.far hB8) HG2.out T hx8 hTx hTF hTw
  rw [HG3.out] at hseq
  have HSEQ := hid hseq
  have HBP := hid (fun W (h : KS T w8 W) => h.cell hTs bp8.cell)
  clear hseq hx8 eT
  go_wp2_with fail
  refine (wpIn_wide (n := 5)).1 ?_
  apply wpIn_rangeFunc_E rfl (by omega) (gf := 34) (lb := #[.pointer (some ⟨s + 3, 0, none⟩)]) rfl trivial (enters_of Try.func34 (by kernel_rfl) rfl) HSEQ.out hTw (KS.refl _ _) (fun _ => rfl)
    (fun pre W => KS T w8 W ∧ Boxed W (s + 1) 3 (.int .i64 pre.length) ∧ Boxed W (s + 1 + 1) 4 (.bool true))
    (fun _ _ _ => False)
    (fun _ _ _ h hb => ⟨h.1.far hb, (hb.block _ hk1).trans h.2.1, (hb.block _ hk2).trans h.2.2⟩)
    (fun _ _ _ _ h _ => h.elim)
    ⟨KS.refl _ _, bn8, bk8⟩ _ ?assign ?body ?done ?stop
  case assign =>
    intro lq x W K hK
    simp only [encP]
    gi_wp2
    exact hK
  case body =>
    rintro lq pre ⟨xt, xv⟩ W hsW ⟨hks, hbn, hbk⟩ hlen hsp
    have hpl : ((pre ++ [(xt, xv)]).length : Int) = pre.length + 1 := by simp
    obtain ⟨hgx, hgl⟩ := get_snoc hsp
    have hbW := HT8.out W hks
    obtain ⟨A, cc, -, -, q2, hrl, hc⟩ := (HDA.out.far hbW).cells
    obtain ⟨g, o, rfl, c0, c1⟩ := it_at hc hgx
    simp only at c0 c1
    have qp := HBP.out W hks
    have hlp := World.block_lt_of_cell? W _ qp
    simp only at hlp
    have qn := hbn.cell
    have qk := hbk.cell
    have lt1 := hbn.lt
    have lt2 := hbk.lt
    have HKS := hid hks
    have HBN := hid hbn
    have HBK := hid hbk
    obtain ⟨p, ep⟩ : ∃ p, pre.length = p := ⟨_, rfl⟩
    obtain ⟨n, en⟩ : ∃ n, L.length = n := ⟨_, rfl⟩
    rw [ep] at qn HBN hpl hgl c0 c1
    rw [en] at q2 hgl hln
    have HPL := hid hpl
    have hgl2 : decide ((p : Int) < (n : Int)) = true := by simp; omega
    have e1 : IntKind.i64.wrap ((p : Int) + 1) = (p : Int) + 1 := by rw [IntKind.wrap_i64]; omega
    clear hks hbn hbk hpl HSEQ hsp ep hlen hgx hc hbW
    gi_wp2_with fail
    refine wpIn_region_toR 34 1 (by kernel_rfl) (by kernel_rfl) (by kernel_rfl) rfl (by kernel_rfl) ?_
    simp only [List.take_succ_cons, List.take_zero]
    repeat (gi_big_quiet_step ((fail)))
    refine wpQuietIn_nil ?_
    rintro _ ⟨xq, rfl⟩
    have hbp : Below W.heap.size W (W.past xq) := W.below_past xq
    obtain ⟨wp, ewp⟩ : ∃ wp, wp = W.past xq := ⟨_, rfl⟩
    rw [← ewp] at hbp ⊢
    have HKP := hid (HKS.out.trans (KS.of_below (S := T) hbp))
    have HBN2 := hid (show Boxed wp (s + 1) 3 (.int .i64 p) from (hbp.block _ HBN.out.lt).trans HBN.out)
    have hbk2 : Boxed wp (s + 1 + 1) 4 (.bool true) := (hbp.block _ HBK.out.lt).trans HBK.out
    have HKW := hid (show KS T W wp from KS.of_below hbp)
    clear ewp hbp q2 c0 c1 qp qn qk lt1 lt2
    have f2 := hbk2.frozen
    have q2 := hbk2.cell
    have lt2 := hbk2.lt
    have HBK2 := hid hbk2
    clear hbk2
    refine wpAnyIn_ready (rs := [34]) (by kernel_rfl) (by simp) ?_
    refine AllReadyIn.cons rfl (fun K hK => ?_) AllReadyIn.nil
    go_simp
    refine hK _ _ ?_
    clear hK K
    refine wpAnyIn_done (by kernel_rfl) ?_ _
    obtain ⟨w9, ew9⟩ : ∃ w9, w9 = wp.setCell ⟨s + 1 + 1, 0, none⟩ (.bool true) := ⟨_, rfl⟩
    have hk9 : KS T wp w9 := by rw [ew9]; exact (KS.refl T wp).setCell hT2 0 _
    have hb9 : Boxed w9 (s + 1 + 1) 4 (.bool true) := by rw [ew9]; exact HBK2.out.set _
    have hn9 : Boxed w9 (s + 1) 3 (.int .i64 p) := by rw [ew9]; exact (Below.heap_setCell wp ⟨s + 1 + 1, 0, none⟩ _ (s + 1) (by simp)).trans HBN2.out
    rw [← ew9]
    have HK9 := hid hk9
    have HB9 := hid hb9
    have HN9 := hid hn9
    clear f2 q2 lt2 ew9 hk9 hb9
    have q1 := hn9.cell
    have f1 := hn9.frozen
    have lt1 := hn9.lt
    clear hn9
    gi_wp2
    have hk10 : KS T w9 (w9.setCell ⟨s + 1, 0, none⟩ (.int .i64 ((p : Int) + 1))) := (KS.refl T w9).setCell hT1 0 _
    refine ⟨(HKW.out.trans HK9.out).trans hk10, (HKP.out.trans HK9.out).trans hk10, ?_, ?_⟩
    · rw [HPL.out]; exact HN9.out.set _
    · exact (Below.heap_setCell w9 ⟨s + 1, 0, none⟩ _ (s + 1 + 1) (by simp)).trans HB9.out
  case stop =>
    intro D c pre W hD hSp h
    exact h.elim
  case done =>
    rintro D pre W hD hS ⟨hks, hbn, hbk⟩ hKD
    subst hS
    have hbW := HT8.out W hks
    obtain ⟨A, cc, -, -, q2, hrl, -⟩ := (HDA.out.far hbW).cells
    have HLN := hid (fun y : Past => QLen_any ((HQA.out.far hbW).far (W.below_past y)))
    have qp := HBP.out W hks
    have hlp := World.block_lt_of_cell? W _ qp
    simp only at hlp
    have qn := hbn.cell
    have qk := hbk.cell
    have lt1 := hbn.lt
    have lt2 := hbk.lt
    have HBW := hid hbW
    have HKD := hid hKD
    obtain ⟨n, en⟩ : ∃ n, pre.length = n := ⟨_, rfl⟩
    rw [en] at q2 qn HLN
    have hlD := (Array.getElem?_eq_some_iff.1 hKD).1
    clear hks hbn hbk HSEQ hbW hKD en
    go_wp2_with fail
    refine wp_region_past (by kernel_rfl) (by kernel_rfl) ?_
    repeat (go_big_quiet_step ((first | (go_at_call 10; first | with_reducible exact Calls.in_past (HLN.out _) | with_reducible exact Calls.in_past2 (HLN.out _)) | (go_at_call 10; first | exact Calls.in_past (HLN.out _) | exact Calls.in_past2 (HLN.out _)))))
    refine wpQuiet_nil ?_
    rintro _ ⟨_, rfl⟩
    rename_i xq
    go_wp2_with fail
    have hKF : (W.past xq).heap[D]? = some (.deferred (some [])) := by rw [World.block_past hlD]; exact HKD.out
    have hb8 : Below w.heap.size w (W.past xq) := HBW.out.trans ((W.below_past xq).mono HBW.out.size)
    have hBx := below_putObj hb8 (show w.heap.size ≤ D by have := hB8.size; omega) (.deferred none)
    clear q2 qp qn qk
    refine ⟨by simp, .inl ⟨_, _, rfl, run_takeDeferred hKF, ?_⟩⟩
    exact ⟨.bool true, by simp [results, Try.results19, go_sem], Gives.mk rfl hBx⟩
end Go.Proofs.Ytifdogmlaengoaa
