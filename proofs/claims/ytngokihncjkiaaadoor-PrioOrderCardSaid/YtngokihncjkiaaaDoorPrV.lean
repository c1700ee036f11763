/-
  Layer 39: no queue at all. No condition but the table of the library's.
-/
import Derived.Test.YtngokihncjkiaaaDoorPrJ
import Derived.Test.YtngokihncjkiaaaDoorPrX
import Derived.Test.YtngokihncjkiaaaDoorHas
import Derived.Test.YtngokihncjkiaaaDoorPrW
namespace Go.Proofs.YtngokihncjkiaaaDoor
open Go.RowKit Go.Shelf
attribute [local go_sem] Oper.semAt_some
theorem flatMap_filter {α β : Type} (p : α → Bool) (f : α → List β) : ∀ l : List α, (∀ x ∈ l, p x = false → f x = []) → (l.filter p).flatMap f = l.flatMap f
  | [], _ => rfl
  | x :: l, h => by
    have ih := flatMap_filter p f l (fun y hy => h y (List.mem_cons_of_mem _ hy))
    cases hp : p x
    · rw [List.filter_cons_of_neg (by rw [hp]; exact Bool.false_ne_true), ih, List.flatMap_cons, h x List.mem_cons_self hp, List.nil_append]
    · rw [List.filter_cons_of_pos hp, List.flatMap_cons, List.flatMap_cons, ih]
theorem items_all {L : Nat → List (Int × Int)} {ls : List Nat} (h1 : ∀ i, i ∈ ls ↔ i < 64 ∧ L i ≠ []) (h2 : ls.Pairwise (· < ·)) : itemsL L ls = flL L := by
  have e : ls = (List.range 64).filter fun i => decide (L i ≠ []) := by
    have h3 : ((List.range 64).filter fun i => decide (L i ≠ [])).Pairwise (· < ·) := List.Pairwise.filter _ List.pairwise_lt_range
    refine List.Perm.eq_of_pairwise (fun a b _ _ h1 h2 => absurd (Nat.lt_trans h1 h2) (Nat.lt_irrefl a)) h2 h3 ((List.perm_ext_iff_of_nodup (h2.imp Nat.ne_of_lt) (h3.imp Nat.ne_of_lt)).2 fun i => (h1 i).trans ?_)
    rw [List.mem_filter, List.mem_range]
    simp
  rw [e]
  unfold itemsL flL
  rw [show (fun i => (L i).map fun x => ((i : Int), x.2)) = fun i => lvl i (L i) from rfl]
  refine flatMap_filter _ _ _ (fun i _ hi => ?_)
  have : L i = [] := by simpa using hi
  rw [this]; rfl
theorem RWithA_any (s k : Nat) (hk : k < 64) (hs : s < 18446744073709551616) (w : World) :
    Calls Tryd.prog 15 #[.int .u64 (s : Int), .int .i64 (k : Int)] w (Gives (.int .u64 ((s ||| 2 ^ k : Nat) : Int)) w) := by
  have HH := hid (RHasN_gives s k hk)
  have h1 : decide ((63 : Int) < (k : Int)) = false := by simp; omega
  have h2 : decide ((k : Int) < 0) = false := by simp
  cases hb : s.testBit k
  · have hor : s ||| 2 ^ k = s + 2 ^ k := by
      have h1 : (BitVec.ofNat 64 s).toNat = s := by rw [BitVec.toNat_ofNat]; exact Nat.mod_eq_of_lt (by omega)
      have h2 : (BitVec.ofNat 64 (2 ^ k)).toNat = 2 ^ k := by rw [BitVec.toNat_ofNat]; exact Nat.mod_eq_of_lt (by have := pow_lt64 hk; omega)
      have h3 : BitVec.ofNat 64 s &&& BitVec.ofNat 64 (2 ^ k) = 0#64 := by
        apply BitVec.eq_of_toNat_eq
        rw [BitVec.toNat_and, h1, h2]
        apply Nat.eq_of_testBit_eq
        intro i
        rw [Nat.testBit_and, Nat.testBit_two_pow]
        by_cases e : k = i
        · subst e; rw [hb]; simp
        · simp [e]
      have h4 := BitVec.add_eq_or_of_and_eq_zero _ _ h3
      have h5 := BitVec.toNat_add_of_and_eq_zero h3
      rw [h4, BitVec.toNat_or, h1, h2] at h5
      exact h5
    have hlt : s + 2 ^ k < 18446744073709551616 := by rw [← hor]; exact Nat.or_lt_two_pow (n := 64) (by omega) (pow_lt64 hk)
    have HS := hid (show IntKind.u64.wrap ((s : Int) + 2 ^ k) = ((s ||| 2 ^ k : Nat) : Int) by
      rw [hor]
      have : (2 : Int) ^ k = ((2 ^ k : Nat) : Int) := by simp
      rw [this]
      generalize 2 ^ k = q at hlt ⊢
      rw [IntKind.wrap_u64]; omega)
    have HP := hid (show IntKind.u64.wrap ((2 : Int) ^ k) = 2 ^ k from wrap_pow k (by omega))
    clear hs hlt hor
    rw [hb] at HH
    clear hb
    go_enter Tryd.func15, Tryd.ntmps15
    go_wp2_with (go_at_call 35; refine (HH.out _).mono ?_; rintro _ _ ⟨rfl, x1, rfl⟩)
    go_ret
    refine Gives.mk ?_ (w.below_past _)
    show Value.int .u64 (IntKind.u64.wrap ((s : Int) + IntKind.u64.wrap (2 ^ k))) = _
    rw [HP.out, HS.out]
  · have HE := hid (show s ||| 2 ^ k = s from by
      apply Nat.eq_of_testBit_eq
      intro i
      rw [Nat.testBit_or, Nat.testBit_two_pow]
      by_cases e : k = i
      · subst e; rw [hb]; simp
      · simp [e])
    rw [hb] at HH
    clear hb
    go_enter Tryd.func15, Tryd.ntmps15
    go_wp2_with (go_at_call 35; refine (HH.out _).mono ?_; rintro _ _ ⟨rfl, x1, rfl⟩)
    go_ret
    exact Gives.mk (by rw [HE.out]; rfl) (w.below_past _)
set_option maxRecDepth 100000 in
set_option maxHeartbeats 4000000 in
theorem same_any {B : Nat} {w : World} {b : Nat} {F : Nat → Prop} {most : Int} {tk : Nat → Int} {L : Nat → List (Int × Int)} (h1 : PQ B w b F most tk L) (hZ : Tz w) {B' r : Nat} {G : Nat → Prop} {most' : Int} (h2 : EA B' w r G most' (flL L)) (hl : tot L ≤ 5000) (n : Int) :
    Calls Tryd.prog 18 #[.pointer (some ⟨b, 0, none⟩), .pointer (some ⟨r, 0, none⟩), .int .i64 n] w (Gives (.bool true) w) := by
  have HDA := hid h2
  have hln : (flL L).length ≤ 5000 := by rw [flL_length]; exact hl
  refine (callsIn_wide (n := 8)).1 ?_
  refine callsIn_of_wp_marks Tryd.func18 rfl trivial ?_ rfl
  refine wpIn_wide.2 ?_
  simp only [Tryd.ntmps18, List.size_toArray, List.length_cons, List.length_nil, Nat.reduceAdd, Nat.reduceSub, Array.replicate_succ, Array.replicate_zero, List.push_toArray, List.append_toArray, List.nil_append, List.cons_append]
  obtain ⟨w3, ew3⟩ : ∃ w3, w3 = (((w.alloc (.cells #[.pointer (some ⟨r, 0, none⟩)] 26)).alloc (.cells #[.int .i64 n] 3)).alloc (.cells #[.bool false] 4)).alloc (.cells #[.int .i64 0] 3) := ⟨_, rfl⟩
  have bp := (((Boxed.new w 26 (.pointer (some ⟨r, 0, none⟩))).alloc (.cells #[.int .i64 n] 3)).alloc (.cells #[.bool false] 4)).alloc (.cells #[.int .i64 0] 3)
  have bm := ((Boxed.new (w.alloc (.cells #[.pointer (some ⟨r, 0, none⟩)] 26)) 3 (.int .i64 n)).alloc (.cells #[.bool false] 4)).alloc (.cells #[.int .i64 0] 3)
  have bk := (Boxed.new ((w.alloc (.cells #[.pointer (some ⟨r, 0, none⟩)] 26)).alloc (.cells #[.int .i64 n] 3)) 4 (.bool false)).alloc (.cells #[.int .i64 0] 3)
  have bn := Boxed.new (((w.alloc (.cells #[.pointer (some ⟨r, 0, none⟩)] 26)).alloc (.cells #[.int .i64 n] 3)).alloc (.cells #[.bool false] 4)) 3 (.int .i64 0)
  rw [World.size_alloc] at bm
  rw [World.size_alloc, World.size_alloc] at bk
  rw [World.size_alloc, World.size_alloc, World.size_alloc] at bn
  have hB3 : Below w.heap.size w w3 := by rw [ew3]; exact ((((Below.refl _ w).alloc (Nat.le_refl _) _).alloc (by simp) _).alloc (by simp; omega) _).alloc (by simp; omega) _
  have hs3 : w3.heap.size = w.heap.size + 4 := by rw [ew3]; simp
  rw [← ew3] at bp bm bn bk
  have EW := hid ew3
  obtain ⟨s, es⟩ : ∃ s, w.heap.size = s := ⟨_, rfl⟩
  have ES := hid es
  have HQA := hid h1
  have HZ := hid hZ
  have hFw := hid (fun k (hk : F k) => ((PQ.is).foot h1 hk).2)
  have hzw := hZ.lt
  clear ew3 h1 h2 hZ
  go_wp2_with fail
  rw [← EW.out]
  refine (PAll_any (some ⟨b, 0, none⟩) w3).mono ?_
  rintro _ w8 ⟨rfl, hb8, hs8, hx8⟩
  have hB8 : Below w.heap.size w w8 := below_trans' hB3 hb8
  have bp8 : Boxed w8 w.heap.size 26 (.pointer (some ⟨r, 0, none⟩)) := (hb8.block _ bp.lt).trans bp
  have bm8 : Boxed w8 (w.heap.size + 1) 3 (.int .i64 n) := (hb8.block _ bm.lt).trans bm
  have bk8 : Boxed w8 (w.heap.size + 1 + 1) 4 (.bool false) := (hb8.block _ bk.lt).trans bk
  have bn8 : Boxed w8 (w.heap.size + 1 + 1 + 1) 3 (.int .i64 0) := (hb8.block _ bn.lt).trans bn
  rw [hs3, es] at hx8
  rw [es] at bp8 bm8 bn8 bk8 hzw
  clear hb8 bp bm bn bk hB3
  obtain ⟨T, eT⟩ : ∃ T : Nat → Prop, T = fun q => q = s + 1 + 1 ∨ q = s + 1 + 1 + 1 := ⟨_, rfl⟩
  have hT1 : T (s + 1 + 1) := by rw [eT]; exact .inl rfl
  have hT2 : T (s + 1 + 1 + 1) := by rw [eT]; exact .inr rfl
  have hk1 := bk8.lt
  have hk2 := bn8.lt
  have hTw : ∀ q, T q → q < w8.heap.size := by rw [eT]; rintro q (rfl | rfl) <;> omega
  have hTb : ∀ q, T q → w.heap.size ≤ q := by rw [eT]; rintro q (rfl | rfl) <;> omega
  have hTx : ¬ T (s + 4) := by rw [eT]; rintro (h | h) <;> omega
  have hTs : ¬ T s := by rw [eT]; rintro (h | h) <;> omega
  have hTm : ¬ T (s + 1) := by rw [eT]; rintro (h | h) <;> omega
  have hTF : ∀ k, F k → ¬ T k := by rw [eT]; intro k hk h; have := hFw.out k hk; rcases h with h | h <;> omega
  have hZT : ¬ T 0 := fun h => by have := hTb _ h; omega
  have HT8 := hid (fun W (h : KS T w8 W) => (hB8.trans (h.under hTb hB8.size) : Below w.heap.size w W))
  obtain ⟨ls, hls1, hls2, hseq⟩ := prio_all_seq (8 - 1) (by omega) w8 (s + 4) b B F most tk L (HQA.out.far hB8) T hx8 hTx hTF hTw (HZ.out.below hB8) hZT
  rw [items_all hls1 hls2] at hseq
  obtain ⟨D, eD⟩ : ∃ D, flL L = D := ⟨_, rfl⟩
  rw [eD] at hseq hln HDA
  have HSEQ := hid hseq
  have HBP := hid (fun W (h : KS T w8 W) => h.cell hTs bp8.cell)
  have HBM := hid (fun W (h : KS T w8 W) => h.cell hTm bm8.cell)
  clear hseq hx8 eT hls1 hls2 eD HQA HZ hFw
  go_wp2_with fail
  refine (wpIn_wide (n := 8)).1 ?_
  apply wpIn_rangeFunc_E rfl (by omega) (gf := 36) (lb := #[.pointer (some ⟨s + 4, 0, none⟩)]) rfl trivial (enters_of Tryd.func36 (by kernel_rfl) rfl) HSEQ.out hTw (KS.refl _ _) (fun _ => rfl)
    (fun pre W => KS T w8 W ∧ Boxed W (s + 1 + 1 + 1) 3 (.int .i64 pre.length) ∧ Boxed W (s + 1 + 1) 4 (.bool false))
    (fun c _ W => c = .ret ∧ KS T w8 W ∧ Boxed W (s + 1 + 1) 4 (.bool true))
    (fun _ _ _ h hb => ⟨h.1.far hb, (hb.block _ hk2).trans h.2.1, (hb.block _ hk1).trans h.2.2⟩)
    (fun _ _ _ _ h hb => ⟨h.1, h.2.1.far hb, (hb.block _ hk1).trans h.2.2⟩)
    ⟨KS.refl _ _, bn8, bk8⟩ _ ?assign ?body ?done ?stop
  case assign =>
    intro lq x W K hK
    simp only [encP]
    gi_wp2
    exact hK
  case body =>
    rintro lq pre ⟨xl, xv⟩ W hsW ⟨hks, hbn, hbk⟩ hlen hsp
    have hpl : ((pre ++ [(xl, xv)]).length : Int) = pre.length + 1 := by simp
    have hgx : D[pre.length]? = some (xl, xv) ∧ pre.length < D.length := by
      obtain ⟨t, rfl⟩ := hsp
      simp
    obtain ⟨hgx, hgl⟩ := hgx
    have hbW := HT8.out W hks
    obtain ⟨A, cc, -, q2, hrl, hc⟩ := (HDA.out.far hbW).cells
    obtain ⟨g, o, rfl, c0, c1⟩ := it_at hc hgx
    simp only at c0 c1
    have qp := HBP.out W hks
    have hlp := World.block_lt_of_cell? W _ qp
    have qm := HBM.out W hks
    have hlm := World.block_lt_of_cell? W _ qm
    simp only at hlp hlm
    have qn := hbn.cell
    have qk := hbk.cell
    have fn := hbn.frozen
    have lt1 := hbn.lt
    have lt2 := hbk.lt
    have HKS := hid hks
    have HBN := hid hbn
    have HBK := hid hbk
    obtain ⟨p, ep⟩ : ∃ p, pre.length = p := ⟨_, rfl⟩
    obtain ⟨m, em⟩ : ∃ m, D.length = m := ⟨_, rfl⟩
    rw [ep] at qn HBN hpl hgl c0 c1
    rw [em] at q2 hgl hln
    have HPL := hid hpl
    have hgl2 : decide ((p : Int) < (m : Int)) = true := by simp; omega
    have hgl3 : decide (m ≤ p) = false := by simp; omega
    have e1 : IntKind.i64.wrap ((p : Int) + 1) = (p : Int) + 1 := by rw [IntKind.wrap_i64]; omega
    clear hks hbn hbk hpl HSEQ hsp ep hlen hgx hc hbW
    have d1 : (xl != xl) = false := by simp
    gi_wp2_with fail
    refine wpIn_region_pastR (by kernel_rfl) (by kernel_rfl) (by kernel_rfl) ?_
    repeat (gi_big_quiet_step ((fail)))
    refine wpQuietIn_nil ?_
    rintro _ ⟨xq, rfl⟩
    have hbp : Below W.heap.size W (W.past xq) := W.below_past xq
    obtain ⟨wp, ewp⟩ : ∃ wp, wp = W.past xq := ⟨_, rfl⟩
    rw [← ewp] at hbp ⊢
    have HKW := hid (show KS T W wp from KS.of_below hbp)
    have HBN2 := hid (show Boxed wp (s + 1 + 1 + 1) 3 (.int .i64 p) from (hbp.block _ HBN.out.lt).trans HBN.out)
    have HBK2 := hid (show Boxed wp (s + 1 + 1) 4 (.bool false) from (hbp.block _ HBK.out.lt).trans HBK.out)
    have HKP := hid (show KS T w8 wp from HKS.out.trans HKW.out)
    clear ewp hbp q2 c0 c1 qp qm qn qk fn lt1 lt2 HBN HBK hlp hlm hrl
    have q1 := HBN2.out.cell
    have f1 := HBN2.out.frozen
    have l1 := HBN2.out.lt
    obtain ⟨w9, ew9⟩ : ∃ w9, w9 = wp.setCell ⟨s + 1 + 1 + 1, 0, none⟩ (.int .i64 ((p : Int) + 1)) := ⟨_, rfl⟩
    have hk9 : KS T wp w9 := by rw [ew9]; exact (KS.refl T wp).setCell hT2 0 _
    have HB9 := hid (show Boxed w9 (s + 1 + 1) 4 (.bool false) by rw [ew9]; exact (Below.heap_setCell wp ⟨s + 1 + 1 + 1, 0, none⟩ _ (s + 1 + 1) (by simp)).trans HBK2.out)
    have HN9 := hid (show Boxed w9 (s + 1 + 1 + 1) 3 (.int .i64 ((p : Int) + 1)) by rw [ew9]; exact HBN2.out.set _)
    have HK9 := hid hk9
    have EW9 := hid ew9
    clear ew9 hk9
    have q0 := HBM.out wp HKP.out
    have q2 := HBK2.out.cell
    have f2 := HBK2.out.frozen
    have l2 := HBK2.out.lt
    have l0 := World.block_lt_of_cell? wp _ q0
    simp only at l0
    by_cases hn : n < (p : Int) + 1
    · gi_wp2_with fail
      rw [← EW9.out]
      have hk10 : KS T w9 (w9.setCell ⟨s + 1 + 1, 0, none⟩ (.bool true)) := (KS.refl T w9).setCell hT1 0 _
      exact ⟨(HKW.out.trans HK9.out).trans hk10, rfl, (HKP.out.trans HK9.out).trans hk10, HB9.out.set _⟩
    · gi_wp2_with fail
      rw [← EW9.out]
      refine ⟨HKW.out.trans HK9.out, HKP.out.trans HK9.out, ?_, HB9.out⟩
      rw [HPL.out]; exact HN9.out
  case stop =>
    rintro D2 c pre W hD hSp ⟨hc, hks, hbk⟩ hKD
    subst hc
    have hD2 : s + 1 + 1 < D2 := by omega
    have z1 : (W.putObj D2 (.deferred none)).cell? ⟨s + 1 + 1, 0, none⟩ = some (.bool true) := Boxed.cell (show Boxed _ _ 4 _ from (World.putObj_heap_other (by omega)).trans hbk)
    have hBx := below_putObj (HT8.out W hks) (show w.heap.size ≤ D2 by have := hB8.size; omega) (.deferred none)
    refine wpIn_wide.2 ?_
    go_wp2
    refine ⟨by simp, .inl ⟨_, _, rfl, run_takeDeferred hKD, ?_⟩⟩
    exact ⟨.bool true, by simp [results, Tryd.results18, go_sem, z1], Gives.mk rfl hBx⟩
  case done =>
    rintro D2 pre W hD hS ⟨hks, hbn, hbk⟩ hKD
    subst hS
    have hbW := HT8.out W hks
    obtain ⟨A, cc, -, q2, hrl, -⟩ := (HDA.out.far hbW).cells
    have qp := HBP.out W hks
    have hlp := World.block_lt_of_cell? W _ qp
    simp only at hlp
    have qn := hbn.cell
    have qk := hbk.cell
    have fk := hbk.frozen
    have lt1 := hbn.lt
    have lt2 := hbk.lt
    have HBK := hid hbk
    have HBW := hid hbW
    have HKD := hid hKD
    obtain ⟨n, en⟩ : ∃ n, pre.length = n := ⟨_, rfl⟩
    rw [en] at q2 qn
    have hD2 : s + 1 + 1 < D2 := by omega
    have HDW := hid (show w.heap.size ≤ D2 by have := hB8.size; omega)
    have HKS2 := hid hks
    clear hks hbn hbk HSEQ hbW hKD en
    go_wp2_with fail
    go_region
    obtain ⟨W', eW'⟩ : ∃ W', W' = (W.setCell ⟨s + 1 + 1, 0, none⟩ (.bool true)).drew := ⟨_, rfl⟩
    have hk' : KS T W (W.setCell ⟨s + 1 + 1, 0, none⟩ (.bool true)) := (KS.refl T W).setCell hT1 0 _
    have hb9 : Boxed W' (s + 1 + 1) 4 (.bool true) := by rw [eW']; exact HBK.out.set _
    have hKD' : W'.heap[D2]? = some (.deferred (some [])) := by rw [eW']; exact (Below.heap_setCell _ ⟨s + 1 + 1, 0, none⟩ _ D2 (by simp; omega)).trans HKD.out
    have hbx0 : Below w.heap.size w W' := by rw [eW']; exact (HT8.out _ (KS.trans HKS2.out hk')).drew
    have z1 : (W'.putObj D2 (.deferred none)).cell? ⟨s + 1 + 1, 0, none⟩ = some (.bool true) := Boxed.cell (show Boxed _ _ 4 _ from (World.putObj_heap_other (by omega)).trans hb9)
    have hBx := below_putObj hbx0 HDW.out (.deferred none)
    rw [← eW']
    clear eW' qn q2 qp qk fk
    go_wp2_with fail
    refine ⟨by simp, .inl ⟨_, _, rfl, run_takeDeferred hKD', ?_⟩⟩
    exact ⟨.bool true, by simp [results, Tryd.results18, go_sem, z1], Gives.mk rfl hBx⟩
end Go.Proofs.YtngokihncjkiaaaDoor
namespace Go.Proofs.YtngokihncjkiaaaDoor
open Go.RowKit
attribute [local go_sem] Oper.semAt_some
theorem mostE_eq (most : Int) : mostE most = mostA most := by unfold mostE mostA; omega
theorem flL_nil {L : Nat → List (Int × Int)} (h : tot L = 0) : flL L = [] := List.eq_nil_of_length_eq_zero (by rw [flL_length]; exact h)
theorem PPopZ_any {B : Nat} {w : World} {b : Nat} {F : Nat → Prop} {most : Int} {tk : Nat → Int} {L : Nat → List (Int × Int)} (h : PQ B w b F most tk L) (hZ : Tz w) (h0 : tot L = 0) :
    Calls Tryd.prog 11 #[.pointer (some ⟨b, 0, none⟩)] w (Gives (.tuple #[.int .i64 0, .int .i64 0, .bool false]) w) := by
  obtain ⟨rp, so, n, hA, hS, hn⟩ := id h
  have HLEN := hid (PLen_any hA)
  rw [hn, h0] at HLEN
  have HPK := hid (fun x : Past => (show Calls Tryd.prog 10 #[.pointer (some ⟨b, 0, none⟩)] (w.past x) (Gives (.tuple #[.int .i64 0, .int .i64 0, .bool false]) (w.past x)) from by
    obtain ⟨ls, h1, h2, h3⟩ := PPeek_any (h.far (w.below_past x)) (hZ.below (w.below_past x))
    rw [items_all h1 h2, flL_nil h0] at h3
    exact h3))
  clear h hA hS hn hZ
  go_enter Tryd.func11, Tryd.ntmps11
  go_wp2_with (first | (go_at_call 16; refine (HLEN.out).mono ?_; rintro _ _ ⟨rfl, x1, rfl⟩) | (go_at_call 10; refine (HPK.out _).mono ?_; rintro _ _ ⟨rfl, x2, rfl⟩))
  refine bodyPost_ret (v := .tuple #[.int .i64 0, .int .i64 0, .bool false]) (by simp [results, Tryd.results11, go_sem]) rfl ?_
  exact Gives.mk rfl (by (repeat (first | exact Below.refl _ _ | refine RowKit.Below.past ?_ _ | refine RowKit.Below.alloc' ?_ _ | refine RowKit.Below.drew' ?_ | refine RowKit.Below.drewN' ?_ _ | refine RowKit.Below.setCell' ?_ (by simp [go_sem]) _)))
theorem ELiftN_any {B : Nat} {w : World} {r : Nat} {F : Nat → Prop} {most : Int} {D : List (Int × Int)} (h : EA B w r F most D) (i j : Int) (hn : i = j ∨ (i < 0 ∨ 64 ≤ i) ∨ (j < 0 ∨ 64 ≤ j)) :
    Calls Tryd.prog 14 #[.pointer (some ⟨r, 0, none⟩), .int .i64 i, .int .i64 j] w (Gives (.int .i64 0) w) := by
  have hc : ((i != j) = false) ∨ ((i != j) = true ∧ decide (0 ≤ i) = false) ∨ ((i != j) = true ∧ decide (0 ≤ i) = true ∧ decide (i < 64) = false) ∨ ((i != j) = true ∧ decide (0 ≤ i) = true ∧ decide (i < 64) = true ∧ decide (0 ≤ j) = false) ∨ ((i != j) = true ∧ decide (0 ≤ i) = true ∧ decide (i < 64) = true ∧ decide (0 ≤ j) = true ∧ decide (j < 64) = false) := by
    simp only [decide_eq_true_iff, decide_eq_false_iff_not, bne_iff_ne, bne_eq_false_iff_eq]
    omega
  clear h hn
  go_enter Tryd.func14, Tryd.ntmps14
  go_wp2_with fail
  go_loopw [7, 8, 9] (fun v _ _ wr => v = .int .i64 0 ∧ ∃ x : Past, wr = w.past x) (fun _ _ _ _ => 0)
  case atStart => exact ⟨rfl, ⟨#[], w.drawn⟩, by cases w; simp [World.past]⟩
  case round =>
    obtain ⟨rfl, x, rfl⟩ := hrel
    rcases hc with h1 | ⟨h1, h2⟩ | ⟨h1, h2, h3⟩ | ⟨h1, h2, h3, h4⟩ | ⟨h1, h2, h3, h4, h5⟩
    all_goals
      go_wp2_with fail
      refine wp_region_past (by kernel_rfl) (by kernel_rfl) ?_
      repeat (go_big_quiet_step ((fail)))
      refine wpQuiet_nil ?_
      rintro _ ⟨_, rfl⟩
      go_wp2_with fail
      go_ret
      exact Gives.mk rfl (by (repeat (first | exact Below.refl _ _ | refine RowKit.Below.past ?_ _ | refine RowKit.Below.alloc' ?_ _ | refine RowKit.Below.drew' ?_ | refine RowKit.Below.drewN' ?_ _ | refine RowKit.Below.setCell' ?_ (by simp [go_sem]) _)))
abbrev pO (B : Nat) (b : Nat) (most : Int) (tk : Nat → Int) (L : Nat → List (Int × Int)) : Ob := fun W F => PQ B W b F most tk L
abbrev eO (B : Nat) (r : Nat) (most : Int) (D : List (Int × Int)) : Ob := fun W F => EA B W r F most D
abbrev stO (B : Nat) (b r : Nat) (most : Int) (tk : Nat → Int) (L : Nat → List (Int × Int)) (D : List (Int × Int)) : Ob := Pr (pO B b most tk L) (eO B r (mostA most) D)
theorem stO_is {B b r : Nat} {most : Int} {tk : Nat → Int} {L : Nat → List (Int × Int)} {D : List (Int × Int)} : IsO B (stO B b r most tk L D) := Pr.isO PQ.is EA.is
abbrev St3 (B : Nat) (X : Nat → Prop) (w8 W : World) (b r : Nat) (most : Int) (tk : Nat → Int) (L : Nat → List (Int × Int)) (D : List (Int × Int)) : Prop := Kp B (stO B b r most tk L D) X w8 W
/-- How many, and how high the tickets are. -/
def Bd (n : Nat) (tk : Nat → Int) (L : Nat → List (Int × Int)) : Prop := tot L ≤ n ∧ ∀ i, i < 64 → tk i ≤ 100 * n
section
variable {B n : Nat} {X : Nat → Prop} {w8 W W' : World} {b r : Nat} {most : Int} {tk tk' : Nat → Int} {L L' : Nat → List (Int × Int)} {D D' : List (Int × Int)}
theorem Bd.succ (h : Bd n tk L) : Bd (n + 1) tk L := ⟨by have := h.1; omega, fun i hi => by have := h.2 i hi; omega⟩
theorem St3.fr (h : St3 B X w8 W b r most tk L D) (hb : Below W.heap.size W W') : St3 B X w8 W' b r most tk L D := Kp.far stO_is h hb
theorem St3.pq (h : St3 B X w8 W b r most tk L D) : ∃ F, PQ B W b F most tk L := by
  obtain ⟨F, ⟨F1, F2, a1, _⟩, _⟩ := h.ex
  exact ⟨_, a1⟩
theorem St3.ea (h : St3 B X w8 W b r most tk L D) : ∃ F, EA B W r F (mostA most) D := by
  obtain ⟨F, ⟨F1, F2, _, a2, _⟩, _⟩ := h.ex
  exact ⟨_, a2⟩
theorem St3.qact (h : St3 B X w8 W b r most tk L D) {fn : FuncId} {args : Array Value} {v : Value} (hc : ∀ F, PQ B W b F most tk L → Calls Tryd.prog fn args W (fun e w' => e = .returned v ∧ After (pO B b most tk' L') F W w')) :
    Calls Tryd.prog fn args W (fun e w' => e = .returned v ∧ St3 B X w8 w' b r most tk' L' D) :=
  h.act (fun _ hF => Pr.act1 (O1' := pO B b most tk' L') EA.is hF (fun F1 h1 => hc F1 h1))
theorem St3.dact (h : St3 B X w8 W b r most tk L D) {fn : FuncId} {args : Array Value} {v : Value} (hc : ∀ F, EA B W r F (mostA most) D → Calls Tryd.prog fn args W (fun e w' => e = .returned v ∧ After (eO B r (mostA most) D') F W w')) :
    Calls Tryd.prog fn args W (fun e w' => e = .returned v ∧ St3 B X w8 w' b r most tk L D') :=
  h.act (fun _ hF => Pr.act2 (O2' := eO B r (mostA most) D') PQ.is hF (fun F1 h1 => hc F1 h1))
theorem St3.gives (h : St3 B X w8 W b r most tk L D) {fn : FuncId} {args : Array Value} {v : Value} (hc : Calls Tryd.prog fn args W (Gives v W)) :
    Calls Tryd.prog fn args W (fun e w' => e = .returned v ∧ St3 B X w8 w' b r most tk L D) := by
  refine hc.mono ?_
  rintro _ _ ⟨rfl, y, rfl⟩
  exact ⟨rfl, h.fr (W.below_past y)⟩
theorem deed_push (h : St3 B X w8 W b r most tk L (flL L)) (hb : Bd n tk L) (hn : n ≤ 100) (lv v : Int) : ∃ (e : Int) (tk' : Nat → Int) (L' : Nat → List (Int × Int)), Bd (n + 1) tk' L' ∧
    Calls Tryd.prog 8 #[.pointer (some ⟨b, 0, none⟩), .int .i64 lv, .int .i64 v] W (fun e1 w' => e1 = .returned (.int .i64 e) ∧ St3 B X w8 w' b r most tk' L' (flL L)) ∧
    ∀ W', St3 B X w8 W' b r most tk' L' (flL L) → Calls Tryd.prog 9 #[.pointer (some ⟨r, 0, none⟩), .int .i64 lv, .int .i64 v] W' (fun e1 w' => e1 = .returned (.int .i64 e) ∧ St3 B X w8 w' b r most tk' L' (flL L')) := by
  by_cases ho : lv < 0 ∨ 64 ≤ lv
  · exact ⟨1, tk, L, hb.succ, h.gives (PPushN_any _ lv ho v W), fun W' h' => h'.gives (EPushN_any r lv v (by omega) W')⟩
  obtain ⟨i, rfl⟩ : ∃ i : Nat, lv = i := ⟨lv.toNat, by omega⟩
  have hi : i < 64 := by omega
  have hT := hb.1
  have ht := hb.2 i hi
  have hl := len_le_tot L hi
  by_cases hr : ((L i).length : Int) < mostA most
  · refine ⟨0, updN tk i (tk i + 1), updN L i (L i ++ [(tk i + 1, v)]), ⟨?_, fun j hj => ?_⟩, ?_, fun W' h' => ?_⟩
    · have := tot_upd L hi (L i ++ [(tk i + 1, v)])
      rw [List.length_append, List.length_singleton] at this
      omega
    · by_cases e : j = i
      · subst e; rw [updN_same]; omega
      · rw [updN_ne _ _ e]; have := hb.2 j hj; omega
    · exact h.qact (fun F hF => PPush_any hF h.size hi (by omega) (by omega) hr v)
    · refine h'.dact (fun F hF => ?_)
      have := EPush_any hF h'.size (by rw [flL_length]; omega) hi (by rw [flL_cnt L hi]; exact hr) v
      rwa [flL_ins L hi (tk i + 1) v] at this
  · refine ⟨3, tk, L, hb.succ, ?_, fun W' h' => ?_⟩
    · exact h.qact (fun F hF => PPushF_any hF h.size hi (by omega) (by omega) v)
    · obtain ⟨F, hF⟩ := h'.ea
      exact h'.gives (EPushF_any hF (by rw [flL_length]; omega) hi (by rw [flL_cnt L hi]; omega) v)
theorem deed_pop (h : St3 B X w8 W b r most tk L (flL L)) (hb : Bd n tk L) (hn : n ≤ 100) (hZ : Tz W) : ∃ (lv v : Int) (ok : Bool) (L' : Nat → List (Int × Int)), Bd (n + 1) tk L' ∧ peekV (flL L) = .tuple #[.int .i64 lv, .int .i64 v, .bool ok] ∧
    Calls Tryd.prog 11 #[.pointer (some ⟨b, 0, none⟩)] W (fun e1 w' => e1 = .returned (.tuple #[.int .i64 lv, .int .i64 v, .bool ok]) ∧ St3 B X w8 w' b r most tk L' (flL L)) ∧
    ∀ W', St3 B X w8 W' b r most tk L' (flL L) → Calls Tryd.prog 12 #[.pointer (some ⟨r, 0, none⟩)] W' (fun e1 w' => e1 = .returned (.tuple #[.agg #[.int .i64 lv, .int .i64 v], .bool ok]) ∧ St3 B X w8 w' b r most tk L' (flL L')) := by
  have hT := hb.1
  by_cases h0 : tot L = 0
  · refine ⟨0, 0, false, L, hb.succ, by rw [flL_nil h0]; rfl, ?_, fun W' h' => ?_⟩
    · obtain ⟨F, hF⟩ := h.pq
      exact h.gives (PPopZ_any hF hZ h0)
    · obtain ⟨F, hF⟩ := h'.ea
      rw [flL_nil h0] at hF
      exact h'.gives (EPopZ_any hF)
  · have hne : ∃ (i : Nat) (x : Int × Int) (R : List (Int × Int)), i < 64 ∧ L i = x :: R ∧ (∀ j, j < i → L j = []) ∧ ∀ F, PQ B W b F most tk L → Calls Tryd.prog 11 #[.pointer (some ⟨b, 0, none⟩)] W (fun e w' => e = .returned (.tuple #[.int .i64 (i : Int), .int .i64 x.2, .bool true]) ∧ After (fun W F => PQ B W b F most tk (updN L i R)) F W w') := by
      obtain ⟨F0, hF0⟩ := h.pq
      obtain ⟨i, x, R, hi, hL, hj, -⟩ := PPop_any hF0 h.size (fun i hi => by have := hb.2 i hi; omega) (by omega) hZ (by omega)
      refine ⟨i, x, R, hi, hL, hj, fun F hF => ?_⟩
      obtain ⟨i', x', R', hi', hL', hj', hc⟩ := PPop_any hF h.size (fun i hi => by have := hb.2 i hi; omega) (by omega) hZ (by omega)
      have e : i' = i := by
        have h1 : ¬ i < i' := fun g => by have := hj' i g; rw [hL] at this; cases this
        have h2 : ¬ i' < i := fun g => by have := hj i' g; rw [hL'] at this; cases this
        omega
      subst e
      rw [hL] at hL'
      injection hL' with e1 e2
      subst e1; subst e2
      exact hc
    obtain ⟨i, x, R, hi, hL, hj, hc⟩ := hne
    have hfl := flL_pop L hi hL hj
    have hu := tot_upd L hi R
    rw [hL, List.length_cons] at hu
    refine ⟨i, x.2, true, updN L i R, ⟨by omega, fun i hi => by have := hb.2 i hi; omega⟩, by rw [hfl]; rfl, h.qact hc, fun W' h' => h'.dact (fun F hF => ?_)⟩
    rw [hfl] at hF
    exact EPop_any hF h'.size (by rw [flL_length]; omega)
theorem deed_lift (h : St3 B X w8 W b r most tk L (flL L)) (hb : Bd n tk L) (hn : n ≤ 80) (f t : Int) : ∃ (K : Int) (tk' : Nat → Int) (L' : Nat → List (Int × Int)), Bd (n + 1) tk' L' ∧
    Calls Tryd.prog 13 #[.pointer (some ⟨b, 0, none⟩), .int .i64 f, .int .i64 t] W (fun e1 w' => e1 = .returned (.int .i64 K) ∧ St3 B X w8 w' b r most tk' L' (flL L)) ∧
    ∀ W', St3 B X w8 W' b r most tk' L' (flL L) → Calls Tryd.prog 14 #[.pointer (some ⟨r, 0, none⟩), .int .i64 f, .int .i64 t] W' (fun e1 w' => e1 = .returned (.int .i64 K) ∧ St3 B X w8 w' b r most tk' L' (flL L')) := by
  have hT := hb.1
  by_cases ho : (f < 0 ∨ 64 ≤ f) ∨ (t < 0 ∨ 64 ≤ t)
  · refine ⟨0, tk, L, hb.succ, h.gives (PLiftN_any b f t ho W), fun W' h' => ?_⟩
    obtain ⟨F, hF⟩ := h'.ea
    exact h'.gives (ELiftN_any hF f t (.inr ho))
  obtain ⟨i, rfl⟩ : ∃ i : Nat, f = i := ⟨f.toNat, by omega⟩
  obtain ⟨j, rfl⟩ : ∃ j : Nat, t = j := ⟨t.toNat, by omega⟩
  have hi : i < 64 := by omega
  have hj : j < 64 := by omega
  by_cases hij : i = j
  · subst hij
    refine ⟨0, tk, L, hb.succ, h.qact (fun F hF => PLiftSame_any hF h.size hi), fun W' h' => ?_⟩
    obtain ⟨F, hF⟩ := h'.ea
    exact h'.gives (ELiftN_any hF i i (.inl rfl))
  have hl1 := len_le_tot L hi
  have hl2 := len_le_tot L hj
  have ht1 := hb.2 i hi
  have ht2 := hb.2 j hj
  obtain ⟨K, hK⟩ : ∃ K, pourN 4096 (mostA most) (L i) (L j) = K := ⟨_, rfl⟩
  have hKl : K ≤ (L i).length := by rw [← hK]; unfold pourN; omega
  refine ⟨K, updN (updN tk i (tk i)) j (tk j + K), lifL L (tk j) i j K, ⟨?_, fun l hl => ?_⟩, ?_, fun W' h' => ?_⟩
  · have h1 := tot_upd (updN L i ((L i).drop K)) hj (L j ++ tkt (tk j) ((L i).take K))
    have h2 := tot_upd L hi ((L i).drop K)
    rw [updN_ne _ _ (Ne.symm hij)] at h1
    simp only [List.length_append, tkt_length, List.length_take, List.length_drop] at h1 h2
    unfold lifL
    omega
  · by_cases e : l = j
    · subst e; rw [updN_same]; omega
    · rw [updN_ne _ _ e, updN_self]; have := hb.2 l hl; omega
  · exact h.qact (fun F hF => PLift_any hF h.size hi hj hij (by omega) (by omega) (by omega) (by omega) hK)
  · exact h'.dact (fun F hF => ELift_any hF h'.size (by omega) hi hj hij (tk j) hK)
end
end Go.Proofs.YtngokihncjkiaaaDoor
namespace Go.Proofs.YtngokihncjkiaaaDoor
open Go.RowKit Go.Shelf
attribute [local go_sem] Oper.semAt_some
set_option maxRecDepth 100000 in
set_option maxHeartbeats 4000000 in
theorem prio_nil_seq (m : Nat) (hm : 7 ≤ m) (w0 : World) (Bx : Nat) (T : Nat → Prop)
    (hBx : w0.cell? ⟨Bx, 0, none⟩ = some (.pointer none)) (hBT : ¬ T Bx) (hT : ∀ k, T k → k < w0.heap.size) (hZ : Tz w0) (hZT : ¬ T 0) :
    SeqE Fence.wide m Tryd.prog 36 #[.pointer (some ⟨Bx, 0, none⟩)] encP T (fun ys => ys = []) (fun _ => False) 0 w0 := by
  intro lp J Jx W hW hJ hJx hY h0
  have hsz := hW.size
  obtain ⟨To, eTo⟩ : ∃ To : Nat → Prop, To = TT T w0.heap.size W.heap.size := ⟨_, rfl⟩
  rw [← eTo] at hY
  have hlx := World.block_lt_of_cell? w0 _ hBx
  simp only at hlx
  have hToT : ∀ k, k < w0.heap.size → ¬ T k → ¬ To k := fun k h1 h2 h3 => by
    rw [eTo] at h3
    rcases h3 with h3 | h3
    · exact h2 h3
    · omega
  have hToW : ∀ k, To k → k < W.heap.size := fun k h3 => by
    rw [eTo] at h3
    rcases h3 with h3 | h3
    · have := hT k h3; omega
    · omega
  have hZW : Tz W := fun j hj => hW.cell hZT (hZ j hj)
  have hZo : ¬ To 0 := hToT _ hZ.lt hZT
  have cbx := hW.cell hBT hBx
  have hlW := World.block_lt_of_cell? W _ cbx
  simp only at hlW
  refine callsIn_of_wp_marks Tryd.func36 rfl trivial ?_ rfl
  simp only [Tryd.ntmps36, List.size_toArray, List.length_cons, List.length_nil, Nat.reduceAdd, Nat.reduceSub, Array.replicate_succ, Array.replicate_zero, List.push_toArray, List.append_toArray, List.nil_append, List.cons_append]
  obtain ⟨w1, ew1⟩ : ∃ w1, w1 = W.alloc (.cells #[.func (.yield lp) #[] #[]] 74) := ⟨_, rfl⟩
  have hb1 : Below W.heap.size W w1 := by rw [ew1]; exact (Below.refl _ W).alloc (Nat.le_refl _) _
  have cbx1 := below_cell hb1 (Nat.le_refl _) _ _ cbx
  have hl1 := hb1.size
  have HLV := hid (PLevels_nil w1)
  have EW1 := hid ew1
  have HJ := hid hJ
  have HB1 := hid hb1
  have HZ1 := hid (hZW.below hb1)
  have H0 := hid h0
  clear hY hJ hJx hZW h0 hZ hZT hW ew1 hb1
  refine wpIn_wide.2 ?_
  go_wp2_with fail
  rw [← EW1.out]
  refine HLV.out.mono ?_
  rintro _ _ ⟨rfl, x1, rfl⟩
  obtain ⟨w2, ew2⟩ : ∃ w2, w2 = w1.past x1 := ⟨_, rfl⟩
  have hb2 : Below w1.heap.size w1 w2 := by rw [ew2]; exact w1.below_past _
  rw [← ew2]
  clear ew2
  go_wp2_with fail
  refine (idAll_any 0 w2).mono ?_
  rintro _ w3 ⟨rfl, hb3, hs3, hx3⟩
  have hb23 : Below w1.heap.size w1 w3 := below_trans' hb2 hb3
  have hb03 : Below W.heap.size W w3 := below_trans' HB1.out hb23
  have hToI : ¬ To w2.heap.size := fun e => by have := hToW _ e; have := hb2.size; omega
  have HB03 := hid hb03
  have HSEQ := hid (idAll_seq (m - 1) (by omega) w3 w2.heap.size 0 (by omega) To hx3 hToI (HZ1.out.below hb23) hZo)
  have hTo3 : ∀ k, To k → k < w3.heap.size := fun k hk => by have := hToW k hk; have := hb03.size; omega
  have hb03s := hb03.size
  obtain ⟨bi, ebi⟩ : ∃ bi, w2.heap.size = bi := ⟨_, rfl⟩
  rw [ebi] at HSEQ ⊢
  clear hx3 hb23 hb03 hb3 hb2 HLV EW1 cbx1 cbx
  go_wp2_with fail
  refine (wpIn_wide (n := m)).1 ?_
  apply wpIn_rangeFunc_G1H rfl (by omega) (gf := 55) (lb := #[.pointer (some ⟨bi, 0, none⟩)]) rfl trivial (enters_of Tryd.func55 (by kernel_rfl) rfl) HSEQ.out hTo3 (KS.refl _ _) (fun _ => rfl)
    (fun ls U => J [] U)
    (fun c _ U => False)
    (fun _ _ _ h hb => HJ.out _ _ _ h (hb.mono hb03s))
    (fun _ _ _ _ h hb => h.elim)
    (HJ.out _ _ _ H0.out HB03.out)
    3 (fun x => #[.int .i64 (x : Int)]) _ ?assign ?body ?done ?stop
  case assign =>
    intro lq x U c K hs hc hK
    simp only [encN]
    gi_wp2
    exact hK _ (by rw [← hc]; exact Rec.new U _ _) ((Below.refl _ U).alloc (Nat.le_refl _) _)
  case body =>
    rintro lq pre lv c U hlq ⟨rl, hrl⟩ hsU hj hlen hsp hcS hrec
    rw [bits_zero] at hsp
    have := hsp.subset (show lv ∈ pre ++ [lv] by simp)
    cases this
  case stop =>
    rintro D c pre U hD hSp h
    exact h.elim
  case done =>
    rintro D pre U hD hS2 hj hKD
    go_wp2_with fail
    refine ⟨by simp, .inl ⟨_, _, rfl, run_takeDeferred hKD, ?_⟩⟩
    exact ⟨.tuple #[], by simp [results, Tryd.results36, go_sem], ⟨_, rfl⟩, .inl ⟨_, rfl, HJ.out _ _ _ hj (below_putObj (Below.refl _ _) (by omega) _)⟩⟩
set_option maxRecDepth 100000 in
set_option maxHeartbeats 4000000 in
theorem PPeek_nil (w : World) (hZ : Tz w) : Calls Tryd.prog 10 #[.pointer none] w (Gives (.tuple #[.int .i64 0, .int .i64 0, .bool false]) w) := by
  obtain ⟨s, es⟩ : ∃ s, w.heap.size = s := ⟨_, rfl⟩
  obtain ⟨w3, ew3⟩ : ∃ w3, w3 = ((w.alloc (.cells #[.int .i64 0] 3)).alloc (.cells #[.int .i64 0] 3)).alloc (.cells #[.bool false] 4) := ⟨_, rfl⟩
  have r1 := ((Boxed.new w 3 (.int .i64 0)).alloc (.cells #[.int .i64 0] 3)).alloc (.cells #[.bool false] 4)
  have r2 := (Boxed.new (w.alloc (.cells #[.int .i64 0] 3)) 3 (.int .i64 0)).alloc (.cells #[.bool false] 4)
  have r3 := Boxed.new ((w.alloc (.cells #[.int .i64 0] 3)).alloc (.cells #[.int .i64 0] 3)) 4 (.bool false)
  rw [World.size_alloc] at r2
  rw [World.size_alloc, World.size_alloc] at r3
  have hB3 : Below w.heap.size w w3 := by rw [ew3]; exact (((Below.refl _ w).alloc (Nat.le_refl _) _).alloc (by simp) _).alloc (by simp; omega) _
  have hs3 : w3.heap.size = w.heap.size + 3 := by rw [ew3]; simp
  rw [← ew3, es] at r1 r2 r3
  have EW := hid ew3
  have HALL := PAll_any none w3
  obtain ⟨T, eT⟩ : ∃ T : Nat → Prop, T = fun k => k = s ∨ k = s + 1 ∨ k = s + 1 + 1 := ⟨_, rfl⟩
  have hT1 : T s := by rw [eT]; exact .inl rfl
  have hT2 : T (s + 1) := by rw [eT]; exact .inr (.inl rfl)
  have hT3 : T (s + 1 + 1) := by rw [eT]; exact .inr (.inr rfl)
  have hTb : ∀ k, T k → w.heap.size ≤ k ∧ k < w.heap.size + 3 := by rw [eT]; rintro k (rfl | rfl | rfl) <;> omega
  have hZT : ¬ T 0 := fun ht => by have := (hTb _ ht).1; have := hZ.lt; omega
  have HKEY := hid (fun (w8 : World) (h1 : Below w3.heap.size w3 w8) (h2 : w8.heap.size = w3.heap.size + 1) (h3 : w8.cell? ⟨w3.heap.size, 0, none⟩ = some (.pointer none)) => prio_nil_seq (8 - 1) (by omega) w8 w3.heap.size T h3 (fun ht => by have := (hTb _ ht).2; omega) (fun k hk => by have := (hTb k hk).2; omega) (hZ.below (below_trans' hB3 h1)) hZT)
  clear ew3 hZ
  refine (callsIn_wide (n := 8)).1 ?_
  refine callsIn_of_wp_marks Tryd.func10 rfl trivial ?_ rfl
  refine wpIn_wide.2 ?_
  simp only [Tryd.ntmps10, List.size_toArray, List.length_cons, List.length_nil, Nat.reduceAdd, Nat.reduceSub, Array.replicate_succ, Array.replicate_zero, List.push_toArray, List.append_toArray, List.nil_append, List.cons_append]
  go_wp2_with fail
  rw [← EW.out]
  refine HALL.mono ?_
  rintro _ w8 ⟨rfl, hb8, hs8, hx8⟩
  have hseq := HKEY.out w8 hb8 hs8 hx8
  have q1 : Boxed w8 s 3 (.int .i64 0) := (hb8.block _ r1.lt).trans r1
  have q2 : Boxed w8 (s + 1) 3 (.int .i64 0) := (hb8.block _ r2.lt).trans r2
  have q3 : Boxed w8 (s + 1 + 1) 4 (.bool false) := (hb8.block _ r3.lt).trans r3
  have hB8 : Below w.heap.size w w8 := below_trans' hB3 hb8
  have HT8 := hid (fun W (h : KS T w8 W) => (hB8.trans (h.under (fun k hk => (hTb k hk).1) hB8.size) : Below w.heap.size w W))
  have hTw : ∀ k, T k → k < w8.heap.size := fun k hk => by have := (hTb k hk).2; omega
  have HSEQ := hid hseq
  obtain ⟨bx, ebx⟩ : ∃ bx, w3.heap.size = bx := ⟨_, rfl⟩
  rw [ebx] at HSEQ ⊢
  clear hseq hx8 HKEY r1 r2 r3 hb8 eT HALL
  go_wp2_with fail
  refine (wpIn_wide (n := 8)).1 ?_
  apply wpIn_rangeFunc_E rfl (by omega) (gf := 36) (lb := #[.pointer (some ⟨bx, 0, none⟩)]) rfl trivial (enters_of Tryd.func36 (by kernel_rfl) rfl) HSEQ.out hTw (KS.refl _ _) (fun _ => rfl)
    (fun pre W => KS T w8 W ∧ Boxed W s 3 (.int .i64 0) ∧ Boxed W (s + 1) 3 (.int .i64 0) ∧ Boxed W (s + 1 + 1) 4 (.bool false))
    (fun c pre W => False)
    (fun _ _ _ h hb => ⟨h.1.far hb, (hb.block _ q1.lt).trans h.2.1, (hb.block _ q2.lt).trans h.2.2.1, (hb.block _ q3.lt).trans h.2.2.2⟩)
    (fun _ _ _ _ h hb => h.elim)
    ⟨KS.refl _ _, q1, q2, q3⟩ _ ?assign ?body ?done ?stop
  case assign =>
    intro lq x W K hK
    simp only [encP]
    gi_wp2
    exact hK
  case body =>
    rintro lq pre x W hsW _ hlen hsp
    omega
  case stop =>
    rintro D c pre W hD hSp h
    exact h.elim
  case done =>
    rintro D pre W hD hS ⟨hks, p1, p2, p3⟩ hKD
    have c1 := p1.cell
    have c2 := p2.cell
    have c3 := p3.cell
    have f1 := p1.frozen
    have f2 := p2.frozen
    have f3 := p3.frozen
    have l1 := p1.lt
    have l2 := p2.lt
    have l3 := p3.lt
    have HKS := hid hks
    have P1 := hid p1
    have P2 := hid p2
    have P3 := hid p3
    have HKD := hid hKD
    have hD2 : s + 1 + 1 < D := by have := q3.lt; omega
    have HDW := hid (show w.heap.size ≤ D by have := hB8.size; omega)
    clear hks p1 p2 p3 HSEQ hS hKD
    go_wp2_with fail
    obtain ⟨W', eW'⟩ : ∃ W', W' = ((W.setCell ⟨s, 0, none⟩ (.int .i64 0)).setCell ⟨s + 1, 0, none⟩ (.int .i64 0)).setCell ⟨s + 1 + 1, 0, none⟩ (.bool false) := ⟨_, rfl⟩
    obtain ⟨hk, b1, b2, b3⟩ := three_set P1.out P2.out P3.out hT1 hT2 hT3 eW'
    have hKD' : W'.heap[D]? = some (.deferred (some [])) := by
      rw [eW']
      exact (Below.heap_setCell _ ⟨s + 1 + 1, 0, none⟩ _ D (by simp; omega)).trans ((Below.heap_setCell _ ⟨s + 1, 0, none⟩ _ D (by simp; omega)).trans ((Below.heap_setCell _ ⟨s, 0, none⟩ _ D (by simp; omega)).trans HKD.out))
    rw [← eW']
    have z1 : (W'.putObj D (.deferred none)).cell? ⟨s, 0, none⟩ = some (.int .i64 0) := Boxed.cell (show Boxed _ _ 3 _ from (World.putObj_heap_other (by omega)).trans b1)
    have z2 : (W'.putObj D (.deferred none)).cell? ⟨s + 1, 0, none⟩ = some (.int .i64 0) := Boxed.cell (show Boxed _ _ 3 _ from (World.putObj_heap_other (by omega)).trans b2)
    have z3 : (W'.putObj D (.deferred none)).cell? ⟨s + 1 + 1, 0, none⟩ = some (.bool false) := Boxed.cell (show Boxed _ _ 4 _ from (World.putObj_heap_other (by omega)).trans b3)
    have hBx := below_putObj (HT8.out W' (KS.trans HKS.out hk)) HDW.out (.deferred none)
    clear c1 c2 c3 f1 f2 f3 eW'
    refine ⟨by simp, .inl ⟨_, _, rfl, run_takeDeferred hKD', ?_⟩⟩
    exact ⟨.tuple #[.int .i64 0, .int .i64 0, .bool false], by simp [results, Tryd.results10, go_sem, z1, z2, z3], Gives.mk rfl hBx⟩
theorem PPop_nil (w : World) (hZ : Tz w) : Calls Tryd.prog 11 #[.pointer none] w (Gives (.tuple #[.int .i64 0, .int .i64 0, .bool false]) w) := by
  have HLEN := hid (PLen_nil w)
  have HPK := hid (fun x : Past => PPeek_nil (w.past x) (hZ.below (w.below_past x)))
  clear hZ
  go_enter Tryd.func11, Tryd.ntmps11
  go_wp2_with (first | (go_at_call 16; refine HLEN.out.mono ?_; rintro _ _ ⟨rfl, x1, rfl⟩) | (go_at_call 10; refine (HPK.out _).mono ?_; rintro _ _ ⟨rfl, x2, rfl⟩))
  refine bodyPost_ret (v := .tuple #[.int .i64 0, .int .i64 0, .bool false]) (by simp [results, Tryd.results11, go_sem]) rfl ?_
  exact Gives.mk rfl (by (repeat (first | exact Below.refl _ _ | refine RowKit.Below.past ?_ _ | refine RowKit.Below.alloc' ?_ _ | refine RowKit.Below.drew' ?_ | refine RowKit.Below.drewN' ?_ _ | refine RowKit.Below.setCell' ?_ (by simp [go_sem]) _)))
end Go.Proofs.YtngokihncjkiaaaDoor
