/-
  Layer 04: heaps of strings: Len, take. (Printed by mkH.py out of XHpM.) No condition.
-/
import Derived.Test.YtcbdghjakdbedaaHsL
import Derived.Test.YtcbdghjakdbedaaOwnCut
namespace Go.Proofs.Ytcbdghjakdbedaa.HpS
open Go Go.RowKit Go.Proofs.Ytcbdghjakdbedaa
section
variable {B : Nat} {w w' : World} {b mb : Nat} {most : Int} {l L : List (Hp.It A)}
set_option maxRecDepth 100000 in
set_option maxHeartbeats 4000000 in
theorem Len_any (h : HP B w b mb most L) : Calls Try.prog 26 #[.pointer (some ⟨b, 0, none⟩)] w (fun e w' => e = .returned (.int .i64 L.length) ∧ w' = w) := by
  obtain ⟨l, h1, h2, h3⟩ := h.ex
  obtain ⟨a, c, q0, q1, q2, -⟩ := h1.cells
  have HL := hid h3.length_eq
  obtain ⟨n, en⟩ : ∃ n, l.length = n := ⟨_, rfl⟩
  have EN := hid en
  rw [en] at q1
  clear h h1 h2 h3 en
  go_enter Try.func26, Try.ntmps26
  go_wp2_with fail
  go_ret
  exact ⟨by rw [← HL.out, EN.out]; rfl, rfl⟩
theorem idx_take {k : Nat} {x : Hp.It A} (hnd : (l.map (·.id)).Nodup) (hl : l.length = k + 1) (hx : l[k]? = some x) (z : Int) : upd (idx l) x.id none z = idx (l.take k) z := by
  have hk : k < l.length := by omega
  have hxe : l[k] = x := (List.getElem?_eq_some_iff.1 hx).2
  have hnd' : ((l.take k).map (·.id)).Nodup := by rw [List.map_take]; exact hnd.sublist (List.take_sublist _ _)
  unfold upd
  by_cases e : z = x.id
  · subst e
    rw [if_pos rfl, idx_none (fun y hy e' => ?_)]
    obtain ⟨j, hj, rfl⟩ := List.getElem_of_mem hy
    rw [List.getElem_take, ← hxe] at e'
    simp at hj
    have := nodup_at hnd (by omega : j < l.length) hk e'
    omega
  · rw [if_neg e]
    by_cases hz : z ∈ (l.take k).map (·.id)
    · obtain ⟨y, hy, rfl⟩ := List.mem_map.1 hz
      obtain ⟨j, hj, rfl⟩ := List.getElem_of_mem hy
      rw [idx_at hnd' hj, List.getElem_take]
      simp at hj
      exact idx_at hnd (by omega)
    · rw [idx_none (l := l.take k) (fun y hy e' => hz (List.mem_map.2 ⟨y, hy, e'⟩)), idx_none (fun y hy e' => ?_)]
      obtain ⟨j, hj, rfl⟩ := List.getElem_of_mem hy
      by_cases hjk : j = k
      · subst hjk; rw [hxe] at e'; exact e e'.symm
      · exact hz (List.mem_map.2 ⟨l[j], List.mem_take_iff_getElem.2 ⟨j, by omega, rfl⟩, e'⟩)
theorem dn_cut {i k : Nat} (hO : Hp.Ord l) (hl : l.length = k + 1) (hi : i < k) : Hp.Dn ((Hp.swp l i k (by omega) (by omega)).take k) i := by
  have hg : ∀ q (hq : q < ((Hp.swp l i k (by omega) (by omega)).take k).length), q ≠ i → ((Hp.swp l i k (by omega) (by omega)).take k)[q] = l[q]'(by simp [Hp.swp_length] at hq; omega) := fun q hq hqi => by
    have hq' : q < k := by simp [Hp.swp_length] at hq; omega
    rw [List.getElem_take, Hp.swp_get l i k (by omega) (by omega) q (by omega), if_neg (by omega), if_neg hqi]
  have hlen : ((Hp.swp l i k (by omega) (by omega)).take k).length = k := by simp [Hp.swp_length]; omega
  refine ⟨fun q hqi hqp hq q0 => ?_, fun q hq q0 hqp i0 => ?_⟩
  · have hp := Hp.par_lt q0
    rw [hg q hq hqi, hg (Hp.par q) (by omega) (hqp q0)]
    exact hO q (by omega) q0
  · have hp := Hp.par_lt i0
    have hqq := Hp.par_lt q0
    rw [hg q hq (by omega), hg (Hp.par i) (by omega) (by omega)]
    have h1 := hO q (by omega) q0
    have h2 := hO i (by omega) i0
    simp only [hqp] at h1
    exact Hp.nlt_trans h2 h1
theorem HAt.outside (h : HAt B w b mb most l) {q : Nat} (hq : ¬ hF b mb w q) (o : Nat) (v : Value) : HAt B (w.setCell ⟨q, o, none⟩ v) b mb most l := by
  obtain ⟨a, c, h1, h2⟩ := h.ex
  have e1 : b ≠ q := fun e => hq (.inl e.symm)
  have e2 : mb ≠ q := fun e => hq (.inr (.inl e.symm))
  refine ⟨h.big, h.mbig, ⟨a, c, Rec.set_other h1 (p := ⟨q, o, none⟩) (fun e => e1 e.symm) v, h2.1, ?_⟩, h.mp.block (heap_setCell_other _ _ _ _ e2)⟩
  rcases h2.2 with h3 | ⟨g, cap, cur, hv, hg, hh, hr⟩
  · exact .inl h3
  · have hv' := hv
    injection hv' with ea
    refine .inr ⟨g, cap, cur, hv, hg, (heap_setCell_other _ _ _ _ (fun e => hq (.inr (.inr ⟨l.length, c, ?_⟩)))).trans hh, hr⟩
    rw [Rec.cell h1 1, ea]
    have e3 : g = q := e
    rw [e3]
    rfl
theorem hF_later {q : Nat} (hk : HKept b mb w w') (hn : ¬ hF b mb w q) (hq : q < w.heap.size) : ¬ hF b mb w' q := by
  rintro (h | h | h)
  · exact hn (.inl h)
  · exact hn (.inr (.inl h))
  · exact hn (.inr (.inr (hk.row q h)))
theorem row_set {q o : Nat} {v : Value} (hne : b ≠ q) {g : Nat} (h : rowOf b (w.setCell ⟨q, o, none⟩ v) g) : rowOf b w g := row_same (heap_setCell_other _ _ _ _ hne) h
/-- The key's box is filled. -/
theorem take_end {s0 : Nat} (h : HAt B w' b mb most l) (hn : ¬ hF b mb w' s0) (hk : HKept b mb w w') (hs : w.heap.size ≤ s0) (hb : Below B w w') (hB : B ≤ s0) (u u' : Value) :
    HAt B ((w'.setCell ⟨s0, 0, none⟩ u).setCell ⟨s0, 1, none⟩ u').drew b mb most l ∧ HKept b mb w ((w'.setCell ⟨s0, 0, none⟩ u).setCell ⟨s0, 1, none⟩ u').drew ∧ Below B w ((w'.setCell ⟨s0, 0, none⟩ u).setCell ⟨s0, 1, none⟩ u').drew := by
  have e1 : b ≠ s0 := fun e => hn (.inl e.symm)
  have hn2 : ¬ hF b mb (w'.setCell ⟨s0, 0, none⟩ u) s0 := by
    rintro (h | h | h)
    · exact hn (.inl h)
    · exact hn (.inr (.inl h))
    · exact hn (.inr (.inr (row_set e1 h)))
  refine ⟨((h.outside hn 0 u).outside hn2 1 u').far (Below.refl _ _).drew, ⟨((hk.kept.setCell (p := ⟨s0, 0, none⟩) (.inl hs) u).setCell (p := ⟨s0, 1, none⟩) (.inl hs) u').drew, fun g hg => hk.row g (row_set e1 (row_set e1 hg))⟩, ((hb.setCell (p := ⟨s0, 0, none⟩) hB u).setCell (p := ⟨s0, 1, none⟩) hB u').drew⟩
theorem ord_take {k : Nat} (h : Hp.Ord l) (hk : k ≤ l.length) : Hp.Ord (l.take k) := fun q hq q0 => by
  have hp := Hp.par_lt q0
  simp at hq
  rw [List.getElem_take, List.getElem_take]
  exact h q (by omega) q0
set_option maxRecDepth 100000 in
set_option maxHeartbeats 4000000 in
theorem take_any (hG : Good l) (h : HAt B w b mb most l) (hO : Hp.Ord l) (hB : B ≤ w.heap.size) (i : Nat) (x : Hp.It A) (hx : l[i]? = some x) :
    Calls Try.prog 49 #[.pointer (some ⟨b, 0, none⟩), .int .i64 i] w (fun e w' => e = .returned (.tuple #[.agg #[.int .u64 x.v, .int .i64 x.id], val x.x, .bool true]) ∧ (∃ L', (x :: L').Perm l ∧ HP B w' b mb most L') ∧ Below B w w' ∧ HKept b mb w w') := by
  have H := hid h
  have HG := hid (And.intro hG hO)
  have HX := hid hx
  have hi : i < l.length := (List.getElem?_eq_some_iff.1 hx).1
  obtain ⟨a, c, q0, q1, q2, qs⟩ := h.cells
  obtain ⟨g, rfl, i0, i1, i2⟩ := qs i hi
  have hxe : l[i] = x := (List.getElem?_eq_some_iff.1 hx).2
  rw [hxe] at i0 i1 i2
  obtain ⟨n, en⟩ : ∃ n, l.length = n := ⟨_, rfl⟩
  have EN := hid en
  rw [en] at q1 hi
  have hlt := h.lt
  have hgl : g < w.heap.size := World.block_lt_of_cell? w _ i0
  have e1 : wrap64 ((n : Int) - 1) = ((n - 1 : Nat) : Int) := by have := hG.len; unfold wrap64; omega
  clear h hG hO hx en qs hxe
  go_enter Try.func49, Try.ntmps49
  go_wp2_with fail
  rw [e1]
  obtain ⟨w1, ew1⟩ : ∃ w1, w1 = (w.alloc (.cells #[.int .u64 0, .int .i64 0] 30)).alloc (.cells #[.int .u64 x.v, .int .i64 x.id, val x.x] tI) := ⟨_, rfl⟩
  have hb1 : Below w.heap.size w w1 := by rw [ew1]; exact ((Below.refl _ w).alloc (Nat.le_refl _) _).alloc (by simp) _
  have hRx : Rec w1 (w.heap.size + 1) tI #[.int .u64 x.v, .int .i64 x.id, val x.x] := by
    rw [ew1]
    have := Rec.new (w.alloc (.cells #[.int .u64 0, .int .i64 0] 30)) tI #[.int .u64 x.v, .int .i64 x.id, val x.x]
    simpa using this
  have hRk : Rec w1 w.heap.size 30 #[.int .u64 0, .int .i64 0] := by
    rw [ew1]
    exact Rec.alloc (Rec.new w 30 #[.int .u64 0, .int .i64 0]) _
  rw [← ew1]
  have h1 := H.out.far hb1
  have hS1 : HSt B w1 b mb most l l w1 := ⟨h1, List.Perm.refl _, Below.refl _ _, HKept.refl _ _ _⟩
  obtain ⟨s0, es0⟩ : ∃ s0, s0 = w.heap.size := ⟨_, rfl⟩
  have ES := hid es0
  rw [← es0] at hRx hRk ⊢
  have hsw := swap_st HG.out.1 hS1 i (n - 1) (by rw [EN.out]; exact hi) (by rw [EN.out]; omega)
  refine hsw.mono ?_
  rintro _ w2 ⟨rfl, h2⟩
  have HB1 := hid hb1
  have HRX := hid hRx
  have HRK := hid hRk
  have H1 := hid h1
  have hnb : ¬ hF b mb w1 (s0 + 1) := by
    rintro (h | h | ⟨n', c', h⟩)
    · omega
    · have := H.out.mp.lt; omega
    · have h3 := q1
      rw [← below_cell hb1 (Nat.le_refl _) _ _ h3] at h3
      have h4 := below_cell hb1 (Nat.le_refl _) _ _ q1
      rw [h4] at h
      simp only [Option.some.injEq, Value.slice.injEq, Addr.mk.injEq] at h
      omega
  have hRx2 := Rec.kept hRx h2.kept.kept hnb
  have hnb0 : ¬ hF b mb w1 s0 := by
    rintro (h | h | ⟨n', c', h⟩)
    · omega
    · have := H.out.mp.lt; omega
    · have h4 := below_cell hb1 (Nat.le_refl _) _ _ q1
      rw [h4] at h
      simp only [Option.some.injEq, Value.slice.injEq, Addr.mk.injEq] at h
      omega
  have HRK2 := hid (Rec.kept hRk h2.kept.kept hnb0)
  have HNR := hid (show ∀ q, rowOf b w2 q → q ≠ s0 ∧ q ≠ s0 + 1 from fun q hq => by
    have h5 := h2.kept.row q hq
    exact ⟨fun e => hnb0 (.inr (.inr (e ▸ h5))), fun e => hnb (.inr (.inr (e ▸ h5)))⟩)
  have HS0 := hid (show ¬ b = s0 ∧ ¬ s0 = mb ∧ ¬ s0 + 1 = mb by have := H.out.mp.lt; omega)
  have HRX2 := hid hRx2
  clear hsw hS1 h1 ew1 hb1 hRx hRk q0 q1 q2 i0 i1 i2 hlt hgl es0 hnb hnb0
  obtain ⟨l2, el2⟩ : ∃ l2, l2 = Hp.swp l i (n - 1) (by rw [EN.out]; exact hi) (by rw [EN.out]; omega) := ⟨_, rfl⟩
  rw [← el2] at h2
  have hl2 : l2.length = n := by rw [el2, Hp.swp_length]; exact EN.out
  obtain ⟨a2, c2, hrec2, hown2⟩ := h2.at'.ex
  rw [hl2] at hrec2 hown2
  have r1 := Rec.cell hrec2 1
  have f1 := Rec.frozen hrec2 1
  simp at r1
  have hcap := own_cap hown2
  obtain ⟨k, ek⟩ : ∃ k, n - 1 = k := ⟨_, rfl⟩
  have hkc : k ≤ c2 := by omega
  have hkn : k < n := by omega
  have EK := hid ek
  rw [ek]
  have hx0 := Rec.cell hRx2 0
  have hx1 := Rec.cell hRx2 1
  have hx2 := Rec.cell hRx2 2
  simp at hx0 hx1 hx2
  have hbs : ¬ b = s0 + 1 := by have := HB1.out.size; have := H.out.lt; have := ES.out; omega
  have H2 := hid h2
  have EL2 := hid el2
  have HREC2 := hid hrec2
  have HOWN2 := hid hown2
  clear hRx2 h2 el2 hrec2 hown2 ek e1
  go_wp2_with fail
  obtain ⟨w3, ew3⟩ : ∃ w3, w3 = w2.setCell ⟨b, 1, none⟩ (.slice a2 k c2) := ⟨_, rfl⟩
  have hbm : b ≠ mb := rec_not_map HREC2.out H2.out.at'.mp
  have hR3 : Rec w3 b tH #[.int .i64 most, .slice a2 k c2, .map (some mb)] := by
    have := Rec.set HREC2.out 1 (.slice a2 k c2)
    rw [ew3]; simpa using this
  have hO3 : w3.ownsRow B tI 3 (.slice a2 k c2) k (tab itV (l2.take k)) := by
    have h5 := own_setB HOWN2.out HREC2.out (by decide) 1 (.slice a2 k c2)
    rw [← ew3] at h5
    have h6 := own_cut h5 (m := k) (by omega)
    rw [tab_take itV_length] at h6
    exact h6
  have hM3 : MapI Try.prog 3 w3 mb (idx l2) l2.length := H2.out.at'.mp.block (by rw [ew3]; exact heap_setCell_other _ _ _ _ (fun e => hbm e.symm))
  have hX3 : Rec w3 (s0 + 1) tI #[.int .u64 x.v, .int .i64 x.id, val x.x] := by rw [ew3]; exact Rec.set_other HRX2.out (p := ⟨b, 1, none⟩) hbs _
  have EW3 := hid ew3
  rw [← ew3]
  clear ew3 r1 f1 hx0 hx1 hx2
  have r1 := Rec.cell hR3 1
  have r2 := Rec.cell hR3 2
  have hx0 := Rec.cell hX3 0
  have hx1 := Rec.cell hX3 1
  have hx2 := Rec.cell hX3 2
  simp at r1 r2 hx0 hx1 hx2
  have HR3 := hid hR3
  have HO3 := hid hO3
  have HM3 := hid hM3
  have HX3 := hid hX3
  clear hR3 hO3 hM3 hX3
  refine wp_region_last (C := fun w' => ∃ x : Past, w' = w3.past x) 7 [] (by kernel_rfl) (by kernel_rfl) (by kernel_rfl) rfl (by kernel_rfl) (.inl rfl) (past_of ⟨rfl, rfl, rfl, Nat.le_refl _, fun _ _ => rfl⟩) ?_
  simp only [List.take_succ_cons, List.take_zero]
  repeat (go_big_quiet_step ((fail)))
  refine wpQuiet_nil ?_
  rintro _ ⟨xq, rfl⟩
  have hb4 := w3.below_past xq
  obtain ⟨w4, ew4⟩ : ∃ w4, w4 = w3.past xq := ⟨_, rfl⟩
  rw [← ew4] at hb4 ⊢
  clear ew4 xq
  have hR4 := HR3.out.below hb4 (Nat.le_refl _)
  have hO4 := own_below HO3.out hb4 (Nat.le_refl _)
  have hM4 := HM3.out.below hb4 HM3.out.lt
  have hX4 := HX3.out.below hb4 (Nat.le_refl _)
  have hxI : I64 x.id := HG.out.1.i64 x (List.mem_of_getElem? HX.out)
  obtain ⟨w5, r5, m5, g5, -⟩ := hM4.drop (m := 68) (x := x.id) (by kernel_rfl) (by kernel_rfl) hxI 0
  have HB4 := hid hb4
  have HR4 := hid hR4
  have HO4 := hid hO4
  have HM4 := hid hM4
  have HX4 := hid hX4
  have M5 := hid m5
  have G5 := hid g5
  clear hb4 hR4 hO4 hM4 hX4 m5 g5 r1 r2 hx0 hx1 hx2
  refine wpOp_step rfl (fun K hK => ?_)
  go_simp
  refine hK _ _ ?_
  clear hK K
  have hn2 : (l2.map (·.id)).Nodup := (HG.out.1.perm H2.out.perm).nd
  have hlk : l2.length = k + 1 := by rw [hl2]; have := EK.out; omega
  have hxe : l[i]'(by rw [EN.out]; exact hi) = x := (List.getElem?_eq_some_iff.1 HX.out).2
  have hl2k : l2[k]? = some x := by
    rw [List.getElem?_eq_getElem (by omega)]
    have h5 := Hp.swp_get l i (n - 1) (by rw [EN.out]; exact hi) (by rw [EN.out]; omega) (n - 1) (by rw [EN.out]; omega)
    rw [if_pos rfl, hxe] at h5
    have h6 := EK.out
    subst h6
    simp only [EL2.out]
    rw [h5]
  obtain ⟨l3, el3⟩ : ∃ l3, l3 = l2.take k := ⟨_, rfl⟩
  have hl3 : l3.length = k := by rw [el3, List.length_take]; omega
  have hA5 : HAt B w5 b mb most l3 := by
    refine ⟨H.out.big, H.out.mbig, ⟨a2, c2, ?_, ?_⟩, ?_⟩
    · rw [hl3]
      exact (G5.out.block b HR4.out.lt (fun e => hbm (by injection e))).trans HR4.out
    · rw [hl3, el3]
      exact HO4.out.kept G5.out (.inr fun e => own_not_map HO4.out HM4.out e.symm)
    · have h5 := M5.out
      have h6 : (idx l2 x.id).isSome = true := (idx_some_iff hn2).2 (List.mem_map.2 ⟨x, List.mem_of_getElem? hl2k, rfl⟩)
      rw [if_pos h6, hlk] at h5
      rw [hl3]
      exact h5.ext (fun z => by rw [el3]; exact idx_take hn2 hlk hl2k z)
  have hperm : (x :: l3).Perm l := by
    have h5 : (l3 ++ [x]).Perm l := by
      have h6 : l3 ++ [x] = l2 := by
        rw [el3]
        have h7 := List.take_append_getElem (l := l2) (i := k) (by omega)
        rw [(List.getElem?_eq_some_iff.1 hl2k).2] at h7
        rw [h7, List.take_of_length_le (by omega)]
      rw [h6]
      exact H2.out.perm
    exact (List.perm_append_singleton _ _).symm.trans h5
  have hG3 : Good l3 := by
    have h5 : Good (x :: l3) := HG.out.1.perm hperm
    exact ⟨(List.nodup_cons.1 h5.nd).2, fun y hy => h5.i64 y (List.mem_cons_of_mem _ hy), by have := h5.len; simp at this; omega⟩
  have hb5 : Below B w w5 := by
    have b1 := (HB1.out.mono hB).trans H2.out.bel
    have b2 : Below B w w3 := by rw [EW3.out]; exact b1.setCell (p := ⟨b, 1, none⟩) H.out.big _
    have b3 := b2.trans (HB4.out.mono (by have := b2.size; omega))
    exact b3.grown G5.out (by have := b3.size; omega) (fun j e => by injection e with e; have := H.out.mbig; omega)
  have hk5 : HKept b mb w w5 := by
    have k1 : HKept b mb w w1 := HKept.of_below HB1.out H.out.lt
    have k3 : HKept b mb w2 w3 := by
      refine ⟨by rw [EW3.out]; exact (Kept.refl _ _).setCell (p := ⟨b, 1, none⟩) (.inr (.inl rfl)) _, fun q hq => ?_⟩
      obtain ⟨n8, c8, h8⟩ := hq
      rw [Rec.cell HR3.out 1] at h8
      simp at h8
      exact ⟨n, c2, by rw [Rec.cell HREC2.out 1, h8.1]; rfl⟩
    have k4 : HKept b mb w3 w4 := HKept.of_below HB4.out HR3.out.lt
    exact (((k1.trans H2.out.kept).trans k3).trans k4).trans (HKept.map G5.out HR4.out.lt hbm)
  have hK5 : Rec w5 s0 30 #[.int .u64 0, .int .i64 0] := by
    have h5 : Rec w3 s0 30 #[.int .u64 0, .int .i64 0] := by rw [EW3.out]; exact Rec.set_other HRK2.out (p := ⟨b, 1, none⟩) HS0.out.1 _
    have h6 := h5.below HB4.out (Nat.le_refl _)
    exact (G5.out.block s0 h6.lt (fun e => HS0.out.2.1 (by injection e))).trans h6
  have hX5 : Rec w5 (s0 + 1) tI #[.int .u64 x.v, .int .i64 x.id, val x.x] := (G5.out.block (s0 + 1) HX4.out.lt (fun e => HS0.out.2.2 (by injection e))).trans HX4.out
  have hnr5 : ¬ hF b mb w5 s0 ∧ ¬ hF b mb w5 (s0 + 1) := by
    have key : ∀ q, rowOf b w5 q → q ≠ s0 ∧ q ≠ s0 + 1 := fun q hq => by
      have h6 := row_same (G5.out.block b HR4.out.lt (fun e => hbm (by injection e))) hq
      have h7 := row_same (HB4.out.block b HR3.out.lt) h6
      obtain ⟨n8, c8, h8⟩ := h7
      rw [Rec.cell HR3.out 1] at h8
      simp at h8
      exact HNR.out q ⟨n, c2, by rw [Rec.cell HREC2.out 1, h8.1]; rfl⟩
    have h9 := HS0.out
    refine ⟨?_, ?_⟩
    · rintro (h | h | h)
      · exact h9.1 h.symm
      · exact h9.2.1 h
      · exact (key _ h).1 rfl
    · rintro (h | h | h)
      · exact hbs h.symm
      · exact h9.2.2 h
      · exact (key _ h).2 rfl
  have HNR5 := hid hnr5
  clear hnr5
  have HA5 := hid hA5
  have HP5 := hid hperm
  have HG3 := hid hG3
  have HB5 := hid hb5
  have HK5 := hid hk5
  have HKey5 := hid hK5
  have HX5 := hid hX5
  have HL3 := hid hl3
  have HEL := hid el3
  clear hA5 hperm hG3 hb5 hk5 hK5 hX5 hn2 hlk hl2k hl3 el3 hxe r5
  by_cases hik : i < k
  · have hik' : (i : Int) < k := by omega
    have HIK := hid hik
    clear hik
    go_wp2_with fail
    have hS5 : HSt B w5 b mb most l3 l3 w5 := ⟨HA5.out, List.Perm.refl _, Below.refl _ _, HKept.refl _ _ _⟩
    have hD : Hp.Dn l3 i := by
      have h6 := EK.out
      subst h6
      rw [HEL.out, EL2.out]
      exact dn_cut HG.out.2 (by rw [EN.out]; omega) HIK.out
    refine (down_any HG3.out hS5 (by have := HA5.out.big; have := HA5.out.lt; omega) i hD (by have := HG3.out.len; have := HL3.out; have := HIK.out; omega)).mono ?_
    rintro _ w6 ⟨rfl, l6, hu6, -, h6⟩
    have H6 := hid (And.intro hu6 h6)
    clear hS5 hD hu6 h6
    go_wp2_with fail
    have hS6 : HSt B w6 b mb most l6 l6 w6 := ⟨H6.out.2.at', List.Perm.refl _, Below.refl _ _, HKept.refl _ _ _⟩
    refine (up_any (HG3.out.perm H6.out.2.perm) hS6 (by have := H6.out.2.at'.big; have := H6.out.2.at'.lt; omega) i (by have := H6.out.2.perm.length_eq; have := HL3.out; have := HIK.out; omega) H6.out.1).mono ?_
    rintro _ w7 ⟨rfl, l7, ho7, h7⟩
    have H7 := hid (show Hp.Ord l7 ∧ HSt B w5 b mb most l3 l7 w7 from ⟨ho7, h7.at', h7.perm.trans H6.out.2.perm, H6.out.2.bel.trans h7.bel, H6.out.2.kept.trans h7.kept⟩)
    clear hS6 ho7 h7
    go_wp2_with fail
    have hK7 := Rec.kept HKey5.out H7.out.2.kept.kept HNR5.out.1
    have hX7 := Rec.kept HX5.out H7.out.2.kept.kept HNR5.out.2
    have hx0 := Rec.cell hX7 0
    have hx1 := Rec.cell hX7 1
    have hx2 := Rec.cell hX7 2
    have hk0 := Rec.cell hK7 0
    have hk1 := Rec.cell hK7 1
    have hf0 := Rec.frozen hK7 0
    have hf1 := Rec.frozen hK7 1
    have hlt7 := Rec.lt hX7
    have hlt70 := Rec.lt hK7
    simp at hx0 hx1 hx2 hk0 hk1
    have HK7 := hid hK7
    clear hK7 hX7
    go_region
    all_goals (
      go_wp2_with fail
      refine bodyPost_ret (v := .tuple #[.agg #[.int .u64 x.v, .int .i64 x.id], val x.x, .bool true]) (by simp [results, Try.results49, go_sem, hx0, hx1, hx2, hk0, hk1, hf0, hf1, hlt7, hlt70]) rfl ?_
      have hn7 := hF_later H7.out.2.kept HNR5.out.1 HKey5.out.lt
      obtain ⟨z1, z2, z3⟩ := take_end H7.out.2.at' hn7 (HK5.out.trans H7.out.2.kept) (by have := ES.out; omega) (HB5.out.trans H7.out.2.bel) (by have := ES.out; omega) (.int .u64 x.v) (.int .i64 x.id)
      exact ⟨rfl, ⟨l3, HP5.out, ⟨_, z1, H7.out.1, H7.out.2.perm⟩, HG3.out⟩, z3, z2⟩)
  · have hik' : ¬ (i : Int) < k := by omega
    have hie : i = k := by have := EK.out; omega
    have HIE := hid hie
    clear hik hie
    go_wp2_with fail
    have h7o : Hp.Ord l3 := by
      have h6 := EK.out
      have h8 := HIE.out
      rw [HEL.out, EL2.out]
      subst h8
      have e9 : Hp.swp l i (n - 1) (by rw [EN.out]; exact hi) (by rw [EN.out]; omega) = l := by
        subst h6
        exact Hp.swp_self l (n - 1) (by rw [EN.out]; omega)
      rw [e9]
      exact ord_take HG.out.2 (by rw [EN.out]; omega)
    have H7 := hid (show Hp.Ord l3 ∧ HSt B w5 b mb most l3 l3 w5 from ⟨h7o, HA5.out, List.Perm.refl _, Below.refl _ _, HKept.refl _ _ _⟩)
    clear h7o
    have hK7 := Rec.kept HKey5.out H7.out.2.kept.kept HNR5.out.1
    have hX7 := Rec.kept HX5.out H7.out.2.kept.kept HNR5.out.2
    have hx0 := Rec.cell hX7 0
    have hx1 := Rec.cell hX7 1
    have hx2 := Rec.cell hX7 2
    have hk0 := Rec.cell hK7 0
    have hk1 := Rec.cell hK7 1
    have hf0 := Rec.frozen hK7 0
    have hf1 := Rec.frozen hK7 1
    have hlt7 := Rec.lt hX7
    have hlt70 := Rec.lt hK7
    simp at hx0 hx1 hx2 hk0 hk1
    have HK7 := hid hK7
    clear hK7 hX7
    go_region
    all_goals (
      go_wp2_with fail
      refine bodyPost_ret (v := .tuple #[.agg #[.int .u64 x.v, .int .i64 x.id], val x.x, .bool true]) (by simp [results, Try.results49, go_sem, hx0, hx1, hx2, hk0, hk1, hf0, hf1, hlt7, hlt70]) rfl ?_
      have hn7 := hF_later H7.out.2.kept HNR5.out.1 HKey5.out.lt
      obtain ⟨z1, z2, z3⟩ := take_end H7.out.2.at' hn7 (HK5.out.trans H7.out.2.kept) (by have := ES.out; omega) (HB5.out.trans H7.out.2.bel) (by have := ES.out; omega) (.int .u64 x.v) (.int .i64 x.id)
      exact ⟨rfl, ⟨l3, HP5.out, ⟨_, z1, H7.out.1, H7.out.2.perm⟩, HG3.out⟩, z3, z2⟩)
end

end Go.Proofs.Ytcbdghjakdbedaa.HpS
