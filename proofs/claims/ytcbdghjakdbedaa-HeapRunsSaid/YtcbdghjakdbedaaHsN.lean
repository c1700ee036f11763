/-
  Layer 04: heaps of strings: Peek, Pop. (Printed by mkH.py out of XHpN.) No condition.
-/
import Derived.Test.YtcbdghjakdbedaaHsM
namespace Go.Proofs.Ytcbdghjakdbedaa.HpS
open Go Go.RowKit Go.Proofs.Ytcbdghjakdbedaa
section
variable {B : Nat} {w w' : World} {b mb : Nat} {most : Int} {l L : List (Hp.It A)}
/-- The one that is due first. -/
def Least (L : List (Hp.It A)) (x : Hp.It A) : Prop := x ∈ L ∧ ∀ y ∈ L, ¬ Hp.lt y x
theorem Least.perm {L' : List (Hp.It A)} {x : Hp.It A} (h : Least L x) (p : L.Perm L') : Least L' x := ⟨p.mem_iff.1 h.1, fun y hy => h.2 y (p.mem_iff.2 hy)⟩
theorem least_root (h : Hp.Ord l) (h0 : 0 < l.length) : Least l l[0] := ⟨List.getElem_mem h0, fun y hy => by
  obtain ⟨k, hk, rfl⟩ := List.getElem_of_mem hy
  exact h.root k hk⟩
abbrev kv0 : Value := .tuple #[.agg #[.int .u64 0, .int .i64 0], zval, .bool false]
abbrev kvOf (x : Hp.It A) : Value := .tuple #[.agg #[.int .u64 x.v, .int .i64 x.id], val x.x, .bool true]
set_option maxRecDepth 100000 in
set_option maxHeartbeats 4000000 in
theorem Peek_none (h : HP B w b mb most []) : Calls Try.prog 39 #[.pointer (some ⟨b, 0, none⟩)] w (Gives kv0 w) := by
  have hb1 : Below w.heap.size w (w.alloc (.cells #[.int .u64 0, .int .i64 0] 30)) := (Below.refl _ w).alloc (Nat.le_refl _) _
  have HL := hid (Len_any (h.far hb1))
  clear h
  go_enter Try.func39, Try.ntmps39
  go_wp2_with (go_at_call 26; refine HL.out.mono ?_; rintro _ _ ⟨rfl, rfl⟩)
  refine bodyPost_ret (v := kv0) (by simp [results, Try.results39, go_sem]) rfl ?_
  refine Gives.mk rfl ?_
  (repeat (first | exact Below.refl _ _ | refine RowKit.Below.past ?_ _ | refine RowKit.Below.alloc' ?_ _ | refine RowKit.Below.drew' ?_ | refine RowKit.Below.drewN' ?_ _ | refine RowKit.Below.setCell' ?_ (by simp [go_sem]) _))
set_option maxRecDepth 100000 in
set_option maxHeartbeats 4000000 in
theorem Peek_some (h : HP B w b mb most L) (h0 : 0 < L.length) : Calls Try.prog 39 #[.pointer (some ⟨b, 0, none⟩)] w (fun e w' => ∃ x, Least L x ∧ e = .returned (kvOf x) ∧ Below w.heap.size w w') := by
  obtain ⟨w1, ew1⟩ : ∃ w1, w1 = w.alloc (.cells #[.int .u64 0, .int .i64 0] 30) := ⟨_, rfl⟩
  have hb1 : Below w.heap.size w w1 := by rw [ew1]; exact (Below.refl _ w).alloc (Nat.le_refl _) _
  have hR1 : Rec w1 w.heap.size 30 #[.int .u64 0, .int .i64 0] := by rw [ew1]; exact Rec.new w _ _
  have h1 := h.far hb1
  have HL := hid (Len_any h1)
  obtain ⟨l, a1, a2, a3⟩ := h.ex
  have hlen : 0 < l.length := by rw [a3.length_eq]; exact h0
  have HX := hid ((least_root a2 hlen).perm a3)
  obtain ⟨a, c, q0, q1, q2, qs⟩ := a1.cells
  obtain ⟨g, rfl, i0, i1, i2⟩ := qs 0 hlen
  obtain ⟨x, ex⟩ : ∃ x, l[0] = x := ⟨_, rfl⟩
  rw [ex] at i0 i1 i2 HX
  simp at i0 i1 i2
  have hgl : g < w.heap.size := World.block_lt_of_cell? w _ i0
  have hbl := a1.lt
  replace q1 := below_cell hb1 (Nat.le_refl _) _ _ q1
  replace i0 := below_cell hb1 (Nat.le_refl _) _ _ i0
  replace i1 := below_cell hb1 (Nat.le_refl _) _ _ i1
  replace i2 := below_cell hb1 (Nat.le_refl _) _ _ i2
  obtain ⟨n, en⟩ : ∃ n, l.length = n := ⟨_, rfl⟩
  have hn : L.length = n := by rw [← en, a3.length_eq]
  rw [hn] at HL
  rw [en] at q1 hlen
  obtain ⟨s0, es0⟩ : ∃ s0, w.heap.size = s0 := ⟨_, rfl⟩
  have ES := hid es0
  have HB1 := hid hb1
  have EW1 := hid ew1
  rw [es0] at hR1
  have k0 := Rec.cell hR1 0
  have k1 := Rec.cell hR1 1
  have f0 := Rec.frozen hR1 0
  have f1 := Rec.frozen hR1 1
  have hls := Rec.lt hR1
  simp at k0 k1
  have hlen' : (0 : Int) < n := by omega
  have hbs : ¬ b = s0 := by omega
  have hgs : ¬ g = s0 := by omega
  have hbl1 : b < w1.heap.size := by omega
  have hgl1 : g < w1.heap.size := by omega
  have hd : ((n : Int) == 0) = false := by simp; omega
  clear h h1 a1 a2 a3 qs ex en hn q0 q2 es0 hb1 ew1 h0 hR1 hgl hbl
  go_enter Try.func39, Try.ntmps39
  go_wp2_with (go_at_call 26; rw [← EW1.out]; refine HL.out.mono ?_; rintro _ w9 ⟨rfl, h9⟩; rw [h9]; clear h9 w9)
  rw [ES.out]
  go_region
  all_goals (
    go_wp2_with fail
    refine bodyPost_ret (v := kvOf x) (by simp [results, Try.results39, go_sem, k0, k1, f0, f1, hls]) rfl ?_
    refine ⟨x, HX.out, rfl, ?_⟩
    exact ((HB1.out.setCell (p := ⟨s0, 0, none⟩) (Nat.le_of_eq ES.out) _).setCell (p := ⟨s0, 1, none⟩) (Nat.le_of_eq ES.out) _).drew)
/-- The answer's box is filled, in the order of the text. -/
theorem box_end {s0 : Nat} (h : HP B w' b mb most L) (hn : ¬ hF b mb w' s0) (hk : HKept b mb w w') (hs : w.heap.size ≤ s0) (hb : Below B w w') (hB : B ≤ s0) (u u' : Value) :
    HP B ((w'.setCell ⟨s0, 0, none⟩ u).setCell ⟨s0, 1, none⟩ u') b mb most L ∧ HKept b mb w ((w'.setCell ⟨s0, 0, none⟩ u).setCell ⟨s0, 1, none⟩ u') ∧ Below B w ((w'.setCell ⟨s0, 0, none⟩ u).setCell ⟨s0, 1, none⟩ u') := by
  have e1 : b ≠ s0 := fun e => hn (.inl e.symm)
  have hn2 : ¬ hF b mb (w'.setCell ⟨s0, 0, none⟩ u) s0 := by
    rintro (h | h | h)
    · exact hn (.inl h)
    · exact hn (.inr (.inl h))
    · exact hn (.inr (.inr (row_set e1 h)))
  obtain ⟨l, a1, a2, a3⟩ := h.ex
  exact ⟨⟨⟨l, (a1.outside hn 0 u).outside hn2 1 u', a2, a3⟩, h.good⟩, ⟨(hk.kept.setCell (p := ⟨s0, 0, none⟩) (.inl hs) u).setCell (p := ⟨s0, 1, none⟩) (.inl hs) u', fun g hg => hk.row g (row_set e1 (row_set e1 hg))⟩, (hb.setCell (p := ⟨s0, 0, none⟩) hB u).setCell (p := ⟨s0, 1, none⟩) hB u'⟩
theorem new_out (h : HP B w b mb most L) (hb : Below w.heap.size w w') {s0 : Nat} (hs : w.heap.size ≤ s0) : ¬ hF b mb w' s0 := by
  obtain ⟨l, a1, -⟩ := h.ex
  have h1 := a1.lt
  have h2 := a1.mp.lt
  rintro (h | h | h)
  · omega
  · omega
  · obtain ⟨a, c, q, r⟩ := a1.ex
    have h3 := row_same (hb.block b h1) h
    obtain ⟨n', c', h3⟩ := h3
    rw [Rec.cell q 1] at h3
    simp at h3
    obtain ⟨rfl, -, -⟩ := h3
    have := (r.lt s0 rfl).2
    omega
set_option maxRecDepth 100000 in
set_option maxHeartbeats 4000000 in
theorem Pop_none (h : HP B w b mb most []) : Calls Try.prog 40 #[.pointer (some ⟨b, 0, none⟩)] w (Gives kv0 w) := by
  have hb1 : Below w.heap.size w (w.alloc (.cells #[.int .u64 0, .int .i64 0] 30)) := (Below.refl _ w).alloc (Nat.le_refl _) _
  have HL := hid (Len_any (h.far hb1))
  have HP := hid (Peek_none (h.far hb1))
  clear h
  go_enter Try.func40, Try.ntmps40
  go_wp2_with (first | (go_at_call 26; refine HL.out.mono ?_; rintro _ _ ⟨rfl, rfl⟩) | (go_at_call 39; refine HP.out.mono ?_; rintro _ _ ⟨rfl, x9, rfl⟩))
  refine bodyPost_ret (v := kv0) (by simp [results, Try.results40, go_sem]) rfl ?_
  refine Gives.mk rfl ?_
  (repeat (first | exact Below.refl _ _ | refine RowKit.Below.past ?_ _ | refine RowKit.Below.alloc' ?_ _ | refine RowKit.Below.drew' ?_ | refine RowKit.Below.drewN' ?_ _ | refine RowKit.Below.setCell' ?_ (by simp [go_sem]) _))
set_option maxRecDepth 100000 in
set_option maxHeartbeats 4000000 in
theorem Pop_some (h : HP B w b mb most L) (h0 : 0 < L.length) (hB : B ≤ w.heap.size) : Calls Try.prog 40 #[.pointer (some ⟨b, 0, none⟩)] w (fun e w' => ∃ x, e = .returned (kvOf x) ∧ Least L x ∧ (∃ L', (x :: L').Perm L ∧ HP B w' b mb most L') ∧ Below B w w' ∧ HKept b mb w w') := by
  obtain ⟨w1, ew1⟩ : ∃ w1, w1 = w.alloc (.cells #[.int .u64 0, .int .i64 0] 30) := ⟨_, rfl⟩
  have hb1 : Below w.heap.size w w1 := by rw [ew1]; exact (Below.refl _ w).alloc (Nat.le_refl _) _
  have hR1 : Rec w1 w.heap.size 30 #[.int .u64 0, .int .i64 0] := by rw [ew1]; exact Rec.new w _ _
  have h1 := h.far hb1
  have HL := hid (Len_any h1)
  have HNO := hid (new_out h hb1 (Nat.le_refl _))
  obtain ⟨l, a1, a2, a3⟩ := h1.ex
  have hlen : 0 < l.length := by rw [a3.length_eq]; exact h0
  have HX := hid ((least_root a2 hlen).perm a3)
  obtain ⟨x, ex⟩ : ∃ x, l[0] = x := ⟨_, rfl⟩
  rw [ex] at HX
  have HT := hid (take_any (h.good.perm a3) a1 a2 (by have := hb1.size; omega) 0 x (by rw [← ex]; exact List.getElem?_eq_getElem hlen))
  obtain ⟨n, en⟩ : ∃ n, L.length = n := ⟨_, rfl⟩
  rw [en] at HL h0
  have hd : ((n : Int) == 0) = false := by simp; omega
  have HA3 := hid a3
  have H := hid h
  have HB1 := hid hb1
  have EW1 := hid ew1
  have HR1 := hid hR1
  have HB := hid hB
  clear h h1 a1 a2 a3 ex en hb1 ew1 h0 hR1 hlen hB
  go_enter Try.func40, Try.ntmps40
  go_wp2_with (go_at_call 26; rw [← EW1.out]; refine HL.out.mono ?_; rintro _ w9 ⟨rfl, h9⟩; rw [h9]; clear h9 w9)
  have ht := HT.out
  clear HT
  refine ht.mono ?_
  rintro _ w2 ⟨rfl, hL2, hb2, hk2⟩
  have hR2 := HR1.out.kept hk2.kept HNO.out
  have hn2 := hF_later hk2 HNO.out HR1.out.lt
  obtain ⟨s0, es0⟩ : ∃ s0, w.heap.size = s0 := ⟨_, rfl⟩
  have ES := hid es0
  rw [es0] at hR2 hn2 ⊢
  have k0 := Rec.cell hR2 0
  have k1 := Rec.cell hR2 1
  have f0 := Rec.frozen hR2 0
  have f1 := Rec.frozen hR2 1
  have hls := Rec.lt hR2
  simp at k0 k1
  have K2 := hid hk2
  have L2 := hid hL2
  have B2 := hid hb2
  have N2 := hid hn2
  clear hk2 hL2 hb2 hn2 hR2 es0 ht
  go_wp2_with fail
  refine bodyPost_ret (v := kvOf x) (by simp [results, Try.results40, go_sem, k0, k1, f0, f1, hls]) rfl ?_
  obtain ⟨L', p1, p2⟩ := L2.out
  obtain ⟨z1, z2, z3⟩ := box_end p2 N2.out ((HKept.of_below HB1.out H.out.lt).trans K2.out) (Nat.le_of_eq ES.out) ((HB1.out.mono HB.out).trans B2.out) (by have := ES.out; have := HB.out; omega) (.int .u64 x.v) (.int .i64 x.id)
  exact ⟨x, rfl, HX.out, ⟨L', p1.trans HA3.out, z1⟩, z3, z2⟩
end

end Go.Proofs.Ytcbdghjakdbedaa.HpS
