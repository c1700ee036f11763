/-
  Layer 04: heaps of ints: Remove. No condition.
-/
import Derived.Test.YtcbdghjakdbedaaHpN
namespace Go.Proofs.Ytcbdghjakdbedaa.HpI
open Go Go.RowKit Go.Proofs.Ytcbdghjakdbedaa
section
variable {B : Nat} {w w' : World} {b mb : Nat} {most : Int} {l L : List (Hp.It A)}
theorem HP.cells (h : HP B w b mb most L) : ∃ a c, w.cell? ⟨b, 0, none⟩ = some (.int .i64 most) ∧ w.cell? ⟨b, 1, none⟩ = some (.slice a L.length c) ∧ w.cell? ⟨b, 2, none⟩ = some (.map (some mb)) := by
  obtain ⟨l, a1, a2, a3⟩ := h.ex
  obtain ⟨a, c, q0, q1, q2, -⟩ := a1.cells
  exact ⟨a, c, q0, by rw [← a3.length_eq]; exact q1, q2⟩
theorem HP.look (h : HP B w b mb most L) {z : Int} (hz : I64 z) : ∃ l, HAt B w b mb most l ∧ Hp.Ord l ∧ l.Perm L ∧ (Instr.lookup 68 (.map (some mb)) (.int .i64 z) true).run Try.prog w = .ok (.tuple #[.int .i64 ((idx l z).getD 0), .bool (idx l z).isSome]) w := by
  obtain ⟨l, a1, a2, a3⟩ := h.ex
  exact ⟨l, a1, a2, a3, a1.mp.look (by kernel_rfl) (by kernel_rfl) (by go_simp) hz⟩
theorem idx_none_of {z : Int} (h : ¬ z ∈ l.map (·.id)) : idx l z = none := idx_none fun x hx e => h (List.mem_map.2 ⟨x, hx, e⟩)
theorem idx_some_of {x : Hp.It A} (hnd : (l.map (·.id)).Nodup) (hx : x ∈ l) : ∃ i : Nat, idx l x.id = some (i : Int) ∧ l[i]? = some x := by
  obtain ⟨i, hi, rfl⟩ := List.getElem_of_mem hx
  exact ⟨i, idx_at hnd hi, List.getElem?_eq_getElem hi⟩
end

section
variable {B : Nat} {w w' : World} {b mb : Nat} {most : Int} {l L : List (Hp.It A)}
set_option maxRecDepth 100000 in
set_option maxHeartbeats 4000000 in
theorem Remove_none (h : HP B w b mb most L) (z : Int) (hz : I64 z) (hn : ¬ z ∈ L.map (·.id)) : Calls Try.prog 13 #[.pointer (some ⟨b, 0, none⟩), .int .i64 z] w (Gives kv0 w) := by
  obtain ⟨w1, ew1⟩ : ∃ w1, w1 = w.alloc (.cells #[.int .u64 0, .int .i64 0] 30) := ⟨_, rfl⟩
  have hb1 : Below w.heap.size w w1 := by rw [ew1]; exact (Below.refl _ w).alloc (Nat.le_refl _) _
  have hR1 : Rec w1 w.heap.size 30 #[.int .u64 0, .int .i64 0] := by rw [ew1]; exact Rec.new w _ _
  have h1 := h.far hb1
  have HL := hid (Len_any h1)
  obtain ⟨l, a1, -, a3, hlook⟩ := h1.look hz
  rw [idx_none_of (fun e => hn ((a3.map _).mem_iff.1 e))] at hlook
  simp only [Option.getD_none, Option.isSome_none] at hlook
  obtain ⟨a, c, q0, q1, q2, -⟩ := a1.cells
  obtain ⟨s0, es0⟩ : ∃ s0, w.heap.size = s0 := ⟨_, rfl⟩
  have ES := hid es0
  rw [es0] at hR1
  have k0 := Rec.cell hR1 0
  have k1 := Rec.cell hR1 1
  have f0 := Rec.frozen hR1 0
  have f1 := Rec.frozen hR1 1
  have hls := Rec.lt hR1
  simp at k0 k1
  have HB1 := hid hb1
  have EW1 := hid ew1
  obtain ⟨n, en⟩ : ∃ n, L.length = n := ⟨_, rfl⟩
  rw [en] at HL
  clear h h1 a1 a3 hn en hb1 ew1 hR1 es0 q0 q1
  by_cases h0 : 0 < n
  · have hg : (n : Int) > 0 := by omega
    go_enter Try.func13, Try.ntmps13
    go_wp2_with (go_at_call 18; rw [← EW1.out, ES.out]; refine HL.out.mono ?_; rintro _ w9 ⟨rfl, h9⟩; rw [h9]; clear h9 w9)
    refine bodyPost_ret (v := kv0) (by simp [results, Try.results13, go_sem, k0, k1, f0, f1, hls]) rfl ?_
    refine Gives.mk rfl ?_
    exact (HB1.out.setCell (p := ⟨s0, 0, none⟩) (Nat.le_of_eq ES.out) _).setCell (p := ⟨s0, 1, none⟩) (Nat.le_of_eq ES.out) _
  · obtain rfl : n = 0 := by omega
    go_enter Try.func13, Try.ntmps13
    go_wp2_with (go_at_call 18; rw [← EW1.out, ES.out]; refine HL.out.mono ?_; rintro _ w9 ⟨rfl, h9⟩; rw [h9]; clear h9 w9)
    refine bodyPost_ret (v := kv0) (by simp [results, Try.results13, go_sem, k0, k1, f0, f1, hls]) rfl ?_
    refine Gives.mk rfl ?_
    exact (HB1.out.setCell (p := ⟨s0, 0, none⟩) (Nat.le_of_eq ES.out) _).setCell (p := ⟨s0, 1, none⟩) (Nat.le_of_eq ES.out) _
set_option maxRecDepth 100000 in
set_option maxHeartbeats 4000000 in
theorem Remove_some (h : HP B w b mb most L) (x : Hp.It A) (hx : x ∈ L) (hB : B ≤ w.heap.size) : Calls Try.prog 13 #[.pointer (some ⟨b, 0, none⟩), .int .i64 x.id] w (fun e w' => e = .returned (kvOf x) ∧ (∃ L', (x :: L').Perm L ∧ HP B w' b mb most L') ∧ Below B w w' ∧ HKept b mb w w') := by
  obtain ⟨w1, ew1⟩ : ∃ w1, w1 = w.alloc (.cells #[.int .u64 0, .int .i64 0] 30) := ⟨_, rfl⟩
  have hb1 : Below w.heap.size w w1 := by rw [ew1]; exact (Below.refl _ w).alloc (Nat.le_refl _) _
  have hR1 : Rec w1 w.heap.size 30 #[.int .u64 0, .int .i64 0] := by rw [ew1]; exact Rec.new w _ _
  have h1 := h.far hb1
  have HL := hid (Len_any h1)
  have HNO := hid (new_out h hb1 (Nat.le_refl _))
  obtain ⟨l, a1, a2, a3, hlook⟩ := h1.look (h.good.i64 x hx)
  obtain ⟨i, hi, hli⟩ := idx_some_of (h.good.perm a3).nd (a3.mem_iff.2 hx)
  rw [hi] at hlook
  simp only [Option.getD_some, Option.isSome_some] at hlook
  have HT := hid (take_any (h.good.perm a3) a1 a2 (by have := hb1.size; omega) i x hli)
  obtain ⟨a, c, q0, q1, q2, -⟩ := a1.cells
  obtain ⟨n, en⟩ : ∃ n, L.length = n := ⟨_, rfl⟩
  have hn0 : 0 < n := by rw [← en]; exact List.length_pos_of_mem hx
  have hg : (n : Int) > 0 := by omega
  rw [en] at HL
  have HA3 := hid a3
  have H := hid h
  have HB1 := hid hb1
  have EW1 := hid ew1
  have HR1 := hid hR1
  have HB := hid hB
  have hbl := a1.lt
  clear h h1 a1 a2 a3 en hb1 ew1 hR1 hB hx hi hli q0 q1
  go_enter Try.func13, Try.ntmps13
  go_wp2_with (first | (go_at_call 18; rw [← EW1.out]; refine HL.out.mono ?_; rintro _ w9 ⟨rfl, h9⟩; rw [h9]; clear h9 w9) | fail)
  have ht := HT.out
  clear HT
  refine ht.mono ?_
  rintro _ w2 ⟨rfl, hL2, hb2, hk2⟩
  have hR2 := HR1.out.kept hk2.kept HNO.out
  have hn2 := hF_later hk2 HNO.out HR1.out.lt
  obtain ⟨s0, es0⟩ : ∃ s0, w.heap.size = s0 := ⟨_, rfl⟩
  have ES := hid es0
  rw [es0] at hR2 hn2 ⊢
  have k0 := Rec.cell hR2 0
  have k1 := Rec.cell hR2 1
  have f0 := Rec.frozen hR2 0
  have f1 := Rec.frozen hR2 1
  have hls := Rec.lt hR2
  simp at k0 k1
  have K2 := hid hk2
  have L2 := hid hL2
  have B2 := hid hb2
  have N2 := hid hn2
  clear hk2 hL2 hb2 hn2 hR2 es0 ht
  go_wp2_with fail
  refine bodyPost_ret (v := kvOf x) (by simp [results, Try.results13, go_sem, k0, k1, f0, f1, hls]) rfl ?_
  obtain ⟨L', p1, p2⟩ := L2.out
  obtain ⟨z1, z2, z3⟩ := box_end p2 N2.out ((HKept.of_below HB1.out H.out.lt).trans K2.out) (Nat.le_of_eq ES.out) ((HB1.out.mono HB.out).trans B2.out) (by have := ES.out; have := HB.out; omega) (.int .u64 x.v) (.int .i64 x.id)
  exact ⟨rfl, ⟨L', p1.trans HA3.out, z1⟩, z3, z2⟩
end

end Go.Proofs.Ytcbdghjakdbedaa.HpI
