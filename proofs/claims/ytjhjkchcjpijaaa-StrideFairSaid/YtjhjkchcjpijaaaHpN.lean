/-
  Layer 04 (heaps), at this dump: heaps of ints: Peek, Pop. No condition.
-/
import Derived.Test.YtjhjkchcjpijaaaHpM
namespace Go.Proofs.Ytjhjkchcjpijaaa.HpI
open Go Go.RowKit Go.Proofs.Ytjhjkchcjpijaaa
section
variable {B : Nat} {w w' : World} {b mb : Nat} {most : Int} {l L : List (Hp.It A)}
/-- The one that is due first. -/
def Least (L : List (Hp.It A)) (x : Hp.It A) : Prop := x ∈ L ∧ ∀ y ∈ L, ¬ Hp.lt y x
theorem Least.perm {L' : List (Hp.It A)} {x : Hp.It A} (h : Least L x) (p : L.Perm L') : Least L' x := ⟨p.mem_iff.1 h.1, fun y hy => h.2 y (p.mem_iff.2 hy)⟩
theorem least_root (h : Hp.Ord l) (h0 : 0 < l.length) : Least l l[0] := ⟨List.getElem_mem h0, fun y hy => by
  obtain ⟨k, hk, rfl⟩ := List.getElem_of_mem hy
  exact h.root k hk⟩
abbrev kv0 : Value := .tuple #[.agg #[.int .u64 0, .int .i64 0], zval, .bool false]
abbrev kvOf (x : Hp.It A) : Value := .tuple #[.agg #[.int .u64 x.v, .int .i64 x.id], val x.x, .bool true]
set_option maxRecDepth 100000 in
set_option maxHeartbeats 4000000 in
theorem Peek_none (h : HP B w b mb most []) : Calls Try.prog 22 #[.pointer (some ⟨b, 0, none⟩)] w (Gives kv0 w) := by
  have hb1 : Below w.heap.size w (w.alloc (.cells #[.int .u64 0, .int .i64 0] 47)) := (Below.refl _ w).alloc (Nat.le_refl _) _
  have HL := hid (Len_any (h.far hb1))
  clear h
  go_enter Try.func22, Try.ntmps22
  go_wp2_with (go_at_call 36; refine HL.out.mono ?_; rintro _ _ ⟨rfl, rfl⟩)
  refine bodyPost_ret (v := kv0) (by simp [results, Try.results22, go_sem]) rfl ?_
  refine Gives.mk rfl ?_
  (repeat (first | exact Below.refl _ _ | refine RowKit.Below.past ?_ _ | refine RowKit.Below.alloc' ?_ _ | refine RowKit.Below.drew' ?_ | refine RowKit.Below.drewN' ?_ _ | refine RowKit.Below.setCell' ?_ (by simp [go_sem]) _))
set_option maxRecDepth 100000 in
set_option maxHeartbeats 4000000 in
theorem Peek_some (h : HP B w b mb most L) (h0 : 0 < L.length) : Calls Try.prog 22 #[.pointer (some ⟨b, 0, none⟩)] w (fun e w' => ∃ x, Least L x ∧ e = .returned (kvOf x) ∧ Below w.heap.size w w') := by
  obtain ⟨w1, ew1⟩ : ∃ w1, w1 = w.alloc (.cells #[.int .u64 0, .int .i64 0] 47) := ⟨_, rfl⟩
  have hb1 : Below w.heap.size w w1 := by rw [ew1]; exact (Below.refl _ w).alloc (Nat.le_refl _) _
  have hR1 : Rec w1 w.heap.size 47 #[.int .u64 0, .int .i64 0] := by rw [ew1]; exact Rec.new w _ _
  have h1 := h.far hb1
  have HL := hid (Len_any h1)
  obtain ⟨l, a1, a2, a3⟩ := h.ex
  have hlen : 0 < l.length := by rw [a3.length_eq]; exact h0
  have HX := hid ((least_root a2 hlen).perm a3)
  obtain ⟨a, c, q0, q1, q2, qs⟩ := a1.cells
  obtain ⟨g, rfl, i0, i1, i2⟩ := qs 0 hlen
  obtain ⟨x, ex⟩ : ∃ x, l[0] = x := ⟨_, rfl⟩
  rw [ex] at i0 i1 i2 HX
  simp at i0 i1 i2
  have hgl : g < w.heap.size := World.block_lt_of_cell? w _ i0
  have hbl := a1.lt
  replace q1 := below_cell hb1 (Nat.le_refl _) _ _ q1
  replace i0 := below_cell hb1 (Nat.le_refl _) _ _ i0
  replace i1 := below_cell hb1 (Nat.le_refl _) _ _ i1
  replace i2 := below_cell hb1 (Nat.le_refl _) _ _ i2
  obtain ⟨n, en⟩ : ∃ n, l.length = n := ⟨_, rfl⟩
  have hn : L.length = n := by rw [← en, a3.length_eq]
  rw [hn] at HL
  rw [en] at q1 hlen
  obtain ⟨s0, es0⟩ : ∃ s0, w.heap.size = s0 := ⟨_, rfl⟩
  have ES := hid es0
  have HB1 := hid hb1
  have EW1 := hid ew1
  rw [es0] at hR1
  have k0 := Rec.cell hR1 0
  have k1 := Rec.cell hR1 1
  have f0 := Rec.frozen hR1 0
  have f1 := Rec.frozen hR1 1
  have hls := Rec.lt hR1
  simp at k0 k1
  have hlen' : (0 : Int) < n := by omega
  have hbs : ¬ b = s0 := by omega
  have hgs : ¬ g = s0 := by omega
  have hbl1 : b < w1.heap.size := by omega
  have hgl1 : g < w1.heap.size := by omega
  have hd : ((n : Int) == 0) = false := by simp; omega
  clear h h1 a1 a2 a3 qs ex en hn q0 q2 es0 hb1 ew1 h0 hR1 hgl hbl
  go_enter Try.func22, Try.ntmps22
  go_wp2_with (go_at_call 36; rw [← EW1.out]; refine HL.out.mono ?_; rintro _ w9 ⟨rfl, h9⟩; rw [h9]; clear h9 w9)
  rw [ES.out]
  go_region
  all_goals (
    go_wp2_with fail
    refine bodyPost_ret (v := kvOf x) (by simp [results, Try.results22, go_sem, k0, k1, f0, f1, hls]) rfl ?_
    refine ⟨x, HX.out, rfl, ?_⟩
    exact ((HB1.out.setCell (p := ⟨s0, 0, none⟩) (Nat.le_of_eq ES.out) _).setCell (p := ⟨s0, 1, none⟩) (Nat.le_of_eq ES.out) _).drew)
theorem new_out (h : HP B w b mb most L) (hb : Below w.heap.size w w') {s0 : Nat} (hs : w.heap.size ≤ s0) : ¬ hF b mb w' s0 := by
  obtain ⟨l, a1, -⟩ := h.ex
  have h1 := a1.lt
  have h2 := a1.mp.lt
  rintro (h | h | h)
  · omega
  · omega
  · obtain ⟨a, c, q, r⟩ := a1.ex
    have h3 := row_same (hb.block b h1) h
    obtain ⟨n', c', h3⟩ := h3
    rw [Rec.cell q 1] at h3
    simp at h3
    obtain ⟨rfl, -, -⟩ := h3
    have := (r.lt s0 rfl).2
    omega
end

end Go.Proofs.Ytjhjkchcjpijaaa.HpI
