/-
  Layer 33: the law's look whether the spans gone over are the document's: they are, if the lists are the same. No condition.
-/
import Derived.Test.YtjihhpipdhhjkaaSpX
import Derived.Shelf.Abstract
import Derived.Deep.CutRange
import Derived.StillTailTactics
namespace Go.Proofs.Ytjihhpipdhhjkaa
open Go.RowKit Go.Shelf
attribute [local go_sem] Oper.semAt_some
theorem SpAt.seen {B : Nat} {w : World} {b : Nat} {l : List (Int × Int)} (h : SpAt B w b l) : ∃ A c, ∀ W, Below w.heap.size w W → W.cell? ⟨b, 0, none⟩ = some (.slice A l.length c) ∧ Cells W A (tab pcV l) := by
  obtain ⟨A, c, h1, h2⟩ := h.ex
  refine ⟨A, c, fun W hW => ⟨Rec.cell (h1.below hW (Nat.le_refl _)) 0, ?_⟩⟩
  exact (Cells.of_own h2).below hW
/-- Between two rounds. -/
structure AlI (T : Nat → Prop) (w5 : World) (K R : Nat) (k : Int) (z : Bool) (W : World) : Prop where
  keep : KS T w5 W
  bk : Boxed W K 3 (.int .i64 k)
  br : Boxed W R 4 (.bool z)
theorem AlI.far {T : Nat → Prop} {w5 : World} {K R : Nat} {k : Int} {z : Bool} {A B : World} (h : AlI T w5 K R k z A) (hK : K < w5.heap.size) (hR : R < w5.heap.size) (hb : Below w5.heap.size A B) : AlI T w5 K R k z B :=
  ⟨h.keep.far hb, (hb.block _ hK).trans h.bk, (hb.block _ hR).trans h.br⟩
theorem prefix_pc {l pre : List (Int × Int)} {x : Int × Int} (h : pre ++ [x] <+: l) : pre.length < l.length ∧ pc l pre.length = x := by
  obtain ⟨t, rfl⟩ := h
  simp [pc]
set_option maxRecDepth 100000 in
set_option maxHeartbeats 8000000 in
theorem all_any {B : Nat} {w : World} {b : Nat} {l : List (Int × Int)} (h : SpAt B w b l) (A : Option Addr) (c : Nat) (ha : Cells w A (tab pcV l)) (y : Int) (hy : I64 y) :
    Calls Try.prog 18 #[.pointer (some ⟨b, 0, none⟩), .slice A l.length c, .int .i64 y] w (Gives (.bool true) w) := by
  obtain ⟨n, en⟩ : ∃ n, l.length = n := ⟨_, rfl⟩
  have hn := h.len
  obtain ⟨As, cs, hsee⟩ := h.seen
  rw [en] at hn hsee ⊢
  have HSEE := hid hsee
  have HA := hid ha
  have EN := hid en
  have HPC := hid (fun (W : World) (hW : Below w.heap.size w W) (k : Nat) (hk : k < n) => pc_at (ha.below hW) (k := k) (by rw [en]; exact hk))
  obtain ⟨w1, ew1⟩ : ∃ w1, w1 = (((w.alloc (.cells #[.slice A n c] 42)).alloc (.cells #[.int .i64 y] 3)).alloc (.cells #[.bool false] 4)).alloc (.cells #[.int .i64 0] 3) := ⟨_, rfl⟩
  have hb1 : Below w.heap.size w w1 := by rw [ew1]; exact ((((Below.refl _ w).alloc (Nat.le_refl _) _).alloc (by simp) _).alloc (by simp; omega) _).alloc (by simp; omega) _
  have hs1 : w1.heap.size = w.heap.size + 4 := by rw [ew1]; simp
  have bW1 : Boxed w1 w.heap.size 42 (.slice A n c) := by rw [ew1]; exact (((Boxed.new w _ _).alloc _).alloc _).alloc _
  have bY1 : Boxed w1 (w.heap.size + 1) 3 (.int .i64 y) := by
    rw [ew1]
    have := Boxed.new (w.alloc (.cells #[.slice A n c] 42)) 3 (.int .i64 y)
    rw [World.size_alloc] at this
    exact (this.alloc _).alloc _
  have bR1 : Boxed w1 (w.heap.size + 2) 4 (.bool false) := by
    rw [ew1]
    have := Boxed.new ((w.alloc (.cells #[.slice A n c] 42)).alloc (.cells #[.int .i64 y] 3)) 4 (.bool false)
    rw [World.size_alloc, World.size_alloc] at this
    exact this.alloc _
  have bK1 : Boxed w1 (w.heap.size + 3) 3 (.int .i64 0) := by
    rw [ew1]
    have := Boxed.new (((w.alloc (.cells #[.slice A n c] 42)).alloc (.cells #[.int .i64 y] 3)).alloc (.cells #[.bool false] 4)) 3 (.int .i64 0)
    rwa [World.size_alloc, World.size_alloc, World.size_alloc] at this
  have EW1 := hid ew1
  have HB1 := hid hb1
  have HBX1 := hid (And.intro bW1 (And.intro bY1 (And.intro bR1 bK1)))
  clear ew1 hsee ha en h hb1 bW1 bY1 bR1 bK1
  refine (callsIn_wide (n := 5)).1 ?_
  refine callsIn_of_wp_marks Try.func18 rfl trivial ?_ rfl
  refine wpIn_wide.2 ?_
  simp only [Try.ntmps18, List.size_toArray, List.length_cons, List.length_nil, Nat.reduceAdd, Nat.reduceSub, Array.replicate_succ, Array.replicate_zero, List.push_toArray, List.append_toArray, List.nil_append, List.cons_append]
  go_upto_region 2 with (fail)
  rw [← EW1.out]
  go_wp2_with fail
  refine (All_any (some ⟨b, 0, none⟩) w1).mono ?_
  rintro _ w5 ⟨rfl, hb5, hs5, hx5⟩
  rw [hs1] at hs5 hx5 ⊢
  have hx1 := HBX1.out
  have bW5 : Boxed w5 w.heap.size 42 (.slice A n c) := (hb5.block _ (by omega)).trans hx1.1
  have bY5 : Boxed w5 (w.heap.size + 1) 3 (.int .i64 y) := (hb5.block _ (by omega)).trans hx1.2.1
  have bR5 : Boxed w5 (w.heap.size + 2) 4 (.bool false) := (hb5.block _ (by omega)).trans hx1.2.2.1
  have bK5 : Boxed w5 (w.heap.size + 3) 3 (.int .i64 0) := (hb5.block _ (by omega)).trans hx1.2.2.2
  have HB5 := hid (HB1.out.trans (hb5.mono HB1.out.size))
  obtain ⟨K0, eK0⟩ : ∃ K, w.heap.size = K := ⟨_, rfl⟩
  rw [eK0] at bW5 bY5 bR5 bK5 hs5 hx5 hs1 ⊢
  obtain ⟨T, eT⟩ : ∃ T : Nat → Prop, T = fun k => k = K0 + 3 ∨ k = K0 + 2 := ⟨_, rfl⟩
  have hT3 : T (K0 + 3) := by rw [eT]; exact .inl rfl
  have hT2 : T (K0 + 2) := by rw [eT]; exact .inr rfl
  have hTw : ∀ k, T k → k < w5.heap.size := by rw [eT]; rintro k (rfl | rfl) <;> omega
  have hTb : ∀ k, T k → K0 ≤ k := by rw [eT]; rintro k (rfl | rfl) <;> omega
  have hTx : ¬ T (K0 + 4) := by rw [eT]; rintro (h | h) <;> omega
  have hT0 : ¬ T K0 := by rw [eT]; rintro (h | h) <;> omega
  have hT1 : ¬ T (K0 + 1) := by rw [eT]; rintro (h | h) <;> omega
  have HBW := hid (fun W (hk : KS T w5 W) => (HB5.out.trans (hk.under (by rw [eK0]; exact hTb) HB5.out.size) : Below w.heap.size w W))
  have hseq := all_seq (5 - 1) (by omega) w5 (K0 + 4) b n cs As l EN.out T hx5 hTx hn (fun W hk => HSEE.out W (HBW.out W hk))
  have HSEQ := hid hseq
  have HQ5 := hid (And.intro bW5 (And.intro bY5 (And.intro bR5 bK5)))
  have hK4 : K0 + 5 ≤ w5.heap.size := by omega
  have EK0 := hid eK0
  have HTB := hid hTb
  clear hseq hx5 hb5 eT hTb bW5 bY5 EW1 HBX1 hx1 HSEE HA HB1 hs1 hs5 eK0
  go_wp2_with fail
  refine (wpIn_wide (n := 5)).1 ?_
  apply wpIn_rangeFunc_E rfl (by omega) (gf := 30) (lb := #[.pointer (some ⟨K0 + 4, 0, none⟩)]) rfl trivial (enters_of Try.func30 (by kernel_rfl) rfl) HSEQ.out hTw (KS.refl _ _) (fun _ => rfl)
    (fun pre W => AlI T w5 (K0 + 3) (K0 + 2) (pre.length : Int) false W)
    (fun c pre W => c = .ret ∧ AlI T w5 (K0 + 3) (K0 + 2) (pre.length : Int) true W)
    (fun _ _ _ h hb => h.far (by omega) (by omega) hb)
    (fun _ _ _ _ h hb => ⟨h.1, h.2.far (by omega) (by omega) hb⟩)
    ⟨KS.refl _ _, bK5, bR5⟩
    _ ?assign ?body ?done ?stop
  case assign =>
    intro lq x W K hK
    simp only [encP]
    gi_wp2
    exact hK
  case stop =>
    rintro D c pre W hD hSp ⟨rfl, hJ⟩ hKD
    have hB := below_putObj (HBW.out W hJ.keep) (show w.heap.size ≤ D by rw [EK0.out]; omega) (.deferred none)
    have b11 : Boxed (W.putObj D (.deferred none)) (K0 + 2) 4 (.bool true) := (World.putObj_heap_other (by omega)).trans hJ.br
    have q11 := b11.cell
    have HBB := hid hB
    have HKD := hid hKD
    clear hJ HSEQ hKD hB b11 hSp
    refine wpIn_wide.2 ?_
    go_wp2_with fail
    refine ⟨by simp, .inl ⟨_, _, rfl, run_takeDeferred HKD.out, ?_⟩⟩
    exact ⟨.bool true, by simp [results, Try.results18, go_sem, q11], Gives.mk rfl HBB.out⟩
  case done =>
    rintro D pre W hD hS hJ hKD
    subst hS
    rw [EN.out] at hJ
    have hq5 := HQ5.out
    have bW9 := hJ.keep.boxed hT0 hq5.1
    have qw := bW9.cell
    have qk := hJ.bk.cell
    have qr := hJ.br.cell
    have fr := hJ.br.frozen
    have lr := hJ.br.lt
    have hk9 : KS T w5 (W.setCell ⟨K0 + 2, 0, none⟩ (.bool true)) := hJ.keep.setCell hT2 0 _
    have b9 : Boxed (W.setCell ⟨K0 + 2, 0, none⟩ (.bool true)) (K0 + 2) 4 (.bool true) := hJ.br.set _
    have z9 : (W.setCell ⟨K0 + 2, 0, none⟩ (.bool true)).heap[D]? = some (.deferred (some [])) := (heap_setCell_other _ _ _ _ (by simp; omega)).trans hKD
    have hB := below_putObj (HBW.out _ hk9) (show w.heap.size ≤ D by rw [EK0.out]; omega) (.deferred none)
    have b11 : Boxed ((W.setCell ⟨K0 + 2, 0, none⟩ (.bool true)).putObj D (.deferred none)) (K0 + 2) 4 (.bool true) := (World.putObj_heap_other (by omega)).trans b9
    have q11 := b11.cell
    have HBB := hid hB
    have HKD := hid z9
    clear hJ HSEQ hKD hB b11 b9 hk9 z9 bW9 hq5
    go_wp2_with fail
    refine ⟨by simp, .inl ⟨_, _, rfl, run_takeDeferred HKD.out, ?_⟩⟩
    exact ⟨.bool true, by simp [results, Try.results18, go_sem, q11], Gives.mk rfl HBB.out⟩
  case body =>
    rintro lq pre x W hsW hJ hlen hsp
    obtain ⟨hp1, hp2⟩ := prefix_pc hsp
    rw [EN.out] at hp1
    have hq5 := HQ5.out
    have qw := (hJ.keep.boxed hT0 hq5.1).cell
    have qy := (hJ.keep.boxed hT1 hq5.2.1).cell
    have HJ := hid hJ
    have HEL := hid (show ((pre ++ [x]).length : Int) = (pre.length : Int) + 1 by simp)
    have hpc := HPC.out W (HBW.out W hJ.keep) pre.length hp1
    rw [hp2] at hpc
    obtain ⟨g, o, rfl, c0, c1⟩ := hpc
    have qk := hJ.bk.cell
    have fk := hJ.bk.frozen
    have lk := hJ.bk.lt
    have qr := hJ.br.cell
    have fr := hJ.br.frozen
    have lr := hJ.br.lt
    obtain ⟨k, ek⟩ : ∃ k, pre.length = k := ⟨_, rfl⟩
    rw [ek] at hp1 c0 c1 qk HEL
    have HEK := hid ek
    have HF := hid (show KS T W (W.setCell ⟨K0 + 3, 0, none⟩ (.int .i64 ((k : Int) + 1))) ∧ AlI T w5 (K0 + 3) (K0 + 2) ((pre ++ [x]).length : Int) false (W.setCell ⟨K0 + 3, 0, none⟩ (.int .i64 ((k : Int) + 1))) from by
      rw [HEL.out]
      exact ⟨(KS.refl T W).setCell hT3 0 _, hJ.keep.setCell hT3 0 _, hJ.bk.set _, (heap_setCell_other _ _ _ _ (by simp)).trans hJ.br⟩)
    have HG := hid (show KS T W ((W.setCell ⟨K0 + 3, 0, none⟩ (.int .i64 ((k : Int) + 1))).setCell ⟨K0 + 2, 0, none⟩ (.bool true)) ∧ AlI T w5 (K0 + 3) (K0 + 2) ((pre ++ [x]).length : Int) true ((W.setCell ⟨K0 + 3, 0, none⟩ (.int .i64 ((k : Int) + 1))).setCell ⟨K0 + 2, 0, none⟩ (.bool true)) from
      ⟨HF.out.1.setCell hT2 0 _, HF.out.2.keep.setCell hT2 0 _, (heap_setCell_other _ _ _ _ (by simp)).trans HF.out.2.bk, HF.out.2.br.set _⟩)
    have e2 : IntKind.i64.wrap ((k : Int) + 1) = (k : Int) + 1 := by rw [IntKind.wrap_i64]; omega
    clear hJ hq5 HSEQ hsp hp2 ek HQ5 HPC hlen
    rcases dec_cases (y < (k : Int) + 1) with hv | hv
    all_goals
      gi_wp2_with fail
      first
        | exact ⟨HG.out.1, rfl, HG.out.2⟩
        | exact ⟨HF.out.1, HF.out.2⟩
end Go.Proofs.Ytjihhpipdhhjkaa
