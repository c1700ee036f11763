/-
  Layer 44's statements: the same rows, the same banks, the same numbers. No condition but that rows are not long.
-/
import Derived.Test.YtddngloojacceaaLwA
namespace Go.Proofs.Ytddngloojacceaa
open Go Go.RowKit
attribute [local go_sem] Oper.semAt_some
set_option maxRecDepth 100000 in
set_option maxHeartbeats 4000000 in
theorem rRows_same (A B : Option Addr) (ca cb n : Nat) (lA lB : List Rw) (ea : lA.length = n) (hv : valR lA = valR lB) (hn : n ≤ 1000000) (hr : ∀ i, (rAt lA i).2.2.length ≤ 1000000) (w : World) (hA : RowsW w A lA) (hB : RowsW w B lB) :
    Calls Try.prog 32 #[.slice A n ca, .slice B n cb] w (Gives (.bool true) w) := by
  have EA := hid ea
  have EB := hid (show lB.length = n by rw [← ea, ← valR_length lA, hv, valR_length])
  have HR := hid hr
  have HV := hid (fun i => (show (rAt lA i).2.2 = (rAt lB i).2.2 by rw [← atR_val, ← atR_val, hv]))
  have HA := hid hA
  have HB := hid hB
  clear ea hr hv hA hB
  go_enter Try.func32, Try.ntmps32
  go_wp2_with fail
  go_loopw [5, 6] (fun i _ wr => ∃ (q : Nat) (y : Past), i = .int .i64 q ∧ q ≤ n ∧ wr = w.past y) (fun i _ _ => n - (intOf i).toNat)
  case atStart => exact ⟨0, _, rfl, by omega, World.past_refl w⟩
  case round =>
    obtain ⟨q, y, rfl, hq, rfl⟩ := hrel
    by_cases hlt : q < n
    · obtain ⟨b1, o1, R1, c1, rfl, q1, k1⟩ := HA.out.at (i := q) (by rw [EA.out]; exact hlt)
      obtain ⟨b2, o2, R2, c2, rfl, q2, k2⟩ := HB.out.at (i := q) (by rw [EB.out]; exact hlt)
      rw [← HV.out q] at q2 k2
      have hl := HR.out q
      obtain ⟨l, el⟩ : ∃ l, (rAt lA q).2.2 = l := ⟨_, rfl⟩
      rw [el] at q1 q2 k1 k2 hl
      obtain ⟨m, em⟩ : ∃ m, l.length = m := ⟨_, rfl⟩
      rw [em] at q1 q2 hl
      have EM := hid em
      have K1 := hid k1
      have K2 := hid k2
      clear el em k1 k2
      go_wp2_with fail
      refine wp_region_past (by kernel_rfl) (by kernel_rfl) ?_
      repeat (go_big_quiet_step ((first | (go_at_call 16; first | with_reducible exact Calls.in_past (True) | with_reducible exact Calls.in_past2 (True)) | (go_at_call 16; first | exact Calls.in_past (True) | exact Calls.in_past2 (True)))))
      refine wpQuiet_nil ?_
      rintro _ ⟨_, rfl⟩
      go_wp2_with fail
      go_loopw [6] (fun i wr => ∃ (p : Nat) (z : Past), i = .int .i64 p ∧ p ≤ m ∧ wr = w.past z) (fun i _ => m - (intOf i).toNat)
      case atStart => exact ⟨0, _, rfl, by omega, by first | rfl | trivial | exact World.past_past⟩
      case round =>
        obtain ⟨p, z, rfl, hp, rfl⟩ := hrel
        by_cases hlp : p < m
        · obtain ⟨g1, f1, rfl, d1⟩ := i64_at K1.out (k := p) (by rw [EM.out]; exact hlp)
          obtain ⟨g2, f2, rfl, d2⟩ := i64_at K2.out (k := p) (by rw [EM.out]; exact hlp)
          go_wp2_with fail
          refine wp_region_past (by kernel_rfl) (by kernel_rfl) ?_
          repeat (go_big_quiet_step ((first | (go_at_call 16; first | with_reducible exact Calls.in_past (True) | with_reducible exact Calls.in_past2 (True)) | (go_at_call 16; first | exact Calls.in_past (True) | exact Calls.in_past2 (True)))))
          refine wpQuiet_nil ?_
          rintro _ ⟨_, rfl⟩
          go_wp2_with fail
          go_roundw
          case rel => exact ⟨p + 1, _, by go_num, by omega, by first | rfl | trivial | exact World.past_past⟩
          case measure => simp [intOf]; omega
        · obtain rfl : m = p := by omega
          go_wp2_with fail
          go_roundw
          case rel => exact ⟨q + 1, _, by go_num, by omega, by first | rfl | trivial | exact World.past_past⟩
          case measure => simp [intOf]; omega
    · obtain rfl : n = q := by omega
      go_wp2_with fail
      go_ret
      refine Gives.mk rfl ?_
      (repeat (first | exact Below.refl _ _ | refine RowKit.Below.past ?_ _ | refine RowKit.Below.alloc' ?_ _ | refine RowKit.Below.drew' ?_ | refine RowKit.Below.drewN' ?_ _ | refine RowKit.Below.setCell' ?_ (by simp [go_sem]) _))
theorem rows_one {w : World} {g : Nat} {F : Option Addr} {c : Nat} {l : List Int} (hc : w.cell? ⟨g, 0, none⟩ = some (.slice F l.length c)) (hf : Cells w F (i64s l)) : RowsW w (some ⟨g, 0, none⟩) [(F, c, l)] := by
  refine ⟨fun _ => ⟨g, 0, rfl, fun i v hi => ?_⟩, fun i hi => ?_⟩
  · match i, hi with
    | 0, hi => simp [tab, rowV] at hi; subst hi; exact hc
    | i + 1, hi => simp [tab, rowV] at hi
  · obtain rfl : i = 0 := by simp at hi; omega
    exact hf
theorem Eqv.sm {x y : Bk} (e : Eqv x y) (h : y.Sm) : x.Sm := ⟨by rw [e.f]; exact h.1, by rw [e.hl]; exact h.2.1, fun i => by rw [e.has, e.most]; exact h.2.2 i⟩
set_option maxRecDepth 100000 in
set_option maxHeartbeats 4000000 in
theorem rSame_any (x y : Bk) (e : Eqv x y) (hs : x.Sm) (hm6 : x.M.length ≤ 1000000) (w : World) (hx : x.In w) (hy : y.In w) : Calls Try.prog 17 #[.agg x.cs, .agg y.cs] w (Gives (.bool true) w) := by
  obtain ⟨w1, ew1⟩ : ∃ w1, w1 = (w.alloc (.cells x.cs 25)).alloc (.cells y.cs 25) := ⟨_, rfl⟩
  have hb1 : Below w.heap.size w w1 := by rw [ew1]; exact ((Below.refl _ w).alloc (Nat.le_refl _) _).alloc (by simp) _
  have hrx : Rec w1 w.heap.size 25 x.cs := by rw [ew1]; exact (Rec.new w _ _).alloc _
  have hry : Rec w1 (w.heap.size + 1) 25 y.cs := by rw [ew1]; have := Rec.new (w.alloc (.cells x.cs 25)) 25 y.cs; simpa using this
  have hsz : w1.heap.size = w.heap.size + 1 + 1 := by rw [ew1]; simp
  have hX := hx.below hb1
  have hY := hy.below hb1
  have hcx : x.cs = #[.slice x.F.1 x.F.2.2.length x.F.2.1, .slice x.AH x.H.length x.cH, .slice x.AM x.M.length x.cM] := rfl
  have hcy : y.cs = #[.slice y.F.1 x.F.2.2.length y.F.2.1, .slice y.AH x.H.length y.cH, .slice y.AM x.M.length y.cM] := by rw [e.f, e.hl, e.ml]; rfl
  rw [hcx, hcy] at ew1 ⊢
  rw [hcx] at hrx
  rw [hcy] at hry
  have x0 := Rec.cell hrx 0
  have x1 := Rec.cell hrx 1
  have x2 := Rec.cell hrx 2
  have y0 := Rec.cell hry 0
  have y1 := Rec.cell hry 1
  have y2 := Rec.cell hry 2
  simp at x0 x1 x2 y0 y1 y2
  have hh : ∀ i, (rAt x.H i).2.2.length ≤ 1000000 := fun i => (hs.2.2 i).1
  have hmm : ∀ i, (rAt x.M i).2.2.length ≤ 1000000 := fun i => (hs.2.2 i).2
  have P2 := hid (fun W (hW : Below w1.heap.size w1 W) => rRows_same x.AH y.AH x.cH y.cH x.H.length x.H y.H rfl e.h hs.2.1 hh W (hX.h.below hW) (hY.h.below hW))
  have P3 := hid (fun W (hW : Below w1.heap.size w1 W) => rRows_same x.AM y.AM x.cM y.cM x.M.length x.M y.M rfl e.m hm6 hmm W (hX.m.below hW) (hY.m.below hW))
  have P1 := hid (fun W (hW : Below w1.heap.size w1 W) (g1 g2 : Nat) (h1 : W.cell? ⟨g1, 0, none⟩ = some (.slice x.F.1 x.F.2.2.length x.F.2.1)) (h2 : W.cell? ⟨g2, 0, none⟩ = some (.slice y.F.1 x.F.2.2.length y.F.2.1)) =>
    rRows_same (some ⟨g1, 0, none⟩) (some ⟨g2, 0, none⟩) 1 1 1 [x.F] [y.F] rfl (by simp [valR, e.f]) (by decide) (fun i => by
      match i with
      | 0 => exact hs.1
      | i + 1 => simp [rAt]) W (rows_one h1 (hX.f.below hW)) (rows_one (by rw [← e.f]; exact h2) (hY.f.below hW)))
  have HB1 := hid hb1
  have EW1 := hid ew1
  have hl1 : w.heap.size < w1.heap.size := by omega
  have hl2 : w.heap.size + 1 < w1.heap.size := by omega
  obtain ⟨nF, eF⟩ : ∃ n, x.F.2.2.length = n := ⟨_, rfl⟩
  obtain ⟨nH, eH⟩ : ∃ n, x.H.length = n := ⟨_, rfl⟩
  obtain ⟨nM, eM⟩ : ∃ n, x.M.length = n := ⟨_, rfl⟩
  rw [eF] at P1 x0 y0 EW1 ⊢
  rw [eH] at P2 x1 y1 EW1 ⊢
  rw [eM] at P3 x2 y2 EW1 ⊢
  clear ew1 hb1 hrx hry hX hY hx hy hcx hcy e hs hh hmm eF eH eM hsz hm6
  go_enter Try.func17, Try.ntmps17
  go_upto_region 1 with (fail)
  rw [← EW1.out]
  go_wp2_with (go_at_call 32; first | ((with_reducible refine (P2.out _ (by (repeat (first | exact Below.refl _ _ | refine RowKit.Below.past ?_ _ | refine RowKit.Below.alloc' ?_ _ | refine RowKit.Below.drew' ?_ | refine RowKit.Below.drewN' ?_ _ | refine RowKit.Below.setCell' ?_ (by simp [go_sem]) _)))).mono ?_); rintro _ _ ⟨rfl, z2, rfl⟩) | ((with_reducible refine (P3.out _ (by (repeat (first | exact Below.refl _ _ | refine RowKit.Below.past ?_ _ | refine RowKit.Below.alloc' ?_ _ | refine RowKit.Below.drew' ?_ | refine RowKit.Below.drewN' ?_ _ | refine RowKit.Below.setCell' ?_ (by simp [go_sem]) _)))).mono ?_); rintro _ _ ⟨rfl, z3, rfl⟩) | (refine (P1.out _ (by (repeat (first | exact Below.refl _ _ | refine RowKit.Below.past ?_ _ | refine RowKit.Below.alloc' ?_ _ | refine RowKit.Below.drew' ?_ | refine RowKit.Below.drewN' ?_ _ | refine RowKit.Below.setCell' ?_ (by simp [go_sem]) _))) _ _ (by simp [go_sem, *]) (by simp [go_sem, *])).mono ?_; rintro _ _ ⟨rfl, z1, rfl⟩))
  go_ret
  refine Gives.mk rfl ?_
  have h1 := HB1.out
  refine h1.trans (Below.mono ?_ h1.size)
  (repeat (first | exact Below.refl _ _ | refine RowKit.Below.past ?_ _ | refine RowKit.Below.alloc' ?_ _ | refine RowKit.Below.drew' ?_ | refine RowKit.Below.drewN' ?_ _ | refine RowKit.Below.setCell' ?_ (by simp [go_sem]) _))
set_option maxHeartbeats 1000000 in
theorem ints_same (A B : Option Addr) (ca cb n : Nat) (l : List Int) (ea : l.length = n) (hn : n ≤ 1000000) (w : World) (hA : Cells w A (i64s l)) (hB : Cells w B (i64s l)) :
    Calls Try.prog 19 #[.slice A n ca, .slice B n cb] w (Gives (.bool true) w) := by
  have EA := hid ea
  have HA := hid hA
  have HB := hid hB
  clear ea hA hB
  go_enter Try.func19, Try.ntmps19
  go_wp2_with fail
  go_loopw [13] (fun i wr => ∃ (q : Nat) (y : Past), i = .int .i64 q ∧ q ≤ n ∧ wr = w.past y) (fun i _ => n - (intOf i).toNat)
  case atStart => exact ⟨0, _, rfl, by omega, World.past_refl w⟩
  case round =>
    obtain ⟨q, y, rfl, hq, rfl⟩ := hrel
    by_cases hlt : q < n
    · obtain ⟨g1, f1, rfl, d1⟩ := i64_at HA.out (k := q) (by rw [EA.out]; exact hlt)
      obtain ⟨g2, f2, rfl, d2⟩ := i64_at HB.out (k := q) (by rw [EA.out]; exact hlt)
      go_wp2_with fail
      refine wp_region_past (by kernel_rfl) (by kernel_rfl) ?_
      repeat (go_big_quiet_step ((first | (go_at_call 16; first | with_reducible exact Calls.in_past (True) | with_reducible exact Calls.in_past2 (True)) | (go_at_call 16; first | exact Calls.in_past (True) | exact Calls.in_past2 (True)))))
      refine wpQuiet_nil ?_
      rintro _ ⟨_, rfl⟩
      go_wp2_with fail
      go_roundw
      case rel => exact ⟨q + 1, _, by go_num, by omega, by first | rfl | trivial | exact World.past_past⟩
      case measure => simp [intOf]; omega
    · obtain rfl : n = q := by omega
      go_wp2_with fail
      go_ret
      refine Gives.mk rfl ?_
      (repeat (first | exact Below.refl _ _ | refine RowKit.Below.past ?_ _ | refine RowKit.Below.alloc' ?_ _ | refine RowKit.Below.drew' ?_ | refine RowKit.Below.drewN' ?_ _ | refine RowKit.Below.setCell' ?_ (by simp [go_sem]) _))
end Go.Proofs.Ytddngloojacceaa
