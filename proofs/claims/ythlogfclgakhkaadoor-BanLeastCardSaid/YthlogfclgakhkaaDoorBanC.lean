/-
  Layer 21: what ticks cost is paid. No condition.
-/
import Derived.Test.YthlogfclgakhkaaDoorBanB
import Derived.Test.YthlogfclgakhkaaDoorRegLast
import Derived.Test.YthlogfclgakhkaaDoorTabSet
namespace Go.Proofs.YthlogfclgakhkaaDoor
open Go.RowKit Go.Shelf
attribute [local go_sem] Oper.semAt_some
/-- A play behind a store into its V's. -/
theorem PlAt.put {B b : Nat} {w : World} {S : Bn} (h : PlAt B w b S) {g c : Nat} (hq : w.cell? ⟨b, 4, none⟩ = some (.slice (some ⟨g, 0, none⟩) S.v.length c)) (k : Nat) (z : Int) :
    PlAt B (w.setCell ⟨g, k, none⟩ (.int .u64 z)) b { S with v := S.v.set k z } ∧ Below B w (w.setCell ⟨g, k, none⟩ (.int .u64 z)) ∧ w.frozen? ⟨g, k, none⟩ = false ∧ g < w.heap.size := by
  obtain ⟨A, c', Ag, cg, h1, h2, h3, h4, h5, h6⟩ := h.ex
  have q := Rec.cell h1 4
  simp at q
  rw [hq] at q
  injection q with q
  injection q with e1 _ e3
  subst e1; subst e3
  have hlt := h2.lt g rfl
  refine ⟨⟨h.big, some ⟨g, 0, none⟩, c, Ag, cg, ?_, ?_, ?_, ?_, h5, h6⟩, (Below.refl B w).setCell (p := ⟨g, k, none⟩) hlt.1 _, h2.frozenAt k, hlt.2⟩
  · have := h1.set_other (p := ⟨g, k, none⟩) (fun e => h5 g rfl e.symm) (.int .u64 z)
    simpa using this
  · have := (h2.stored k (.int .u64 z)).1
    have e : u64s (S.v.set k z) = (u64s S.v).set k (.int .u64 z) := by simp [u64s, List.map_set]
    simp only [List.length_set]
    rw [e]
    exact this
  · intro hne
    obtain ⟨b1, o1, e, hc⟩ := h3 hne
    refine ⟨b1, o1, e, fun i v hi => ?_⟩
    have hne2 : b1 ≠ g := fun e2 => by have := h6 b1 o1 e (fun e0 => hne (by rw [e0]; rfl)); omega
    rw [World.cell?_of_block (heap_setCell_other w ⟨g, k, none⟩ b1 _ hne2)]
    exact hc i v hi
  · simpa using h4
/-- What else such a store keeps. -/
theorem PlAt.putK {B b : Nat} {w : World} {S : Bn} (h : PlAt B w b S) {g c : Nat} (hq : w.cell? ⟨b, 4, none⟩ = some (.slice (some ⟨g, 0, none⟩) S.v.length c)) (k : Nat) (z : Int) :
    KeptT b (fun t => t = 22) w (w.setCell ⟨g, k, none⟩ (.int .u64 z)) := by
  obtain ⟨A, c', Ag, cg, h1, h2, h3, h4, h5, h6⟩ := h.ex
  have q := Rec.cell h1 4
  simp at q
  rw [hq] at q
  injection q with q
  injection q with e1 _ e3
  subst e1; subst e3
  exact KeptT.grown h2 (h2.stored k (.int .u64 z)).2 rfl
theorem PlAt.ws {B b : Nat} {w : World} {S : Bn} (h : PlAt B w b S) {p : Nat} (hp : p < S.v.length) : ∃ g o c, w.cell? ⟨b, 5, none⟩ = some (.slice (some ⟨g, o, none⟩) S.v.length c) ∧ w.cell? ⟨g, o + p, none⟩ = some (.int .i64 (atL S.g p)) := by
  obtain ⟨A, c, Ag, cg, h1, h2, h3, h4, _⟩ := h.ex
  have q := Rec.cell h1 5
  simp at q
  obtain ⟨g, o, rfl, hc⟩ := i64_at h3 (k := p) (by omega)
  exact ⟨g, o, cg, q, hc⟩
theorem lock_u64 (n : Int) : U64 (lockF n) := by have := lock_in n; exact ⟨by omega, by omega⟩
theorem mul_u64 (a b : Int) : U64 (mulF a b) := by
  unfold mulF
  split
  · exact lo_word a b
  · exact ⟨by omega, by omega⟩
set_option maxRecDepth 100000 in
set_option maxHeartbeats 4000000 in
theorem pay_any {B b : Nat} {w : World} {S : Bn} (h : PlAt B w b S) (hB : B ≤ w.heap.size) (p : Nat) (hp : p < S.v.length) (hvp : U64 (atD S.v p)) (n : Nat) (hn : n ≤ 16) :
    Calls Tryd.prog 27 #[.pointer (some ⟨b, 0, none⟩), .int .i64 (p : Int), .int .i64 (n : Int)] w (fun e w' => e = .returned (.tuple #[]) ∧ PlAt B w' b { S with v := payF S.v S.g p n } ∧ Below B w w' ∧ KeptT b (fun t => t = 22) w w') := by
  obtain ⟨g, o, c, q5, qw⟩ := h.ws hp
  have HL := hid (fun W => Lock_any (atL S.g p) W)
  have HM := hid (fun W => Mul_any (lockF (atL S.g p)) (n : Int) (lock_u64 _) ⟨by omega, by omega⟩ W)
  have HA := hid (fun W => Add_any (atD S.v p) (mulF (lockF (atL S.g p)) (n : Int)) hvp (mul_u64 _ _) W)
  have HE := hid (show payF S.v S.g p n = S.v.set p (addF (atD S.v p) (mulF (lockF (atL S.g p)) n)) from rfl)
  have HH := hid h
  have hwn : IntKind.u64.wrap (n : Int) = (n : Int) := by rw [IntKind.wrap_u64]; omega
  obtain ⟨m, em⟩ : ∃ n, S.v.length = n := ⟨_, rfl⟩
  have EM := hid em
  rw [em] at q5
  have hpm : p < m := by omega
  clear h em hp
  go_enter Tryd.func27, Tryd.ntmps27
  go_upto_region 1 with (first | (go_at_call 31; refine (HL.out _).mono ?_; rintro _ _ ⟨rfl, x1, rfl⟩) | (go_at_call 30; refine (HM.out _).mono ?_; rintro _ _ ⟨rfl, x2, rfl⟩))
  obtain ⟨w1, ew1⟩ : ∃ w1, w1 = (w.past x1).past x2 := ⟨_, rfl⟩
  have hb1 : Below w.heap.size w w1 := by rw [ew1]; exact RowKit.Below.past (w.below_past x1) x2
  rw [World.past_past] at ew1
  rw [← ew1]
  have h1 := HH.out.far hb1
  obtain ⟨gv, cv, q4, qv⟩ := h1.vs (by rw [EM.out]; omega)
  have HQ4 := hid q4
  have qp := qv p (by rw [EM.out]; exact hpm)
  rw [EM.out] at q4
  have H1 := hid h1
  have HB1 := hid hb1
  clear qv h1 hb1 ew1 q5 qw hwn
  refine wp_region_last (C := fun w' => ∃ x : Past, w' = w1.past x) 18 [16] (by kernel_rfl) (by kernel_rfl) (by kernel_rfl) rfl (by kernel_rfl) (.inr fun _ _ d _ _ h => by cases d <;> exact h) (past_of ⟨rfl, rfl, rfl, Nat.le_refl _, fun _ _ => rfl⟩) ?_
  simp only [List.take_succ_cons, List.take_zero]
  repeat (go_big_quiet_step ((first | (go_at_call 32; first | with_reducible exact Calls.in_past (HA.out _) | with_reducible exact Calls.in_past2 (HA.out _)) | (go_at_call 32; first | exact Calls.in_past (HA.out _) | exact Calls.in_past2 (HA.out _)))))
  refine wpQuiet_nil ?_
  rintro _ ⟨xq, rfl⟩
  have HPK := hid ((KeptT.of_below HB1.out b (fun t => t = 22)).trans ((KeptT.of_below (w1.below_past xq) b _).trans ((H1.out.far (w1.below_past xq)).putK (below_cell (w1.below_past xq) (Nat.le_refl _) _ _ HQ4.out) p (addF (atD S.v p) (mulF (lockF (atL S.g p)) (n : Int))))))
  have P2 := (H1.out.far (w1.below_past xq)).put (below_cell (w1.below_past xq) (Nat.le_refl _) _ _ HQ4.out) p (addF (atD S.v p) (mulF (lockF (atL S.g p)) (n : Int)))
  have f9 := P2.2.2.1
  have l9 := P2.2.2.2
  have HP2 := hid P2
  clear P2
  refine wpOp_step rfl (fun K hK => ?_)
  go_simp
  refine hK _ _ ?_
  clear hK K
  go_wp2_with fail
  go_end0
  refine ⟨rfl, by rw [HE.out]; exact HP2.out.1, (HB1.out.mono hB).trans (((w1.below_past xq).mono (Nat.le_trans hB HB1.out.size)).trans HP2.out.2.1), HPK.out⟩
end Go.Proofs.YthlogfclgakhkaaDoor
