/-
  Layer 04: what is asked of no heap. No condition.
-/
import Derived.Test.YtcbdghjakdbedaaHpQ
namespace Go.Proofs.Ytcbdghjakdbedaa.HpI
open Go Go.RowKit
attribute [local go_sem] Oper.semAt_some
theorem Len_nil (w : World) : Calls Try.prog 18 #[.pointer none] w (Gives (.int .i64 0) w) := by
  go_enter Try.func18, Try.ntmps18
  go_wp2
  go_ret
  exact Gives.refl rfl
theorem Peek_nil (w : World) : Calls Try.prog 16 #[.pointer none] w (Gives kv0 w) := by
  go_enter Try.func16, Try.ntmps16
  go_wp2_with (go_at_call 18; refine (Len_nil _).mono ?_; rintro _ _ ⟨rfl, x1, rfl⟩)
  refine bodyPost_ret (v := kv0) (by simp [results, Try.results16, go_sem]) rfl ?_
  refine Gives.mk rfl ?_
  (repeat (first | exact Below.refl _ _ | refine RowKit.Below.past ?_ _ | refine RowKit.Below.alloc' ?_ _ | refine RowKit.Below.drew' ?_ | refine RowKit.Below.drewN' ?_ _ | refine RowKit.Below.setCell' ?_ (by simp [go_sem]) _))
theorem Pop_nil (w : World) : Calls Try.prog 10 #[.pointer none] w (Gives kv0 w) := by
  go_enter Try.func10, Try.ntmps10
  go_wp2_with (first | (go_at_call 18; refine (Len_nil _).mono ?_; rintro _ _ ⟨rfl, x1, rfl⟩) | (go_at_call 16; refine (Peek_nil _).mono ?_; rintro _ _ ⟨rfl, x2, rfl⟩))
  refine bodyPost_ret (v := kv0) (by simp [results, Try.results10, go_sem]) rfl ?_
  refine Gives.mk rfl ?_
  (repeat (first | exact Below.refl _ _ | refine RowKit.Below.past ?_ _ | refine RowKit.Below.alloc' ?_ _ | refine RowKit.Below.drew' ?_ | refine RowKit.Below.drewN' ?_ _ | refine RowKit.Below.setCell' ?_ (by simp [go_sem]) _))
theorem Remove_nil (z : Int) (w : World) : Calls Try.prog 13 #[.pointer none, .int .i64 z] w (Gives kv0 w) := by
  go_enter Try.func13, Try.ntmps13
  go_wp2_with (go_at_call 18; refine (Len_nil _).mono ?_; rintro _ _ ⟨rfl, x1, rfl⟩)
  refine bodyPost_ret (v := kv0) (by simp [results, Try.results13, go_sem]) rfl ?_
  refine Gives.mk rfl ?_
  (repeat (first | exact Below.refl _ _ | refine RowKit.Below.past ?_ _ | refine RowKit.Below.alloc' ?_ _ | refine RowKit.Below.drew' ?_ | refine RowKit.Below.drewN' ?_ _ | refine RowKit.Below.setCell' ?_ (by simp [go_sem]) _))
theorem Push_nil (v i x : Int) (w : World) : Calls Try.prog 8 #[.pointer none, .agg #[.int .u64 v, .int .i64 i], .int .i64 x] w (Gives (.int .i64 1) w) := by
  go_enter Try.func8, Try.ntmps8
  go_wp2
  go_ret
  refine Gives.mk rfl ?_
  (repeat (first | exact Below.refl _ _ | refine RowKit.Below.past ?_ _ | refine RowKit.Below.alloc' ?_ _ | refine RowKit.Below.drew' ?_ | refine RowKit.Below.drewN' ?_ _ | refine RowKit.Below.setCell' ?_ (by simp [go_sem]) _))
theorem Move_nil (z v : Int) (w : World) : Calls Try.prog 15 #[.pointer none, .int .i64 z, .int .u64 v] w (Gives (.int .i64 1) w) := by
  go_enter Try.func15, Try.ntmps15
  go_wp2
  go_ret
  refine Gives.mk rfl ?_
  (repeat (first | exact Below.refl _ _ | refine RowKit.Below.past ?_ _ | refine RowKit.Below.alloc' ?_ _ | refine RowKit.Below.drew' ?_ | refine RowKit.Below.drewN' ?_ _ | refine RowKit.Below.setCell' ?_ (by simp [go_sem]) _))
set_option maxRecDepth 100000 in
theorem due_nil (m : Nat) (hm : 1 ≤ m) (w0 : World) (Bx Bu : Nat) (hBx : w0.cell? ⟨Bx, 0, none⟩ = some (.pointer none)) :
    SeqE (α := Empty) Fence.wide m Try.prog 36 #[.pointer (some ⟨Bx, 0, none⟩), .pointer (some ⟨Bu, 0, none⟩)] (fun x => x.elim) (fun _ => False) (fun ys => ys = []) (fun _ => False) 0 w0 := by
  intro lp J Jx W hW hJ _ hY h0
  have cbx := hW.cell (fun h => h) hBx
  have HJ := hid hJ
  have H0 := hid h0
  clear hBx hJ hY hW h0
  refine callsIn_of_wp Try.func36 rfl trivial ?_ rfl
  simp only [Try.ntmps36, List.size_toArray, List.length_cons, List.length_nil, Nat.reduceAdd, Nat.reduceSub, Array.replicate_succ, Array.replicate_zero, List.push_toArray, List.append_toArray, List.nil_append, List.cons_append]
  gi_wp2
  gi_loopw [5] (fun _ wr => wr = W) (fun _ _ => 0)
  case atStart => rfl
  case round =>
    obtain rfl := hrel
    gi_wp2_with ((gi_at_call 16; refine (callsIn_wide.2 (Peek_nil _)).mono ?_; rintro _ _ ⟨rfl, x9, rfl⟩))
    refine bodyPost_ret (results_none rfl _ _ _) rfl ?_
    refine ⟨⟨_, rfl⟩, .inl ⟨[], rfl, HJ.out _ _ _ H0.out ?_⟩⟩
    (repeat (first | exact Below.refl _ _ | refine RowKit.Below.past ?_ _ | refine RowKit.Below.alloc' ?_ _ | refine RowKit.Below.drew' ?_ | refine RowKit.Below.drewN' ?_ _ | refine RowKit.Below.setCell' ?_ (by simp [go_sem]) _))
end Go.Proofs.Ytcbdghjakdbedaa.HpI
