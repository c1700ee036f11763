/-
  Layer 02: what is asked of no object. No condition.
-/
import Derived.Test.YtgaenonggnkknaaTwoB
import Derived.Test.YtgaenonggnkknaaRangeG
import Derived.Test.YtgaenonggnkknaaPastRd
import Derived.Shelf.Abstract
namespace Go.Proofs.Ytgaenonggnkknaa
open Go.RowKit Go.Shelf
attribute [local go_sem] Oper.semAt_some
theorem Is_nil (i : Int) (w : World) : Calls Try.prog 29 #[.pointer none, .int .i64 i] w (Gives (.bool false) w) := by
  go_enter Try.func29, Try.ntmps29
  go_wp2
  go_ret
  exact Gives.refl rfl
theorem Get_nil (i : Int) (w : World) : Calls Try.prog 14 #[.pointer none, .int .i64 i] w (Gives (.tuple #[.int .i64 0, .bool false]) w) := by
  have HI := hid (Is_nil i w)
  go_enter Try.func14, Try.ntmps14
  go_wp2_with (go_at_call 29; refine HI.out.mono ?_; rintro _ _ ⟨rfl, x1, rfl⟩)
  go_ret2
  exact Gives.mk rfl (World.below_past _ _)
theorem Drop_nil (i : Int) (w : World) : Calls Try.prog 10 #[.pointer none, .int .i64 i] w (Gives (.tuple #[.int .i64 0, .bool false]) w) := by
  have HI := hid (Get_nil i w)
  go_enter Try.func10, Try.ntmps10
  go_wp2_with (go_at_call 14; refine HI.out.mono ?_; rintro _ _ ⟨rfl, x1, rfl⟩)
  go_ret2
  exact Gives.mk rfl (World.below_past _ _)
theorem Set_nil (i v : Int) (w : World) : Calls Try.prog 12 #[.pointer none, .int .i64 i, .int .i64 v] w (Gives (.bool false) w) := by
  have HI := hid (Is_nil i w)
  go_enter Try.func12, Try.ntmps12
  go_wp2_with (go_at_call 29; refine HI.out.mono ?_; rintro _ _ ⟨rfl, x1, rfl⟩)
  go_ret
  exact Gives.mk rfl (World.below_past _ _)
theorem Put_nil (v : Int) (w : World) : Calls Try.prog 8 #[.pointer none, .int .i64 v] w (Gives (.tuple #[.int .i64 0, .int .i64 1]) w) := by
  go_enter Try.func8, Try.ntmps8
  go_wp2
  go_ret2
  exact Gives.refl rfl
theorem Len_nil (w : World) : Calls Try.prog 16 #[.pointer none] w (Gives (.int .i64 0) w) := by
  go_enter Try.func16, Try.ntmps16
  go_wp2
  go_ret
  exact Gives.refl rfl
theorem Most_nil (w : World) : Calls Try.prog 18 #[.pointer none] w (Gives (.int .i64 0) w) := by
  go_enter Try.func18, Try.ntmps18
  go_wp2
  go_ret
  exact Gives.refl rfl
set_option maxRecDepth 100000 in
theorem all_nil (m : Nat) (hm : 1 ≤ m) (w0 : World) (Bx : Nat) (hBx : w0.cell? ⟨Bx, 0, none⟩ = some (.pointer none)) :
    SeqE (α := Empty) Fence.wide m Try.prog 30 #[.pointer (some ⟨Bx, 0, none⟩)] (fun x => x.elim) (fun _ => False) (fun ys => ys = []) (fun _ => False) 0 w0 := by
  intro lp J Jx W hW hJ _ hY h0
  have cbx := hW.cell (fun h => h) hBx
  clear hBx hJ hY hW
  refine callsIn_of_wp Try.func30 rfl trivial ?_ rfl
  simp only [Try.ntmps30, List.size_toArray, List.length_cons, List.length_nil, Nat.reduceAdd, Nat.reduceSub, Array.replicate_succ, Array.replicate_zero, List.push_toArray, List.append_toArray, List.nil_append, List.cons_append]
  gi_wp2
  refine bodyPost_ret (results_none rfl _ _ _) rfl ?_
  exact ⟨⟨_, rfl⟩, .inl ⟨[], rfl, h0⟩⟩
end Go.Proofs.Ytgaenonggnkknaa
