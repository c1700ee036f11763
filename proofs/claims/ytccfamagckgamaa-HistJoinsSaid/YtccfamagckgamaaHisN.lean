/-
  Layer 34: a loop over nothing. No condition.
-/
import Derived.Test.YtccfamagckgamaaHisL
import Derived.Test.YtccfamagckgamaaHisJ
namespace Go.Proofs.Ytccfamagckgamaa
open Go.RowKit Go.Shelf
attribute [local go_sem] Oper.semAt_some
set_option maxRecDepth 100000 in
set_option maxHeartbeats 1000000 in
theorem places_nil (m : Nat) (hm : 1 ≤ m) (w0 : World) (Bx : Nat) (hBx : w0.cell? ⟨Bx, 0, none⟩ = some (.pointer none)) :
    SeqE (α := Empty) Fence.wide m Try.prog 28 #[.pointer (some ⟨Bx, 0, none⟩)] (fun x => x.elim) (fun _ => False) (fun ys => ys = []) (fun _ => False) 0 w0 := by
  intro lp J Jx W hW hJ _ hY h0
  have cbx := hW.cell (fun h => h) hBx
  clear hBx hJ hY hW
  refine callsIn_of_wp Try.func28 rfl trivial ?_ rfl
  simp only [Try.ntmps28, List.size_toArray, List.length_cons, List.length_nil, Nat.reduceAdd, Nat.reduceSub, Array.replicate_succ, Array.replicate_zero, List.push_toArray, List.append_toArray, List.nil_append, List.cons_append]
  gi_wp2
  refine bodyPost_ret (results_none rfl _ _ _) rfl ?_
  exact ⟨⟨_, rfl⟩, .inl ⟨[], rfl, h0⟩⟩
end Go.Proofs.Ytccfamagckgamaa
