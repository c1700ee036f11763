/-
  Layer 33: a new set of the document's has nothing. No condition.
-/
import Derived.Test.YtjihhpipdhhjkaaSpY
namespace Go.Proofs.Ytjihhpipdhhjkaa
open Go.RowKit
theorem zero_set (w : World) : (zeroValue 37).run Try.prog w = .ok (.agg (Array.replicate 400 (.bool false))) w := by kernel_rfl
theorem RfAt.new (w : World) : RfAt (w.alloc (.cells (Array.replicate 400 (.bool false)) 37)) w.heap.size (fun _ => false) := by
  refine ⟨⟨_, Rec.new w _ _, by simp, fun i hi => by simp [hi]⟩, fun x hx => by cases hx⟩
theorem Sm.nil : Sm [] (fun _ => false) := ⟨good_nil, fun x => by rw [mem_nil]; simp, fun x hx => by cases hx⟩
end Go.Proofs.Ytjihhpipdhhjkaa
