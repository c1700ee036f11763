/-
  A row of integers held against itself. A plain law for the walk. No condition.
-/
import Derived.Test.YtdeejiiegmddaaaLift
import Derived.Test.YtdeejiiegmddaaaOwn
import Derived.Test.YtdeejiiegmddaaaRows
import Derived.WalkKit
import Derived.ChangeKeysEq
namespace Go.Proofs.Ytdeejiiegmddaaa
open Go Go.RowKit
theorem plain_int : Try.prog.plainKey 3 = true := by kernel_rfl
theorem cells_int1 : Try.prog.cellsOf 3 = 1 := by kernel_rfl
theorem info_int_ex : ∃ i, Try.prog.info? 3 = some i := Option.isSome_iff_exists.1 (by kernel_rfl)
theorem eq_items (L : List Int) (w : World) : ∀ is : List Nat, (∀ i ∈ is, i < L.length) → (Op.eqItems 9999 3 1 (i64s L).toArray (i64s L).toArray is).run Try.prog w = .ok true w
  | [], _ => by simp [Op.eqItems]
  | i :: is, h => by
    have hi := h i (List.mem_cons_self ..)
    have hx : (i64s L).toArray[i]? = some (.int .i64 L[i]) := by rw [List.getElem?_toArray, i64s, List.getElem?_map, List.getElem?_eq_getElem hi]; rfl
    have p0 : (part 3 (i64s L).toArray i).run Try.prog w = .ok (.int .i64 L[i]) w := run_part_plain w plain_int hx
    have q : (Op.equalIn 9999 3 (.int .i64 L[i]) (.int .i64 L[i])).run Try.prog w = .ok (L[i] == L[i]) w := run_equalIn_int w 9998 3 .i64 .i64 _ _ Try.underlying3
    have ih := eq_items L w is (fun j hj => h j (List.mem_cons_of_mem _ hj))
    simp only [Op.eqItems, Sem.run_bind, Nat.mul_one, p0, q, Result.andThen_ok, beq_self_eq_true]
    simp [ih]
theorem run_eq_row (L : List Int) (hL : L.length = 15) (w : World) : (Op.equalIn 10000 28 (.agg (i64s L).toArray) (.agg (i64s L).toArray)).run Try.prog w = .ok true w := by
  obtain ⟨i, hi⟩ := info_int_ex
  rw [run_equalIn_array (P := Try.prog) (w := w) 9999 _ _ Try.underlying28 hi, cells_int1]
  exact eq_items L w _ (fun i hi => by rw [hL]; exact List.mem_range.1 hi)
end Go.Proofs.Ytdeejiiegmddaaa
