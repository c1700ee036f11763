/-
  Two pairs of integers are held against each other. A plain law for the walk. No condition.
-/
import Derived.Test.YtgaenonggnkknaaLift
import Derived.Test.YtgaenonggnkknaaRows
import Derived.WalkKit
import Derived.ChangeKeysEq
namespace Go.Proofs.Ytgaenonggnkknaa
open Go.RowKit
theorem plain_int : Try.prog.plainKey 3 = true := by kernel_rfl
theorem cells_int1 : Try.prog.cellsOf 3 = 1 := by kernel_rfl
theorem info_int_ex : ∃ i, Try.prog.info? 3 = some i := Option.isSome_iff_exists.1 (by kernel_rfl)
theorem run_eq_pair (x y x' y' : Int) (w : World) : (Op.equalIn 10000 50 (.agg #[.int .i64 x, .int .i64 y]) (.agg #[.int .i64 x', .int .i64 y'])).run Try.prog w = .ok (x == x' && y == y') w := by
  obtain ⟨i, hi⟩ := info_int_ex
  rw [run_equalIn_array (P := Try.prog) (w := w) 9999 _ _ Try.underlying50 hi, cells_int1]
  have p0 : ∀ a b : Int, (part 3 #[Value.int .i64 a, .int .i64 b] 0).run Try.prog w = .ok (.int .i64 a) w := fun a b => run_part_plain w plain_int rfl
  have p1 : ∀ a b : Int, (part 3 #[Value.int .i64 a, .int .i64 b] 1).run Try.prog w = .ok (.int .i64 b) w := fun a b => run_part_plain w plain_int rfl
  have q : ∀ a b : Int, (Op.equalIn 9999 3 (.int .i64 a) (.int .i64 b)).run Try.prog w = .ok (a == b) w := fun a b => run_equalIn_int w 9998 3 .i64 .i64 a b Try.underlying3
  rw [show List.range 2 = [0, 1] from rfl]
  simp only [Op.eqItems, Sem.run_bind, Nat.zero_mul, Nat.one_mul, p0, p1, q, Result.andThen_ok]
  cases x == x' <;> cases h : y == y' <;> simp [p1, q, h]
end Go.Proofs.Ytgaenonggnkknaa
