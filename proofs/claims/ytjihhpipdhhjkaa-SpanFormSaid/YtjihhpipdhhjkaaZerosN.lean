/-
  append(nil, make([]T, n)...), T of any number of cells: plain laws for the walk. No condition.
-/
import Derived.Test.YtjihhpipdhhjkaaZeros
namespace Go
open Go.RowKit
section
variable {P : Program}
theorem run_nil_zeros (w : World) (base : Nat) (t k ty e : TypeId) (i : TypeInfo) (z : Value) (ik : IntKind) (size bytes : Nat) (ht : P.underlying t = some (.slice e)) (hk : P.underlying k = some (.int ik)) (hi : P.info? e = some i) (hz : i.zero = some z)
    (hsize : i.size = size) (hby : i.bytes = bytes) (hzs : z.cells.size = size) (hsz : 0 < size) (m : Nat) (hm : m ≠ 0)
    (h63 : m ≤ maxLen) (hbytes : m * bytes ≤ 140737488355328) (hbase : base ≤ w.heap.size) :
    ∃ g cap w', (Builtin.append_ #[t, k] ty #[.slice none 0 0, .int .i64 (m : Int)]).run P w = .ok (.slice (some ⟨g, 0, none⟩) m cap) w' ∧ w'.ownsRow base e size (.slice (some ⟨g, 0, none⟩) m cap) m (Builtin.zeroCells z.cells m).toList ∧ w.grownBy w' none := by
  subst hby
  simp only [maxLen] at h63
  have hwm : IntKind.i64.wrap (m : Int) = m := wrap_i64_small m (by omega)
  have hm0 : ¬ ((m : Int) < 0) := by omega
  have hm1 : ¬ (281474976710656 < (m : Int) * (i.bytes : Int)) := by
    have : ((m * i.bytes : Nat) : Int) ≤ 140737488355328 := by omega
    rw [Int.natCast_mul] at this
    omega
  have hge := grownCap_ge w m 0 e
  have hcm : grownCap w m 0 e ≤ maxLen := grownCap_le_maxLen w m 0 e (by simp only [maxLen]; omega)
  have hlen : (Builtin.zeroCells z.cells m).toList.length = m * size := by simp [size_zeroCells, hzs]
  have h63' : ¬ (9223372036854775807 < (m : Int)) := by omega
  have h48' : ¬ (281474976710656 < Builtin.nextslicecap m 0 * i.bytes) := by rw [nextslicecap_zero (by omega)]; omega
  refine ⟨w.heap.size, grownCap w m 0 e, w.drew.alloc (.cells (Builtin.zeroCells z.cells m ++ Builtin.zeroCells z.cells (grownCap w m 0 e - m)) e), ?_, ⟨hlen, .inr ⟨w.heap.size, _, _, rfl, hbase, heap_alloc_new w.drew _, hge, hcm, ?_, ?_⟩⟩, ⟨rfl, rfl, rfl, by simp, fun _ hj _ => heap_alloc_old w.drew _ hj⟩⟩
  · simp [Builtin.append_, run_underlying ht, run_underlying hk, sizeOf, typeInfo, hi, asInt, asIntOf, hwm, hm0, hm1, hm, h63', h48', Question.forced, run_firstCells_none, zeroValue, hz, hzs, hsize, newRow, grownCap]
    intro h0
    have : 0 < m * size := Nat.mul_pos (by omega) hsz
    omega
  · simp only [Array.size_append, size_zeroCells, hzs]
    have : m * size + (grownCap w m 0 e - m) * size = grownCap w m 0 e * size := by rw [← Nat.add_mul]; congr 1; omega
    omega
  · simp only [Array.toList_append]
    rw [← hlen]
    exact List.take_left
theorem wpList_nil_zeros {w : World} {ops : Array Oper} {rest : List Oper} {o : Oper} {a : Act} {Q : Exit → Act → World → Prop} (hgd : o.guard = none) (s x : Operand) (t k : TypeId)
    (ho : o.op = .call { callee := .builtin .append, args := #[s, x], argTypes := #[t, k] })
    (base : Nat) (e : TypeId) (i : TypeInfo) (z : Value) (ik : IntKind) (size bytes : Nat) (ht : P.underlying t = some (.slice e)) (hk : P.underlying k = some (.int ik)) (hi : P.info? e = some i) (hz : i.zero = some z)
    (hsize : i.size = size) (hby : i.bytes = bytes) (hzs : z.cells.size = size) (hsz : 0 < size) (m : Nat) (hm : m ≠ 0) (hs : a.eval s = .slice none 0 0) (hx : a.eval x = .int .i64 (m : Int))
    (h63 : m ≤ maxLen) (hbytes : m * bytes ≤ 140737488355328) (hbase : base ≤ w.heap.size)
    (h : ∀ w' g cap, w'.ownsRow base e size (.slice (some ⟨g, 0, none⟩) m cap) m (Builtin.zeroCells z.cells m).toList → w.grownBy w' none → wpList P ops Q rest (a.put o.dst (.slice (some ⟨g, 0, none⟩) m cap)) w') :
    wpList P ops Q (o :: rest) a w := by
  refine wpList_plain hgd fun K hK => ?_
  obtain ⟨g, cap, w', hr, h2, h3⟩ := run_nil_zeros (P := P) w base t k o.type e i z ik size bytes ht hk hi hz hsize hby hzs hsz m hm h63 hbytes hbase
  unfold Oper.wp execOp
  simp only [ho, resolve, invoke, builtin, Sem.run_bind, Sem.run_pure, Result.andThen_ok, List.map_toArray, List.map_cons, List.map_nil, hs, hx, hr]
  exact hK _ _ (h w' g cap h2 h3)
end
end Go
