/-
  Rows of uint64: how they are read. Plain laws. No condition.
-/
import Derived.Test.YthlogfclgakhkaaDoorFixq
import Derived.Test.YthlogfclgakhkaaDoorOwn
namespace Go.Proofs.YthlogfclgakhkaaDoor
open Go.RowKit
def u64s (l : List Int) : List Value := l.map (Value.int .u64)
@[simp] theorem u64s_length (l : List Int) : (u64s l).length = l.length := by simp [u64s]
theorem info_u64 : (Tryd.prog.info? 22).map (fun i => (i.zero, i.size, i.bytes)) = some (some (.int .u64 0), 1, 8) := by kernel_rfl
def atD (l : List Int) (i : Nat) : Int := l[i]?.getD 0
theorem u64_at {w : World} {A : Option Addr} {l : List Int} (h : Cells w A (u64s l)) {k : Nat} (hk : k < l.length) : ∃ b off : Nat, A = some ⟨b, off, none⟩ ∧ w.cell? ⟨b, off + k, none⟩ = some (.int .u64 (atD l k)) := by
  obtain ⟨b, off, e, hc⟩ := h.at (k := k) (by simpa using hk)
  refine ⟨b, off, e, ?_⟩
  rw [hc]
  simp [u64s, atD, List.getElem?_eq_getElem hk]
theorem u64s_snoc (l : List Int) (x : Int) : u64s l ++ [.int .u64 x] = u64s (l ++ [x]) := by simp [u64s]
theorem add_val {a b : Int} (ha : U64 a) (hb : U64 b) : addF a b = (if a + b < 18446744073709551616 then a + b else 18446744073709551615) ∧ addE a b = (if a + b < 18446744073709551616 then 0 else 2) := by
  have h0 := ha.1; have h1 := hb.1
  unfold addF addE carF sumF top64
  by_cases h : a + b < 18446744073709551616
  · have e : (a + b + 0) / 18446744073709551616 = 0 := by omega
    have e2 : (a + b + 0) % 18446744073709551616 = a + b := by omega
    rw [e, e2]; simp [h]
  · have e : ((a + b + 0) / 18446744073709551616 == 0) = false := beq_eq_false_iff_ne.2 (by omega)
    rw [e]; simp [h]
end Go.Proofs.YthlogfclgakhkaaDoor
