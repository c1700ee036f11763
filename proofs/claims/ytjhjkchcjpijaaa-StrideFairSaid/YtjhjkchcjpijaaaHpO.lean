/-
  Layer 04 (heaps), at this dump: heaps of ints: Remove. No condition.
-/
import Derived.Test.YtjhjkchcjpijaaaHpN
namespace Go.Proofs.Ytjhjkchcjpijaaa.HpI
open Go Go.RowKit Go.Proofs.Ytjhjkchcjpijaaa
section
variable {B : Nat} {w w' : World} {b mb : Nat} {most : Int} {l L : List (Hp.It A)}
theorem HP.cells (h : HP B w b mb most L) : ∃ a c, w.cell? ⟨b, 0, none⟩ = some (.int .i64 most) ∧ w.cell? ⟨b, 1, none⟩ = some (.slice a L.length c) ∧ w.cell? ⟨b, 2, none⟩ = some (.map (some mb)) := by
  obtain ⟨l, a1, a2, a3⟩ := h.ex
  obtain ⟨a, c, q0, q1, q2, -⟩ := a1.cells
  exact ⟨a, c, q0, by rw [← a3.length_eq]; exact q1, q2⟩
theorem HP.look (h : HP B w b mb most L) {z : Int} (hz : I64 z) : ∃ l, HAt B w b mb most l ∧ Hp.Ord l ∧ l.Perm L ∧ (Instr.lookup 62 (.map (some mb)) (.int .i64 z) true).run Try.prog w = .ok (.tuple #[.int .i64 ((idx l z).getD 0), .bool (idx l z).isSome]) w := by
  obtain ⟨l, a1, a2, a3⟩ := h.ex
  exact ⟨l, a1, a2, a3, a1.mp.look (by kernel_rfl) (by kernel_rfl) (by go_simp) hz⟩
theorem idx_none_of {z : Int} (h : ¬ z ∈ l.map (·.id)) : idx l z = none := idx_none fun x hx e => h (List.mem_map.2 ⟨x, hx, e⟩)
theorem idx_some_of {x : Hp.It A} (hnd : (l.map (·.id)).Nodup) (hx : x ∈ l) : ∃ i : Nat, idx l x.id = some (i : Int) ∧ l[i]? = some x := by
  obtain ⟨i, hi, rfl⟩ := List.getElem_of_mem hx
  exact ⟨i, idx_at hnd hi, List.getElem?_eq_getElem hi⟩
end

end Go.Proofs.Ytjhjkchcjpijaaa.HpI
