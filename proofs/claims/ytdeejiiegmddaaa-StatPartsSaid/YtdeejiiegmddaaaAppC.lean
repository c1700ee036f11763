/-
  append(s, x...), s a row of the call's own, x any slice whose cells are known: plain laws for the walk. No condition.
-/
import Derived.Test.YtdeejiiegmddaaaOwn
namespace Go
open Go.RowKit
theorem Cells.drop {w : World} {b off : Nat} {xs : List Value} (h : Cells w (some ⟨b, off, none⟩) xs) (j : Nat) : Cells w (some ⟨b, off + j, none⟩) (xs.drop j) := fun hne => by
  obtain ⟨b', off', e, hc⟩ := h (by intro e; subst e; simp at hne)
  injection e with e
  injection e with e1 e2
  subst e1; subst e2
  refine ⟨b, off + j, rfl, fun i v hi => ?_⟩
  rw [List.getElem?_drop] at hi
  have := hc (j + i) v hi
  rwa [← Nat.add_assoc] at this
theorem own_fits {w : World} {base : Nat} {e : TypeId} {size n c : Nat} {A : Option Addr} {xs : List Value} (h : w.ownsRow base e size (.slice A n c) n xs) : n ≤ c := by
  rcases h.2 with ⟨hv, _⟩ | ⟨g', cap', cur, hv, _, _, hnc, _⟩
  · injection hv with _ e2 e3
    omega
  · injection hv with _ _ e3
    subst e3
    exact hnc
section
variable {P : Program}
theorem run_append_none (w : World) (base : Nat) (t ty e : TypeId) (i : TypeInfo) (size : Nat) (ht : P.underlying t = some (.slice e)) (hi : P.info? e = some i)
    (v : Value) (n : Nat) (xs : List Value) (hown : w.ownsRow base e size v n xs) (X : Option Addr) (c : Nat) :
    (Builtin.append_ #[t, t] ty #[v, .slice X 0 c]).run P w = .ok v w := by
  have hf : (Builtin.firstCells i.size 0 (.slice X 0 c)).run P w = .ok #[] w := by
    cases X with
    | none => simp [Builtin.firstCells]
    | some a => simp [Builtin.firstCells, loadCells, loadCellsFrom]
  rcases hown.2 with ⟨rfl, rfl⟩ | ⟨g, cap, cur, rfl, hbg, hg, hnc, hcm, hcs, htake⟩
  · simp [Builtin.append_, run_underlying ht, sizeOf, typeInfo, hi, Builtin.lenOf, hf]
  · simp [Builtin.append_, run_underlying ht, sizeOf, typeInfo, hi, Builtin.lenOf, hf, hnc, storeCells]
theorem wpList_appendC {ops : Array Oper} {rest : List Oper} {o : Oper} {a : Act} {Q : Exit → Act → World → Prop} (hgd : o.guard = none) (s x : Operand) (t : TypeId)
    (ho : o.op = .call { callee := .builtin .append, args := #[s, x], argTypes := #[t, t] })
    (e : TypeId) (i : TypeInfo) (z : Value) (size bytes : Nat) (ht : P.underlying t = some (.slice e)) (hi : P.info? e = some i) (hz : i.zero = some z)
    (hsize : i.size = size) (hby : i.bytes = bytes) (hzs : z.cells.size = size) (hsz : 0 < size)
    {w0 w : World} (hbel : Below w0.heap.size w0 w) (v : Value) (n : Nat) (xs : List Value) (hs : a.eval s = v) (hown : w.ownsRow w0.heap.size e size v n xs)
    (X : Option Addr) (m c : Nat) (news : List Value) (hx : a.eval x = .slice X m c) (hl : news.length = m * size) (hnews : Cells w X news) (h1 : ∀ u ∈ news, u.oneCell' = true)
    (hn : n + m ≤ maxLen) (hbytes : (n + m) * bytes ≤ 140737488355328)
    (h : ∀ (x1 : Past) (A : Option Addr) (cap : Nat), (w0.past x1).ownsRow w0.heap.size e size (.slice A (n + m) cap) (n + m) (xs ++ news) → wpList P ops Q rest (a.put o.dst (.slice A (n + m) cap)) (w0.past x1)) :
    wpList P ops Q (o :: rest) a w := by
  refine wpList_plain hgd fun K hK => ?_
  unfold Oper.wp execOp
  by_cases hm : m = 0
  · subst hm
    have hne : news = [] := List.eq_nil_of_length_eq_zero (by simpa using hl)
    subst hne
    have hr := run_append_none (P := P) w w0.heap.size t o.type e i size ht hi v n xs hown X c
    simp only [ho, resolve, invoke, builtin, Sem.run_bind, Sem.run_pure, Result.andThen_ok, List.map_toArray, List.map_cons, List.map_nil, hs, hx, hr]
    obtain ⟨A, cap, rfl⟩ := own_shape hown
    obtain ⟨x1, rfl⟩ := past_of hbel
    exact hK _ _ (h x1 A cap (by simpa using hown))
  · have hne : news ≠ [] := by
      intro e
      subst e
      have h0 : 0 < m * size := Nat.mul_pos (by omega) hsz
      rw [List.length_nil] at hl
      omega
    obtain ⟨b, off, rfl, hc⟩ := hnews hne
    have hnews' : ∀ j u, news[j]? = some u → w.cell? ((⟨b, off, none⟩ : Addr).add j) = some u := by
      intro j u hj
      rw [add_flat rfl]
      exact hc j u hj
    obtain ⟨v', w', hr, h2, h3, _, _⟩ := run_append_own_at (P := P) w w0.heap.size t o.type e i z size bytes ht hi hz hsize hby hzs hsz v n xs hown ⟨b, off, none⟩ m c news hl hnews' h1 hn hbytes hbel.size
    simp only [ho, resolve, invoke, builtin, Sem.run_bind, Sem.run_pure, Result.andThen_ok, List.map_toArray, List.map_cons, List.map_nil, hs, hx, hr]
    obtain ⟨A, cap, rfl⟩ := own_shape h2
    obtain ⟨x1, rfl⟩ := past_of (hbel.grown h3 hbel.size (fun k hk => (hown.lt k hk).1))
    exact hK _ _ (h x1 A cap h2)
end
end Go
