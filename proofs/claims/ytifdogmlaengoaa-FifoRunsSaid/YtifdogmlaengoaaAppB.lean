/-
  append of any slice onto a row of the call's own, base and world free: what becomes of all other blocks. Plain laws for the walk. No condition.
-/
import Derived.Test.YtifdogmlaengoaaAppC
import Derived.Test.YtifdogmlaengoaaPushB
namespace Go
open Go.RowKit
section
variable {P : Program}
theorem wp_appB {o : Oper} {a : Act} {K : Act → World → Prop} {Q : Exit → Act → World → Prop} (s x : Operand) (t : TypeId)
    (ho : o.op = .call { callee := .builtin .append, args := #[s, x], argTypes := #[t, t] })
    (e : TypeId) (i : TypeInfo) (z : Value) (size bytes : Nat) (ht : P.underlying t = some (.slice e)) (hi : P.info? e = some i) (hz : i.zero = some z)
    (hsize : i.size = size) (hby : i.bytes = bytes) (hzs : z.cells.size = size) (hsz : 0 < size)
    (B : Nat) {w : World} (hB : B ≤ w.heap.size) (v : Value) (n : Nat) (xs : List Value) (hs : a.eval s = v) (hown : w.ownsRow B e size v n xs)
    (X : Option Addr) (m c : Nat) (news : List Value) (hx : a.eval x = .slice X m c) (hl : news.length = m * size) (hnews : Cells w X news) (h1 : ∀ u ∈ news, u.oneCell' = true)
    (hn : n + m ≤ maxLen) (hbytes : (n + m) * bytes ≤ 140737488355328)
    (h : ∀ (w1 : World) (A : Option Addr) (cap : Nat), w1.ownsRow B e size (.slice A (n + m) cap) (n + m) (xs ++ news) → w.grownBy w1 v.ownBlock →
      (∀ v', Apart v' v → (∀ k, v'.ownBlock = some k → k < w.heap.size) → Apart v' (.slice A (n + m) cap)) →
      K (a.put o.dst (.slice A (n + m) cap)) w1) :
    o.wp P a w K Q := by
  unfold Oper.wp execOp
  by_cases hm : m = 0
  · subst hm
    have hne : news = [] := List.eq_nil_of_length_eq_zero (by simpa using hl)
    subst hne
    have hr := run_append_none (P := P) w B t o.type e i size ht hi v n xs hown X c
    simp only [ho, resolve, invoke, builtin, Sem.run_bind, Sem.run_pure, Result.andThen_ok, List.map_toArray, List.map_cons, List.map_nil, hs, hx, hr]
    obtain ⟨A, cap, rfl⟩ := own_shape hown
    exact h w A cap (by simpa using hown) ⟨rfl, rfl, rfl, Nat.le_refl _, fun _ _ _ => rfl⟩ (fun v' hap _ => hap)
  · have hne : news ≠ [] := by
      intro e
      subst e
      have h0 : 0 < m * size := Nat.mul_pos (by omega) hsz
      rw [List.length_nil] at hl
      omega
    obtain ⟨b, off, rfl, hc⟩ := hnews hne
    have hnews' : ∀ j u, news[j]? = some u → w.cell? ((⟨b, off, none⟩ : Addr).add j) = some u := by
      intro j u hj
      rw [add_flat rfl]
      exact hc j u hj
    obtain ⟨v', w', hr, h2, h3, _, hat⟩ := run_append_own_at (P := P) w B t o.type e i z size bytes ht hi hz hsize hby hzs hsz v n xs hown ⟨b, off, none⟩ m c news hl hnews' h1 hn hbytes hB
    simp only [ho, resolve, invoke, builtin, Sem.run_bind, Sem.run_pure, Result.andThen_ok, List.map_toArray, List.map_cons, List.map_nil, hs, hx, hr]
    obtain ⟨A, cap, rfl⟩ := own_shape h2
    refine h w' A cap h2 h3 fun v2 hap hlt => ?_
    have new : ∀ q, Value.ownBlock (.slice A (n + m) cap) = some q → w.heap.size ≤ q → Apart v2 (.slice A (n + m) cap) := fun q hq hle => by
      cases hv : v2.ownBlock with
      | none => exact .inl hv
      | some k =>
        refine .inr (.inr ?_)
        rw [hq, hv]
        intro he
        have := hlt k hv
        simp only [Option.some.injEq] at he
        omega
    rcases hat with h4 | h4
    · rcases hap with h0 | h0 | h0
      · exact .inl h0
      · exact .inr (.inl (h4.trans h0))
      · exact .inr (.inr (by rw [h4]; exact h0))
    · exact new _ h4 (Nat.le_refl _)
theorem wpList_appB {ops : Array Oper} {rest : List Oper} {o : Oper} {a : Act} {Q : Exit → Act → World → Prop} (hgd : o.guard = none) (s x : Operand) (t : TypeId)
    (ho : o.op = .call { callee := .builtin .append, args := #[s, x], argTypes := #[t, t] })
    (e : TypeId) (i : TypeInfo) (z : Value) (size bytes : Nat) (ht : P.underlying t = some (.slice e)) (hi : P.info? e = some i) (hz : i.zero = some z)
    (hsize : i.size = size) (hby : i.bytes = bytes) (hzs : z.cells.size = size) (hsz : 0 < size)
    (B : Nat) {w : World} (hB : B ≤ w.heap.size) (v : Value) (n : Nat) (xs : List Value) (hs : a.eval s = v) (hown : w.ownsRow B e size v n xs)
    (X : Option Addr) (m c : Nat) (news : List Value) (hx : a.eval x = .slice X m c) (hl : news.length = m * size) (hnews : Cells w X news) (h1 : ∀ u ∈ news, u.oneCell' = true)
    (hn : n + m ≤ maxLen) (hbytes : (n + m) * bytes ≤ 140737488355328)
    (h : ∀ (w1 : World) (A : Option Addr) (cap : Nat), w1.ownsRow B e size (.slice A (n + m) cap) (n + m) (xs ++ news) → w.grownBy w1 v.ownBlock →
      (∀ v', Apart v' v → (∀ k, v'.ownBlock = some k → k < w.heap.size) → Apart v' (.slice A (n + m) cap)) →
      wpList P ops Q rest (a.put o.dst (.slice A (n + m) cap)) w1) :
    wpList P ops Q (o :: rest) a w :=
  wpList_plain hgd fun _ hK => wp_appB s x t ho e i z size bytes ht hi hz hsize hby hzs hsz B hB v n xs hs hown X m c news hx hl hnews h1 hn hbytes fun w1 A cap h2 h3 h4 => hK _ _ (h w1 A cap h2 h3 h4)
theorem step_appB {ops : Array Oper} {o : Oper} {a : Act} {K : Act → World → Prop} {E : Prop} {Q : Exit → Act → World → Prop} (hgd : o.guard = none) (s x : Operand) (t : TypeId)
    (ho : o.op = .call { callee := .builtin .append, args := #[s, x], argTypes := #[t, t] })
    (e : TypeId) (i : TypeInfo) (z : Value) (size bytes : Nat) (ht : P.underlying t = some (.slice e)) (hi : P.info? e = some i) (hz : i.zero = some z)
    (hsize : i.size = size) (hby : i.bytes = bytes) (hzs : z.cells.size = size) (hsz : 0 < size)
    (B : Nat) {w : World} (hB : B ≤ w.heap.size) (v : Value) (n : Nat) (xs : List Value) (hs : a.eval s = v) (hown : w.ownsRow B e size v n xs)
    (X : Option Addr) (m c : Nat) (news : List Value) (hx : a.eval x = .slice X m c) (hl : news.length = m * size) (hnews : Cells w X news) (h1 : ∀ u ∈ news, u.oneCell' = true)
    (hn : n + m ≤ maxLen) (hbytes : (n + m) * bytes ≤ 140737488355328)
    (h : ∀ (w1 : World) (A : Option Addr) (cap : Nat), w1.ownsRow B e size (.slice A (n + m) cap) (n + m) (xs ++ news) → w.grownBy w1 v.ownBlock →
      (∀ v', Apart v' v → (∀ k, v'.ownBlock = some k → k < w.heap.size) → Apart v' (.slice A (n + m) cap)) →
      K (a.put o.dst (.slice A (n + m) cap)) w1) :
    if Region.wanted o (yielded ops a.tmps) = true then Oper.wp P o a w K Q else E := by
  have hw : Region.wanted o (yielded ops a.tmps) = true := by simp [Region.wanted, hgd]
  rw [if_pos hw]
  exact wp_appB s x t ho e i z size bytes ht hi hz hsize hby hzs hsz B hB v n xs hs hown X m c news hx hl hnews h1 hn hbytes h
end
end Go
