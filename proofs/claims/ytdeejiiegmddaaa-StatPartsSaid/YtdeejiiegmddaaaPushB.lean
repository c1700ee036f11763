/-
  append of one element onto a row of the call's own, base and world free: what becomes of all other blocks. A plain law for the walk. No condition.
-/
import Derived.Test.YtdeejiiegmddaaaTabSet
namespace Go
open Go.RowKit
section
variable {P : Program}
theorem wp_pushB {o : Oper} {a : Act} {K : Act → World → Prop} {Q : Exit → Act → World → Prop} (s x : Operand) (t : TypeId)
    (ho : o.op = .call { callee := .builtin .append, args := #[s, x], argTypes := #[t, t] })
    (e : TypeId) (i : TypeInfo) (z : Value) (size bytes : Nat) (ht : P.underlying t = some (.slice e)) (hi : P.info? e = some i) (hz : i.zero = some z)
    (hsize : i.size = size) (hby : i.bytes = bytes) (hzs : z.cells.size = size) (hsz : 0 < size)
    (B : Nat) {w : World} (hB : B ≤ w.heap.size) (v : Value) (n : Nat) (xs : List Value) (hs : a.eval s = v) (hown : w.ownsRow B e size v n xs)
    (g0 : Nat) (news : Array Value) (hg0 : g0 = w.heap.size) (hx : a.eval x = .slice (some ⟨g0, 0, none⟩) 1 1) (hl : news.size = size) (h1 : ∀ u ∈ news.toList, u.oneCell' = true)
    (hbytes : (n + 1) * bytes ≤ 140737488355328) (hn : n + 1 ≤ maxLen)
    (h : ∀ (w1 : World) (g cap : Nat), w1.ownsRow B e size (.slice (some ⟨g, 0, none⟩) (n + 1) cap) (n + 1) (xs ++ news.toList) → w.grownBy w1 v.ownBlock →
      (∀ v', Apart v' v → (∀ k, v'.ownBlock = some k → k < w.heap.size) → Apart v' (.slice (some ⟨g, 0, none⟩) (n + 1) cap)) →
      K (a.put o.dst (.slice (some ⟨g, 0, none⟩) (n + 1) cap)) w1) :
    o.wp P a (w.alloc (.cells news e)) K Q := by
  subst hg0
  have hnews : ∀ j u, news.toList[j]? = some u → (w.alloc (.cells news e)).cell? ((⟨w.heap.size, 0, none⟩ : Addr).add j) = some u := by
    intro j u hj
    have : (⟨w.heap.size, 0, none⟩ : Addr).add j = ⟨w.heap.size, j, none⟩ := by unfold Addr.add; split <;> simp_all
    rw [this, World.cell?_alloc_new]
    simpa using hj
  obtain ⟨v', w', hrun, hown', hg, _, hat⟩ := run_append_own_at (P := P) (w := w.alloc (.cells news e)) B t o.type e i z size bytes ht hi hz hsize hby hzs hsz v n xs (hown.alloc _) ⟨w.heap.size, 0, none⟩ 1 1 news.toList (by simpa using hl) hnews h1 hn hbytes (by simp; omega)
  obtain ⟨g, cap, rfl, hge⟩ := own_succ hown' (by omega)
  unfold Oper.wp execOp
  simp only [ho, resolve, invoke, builtin, Sem.run_bind, Sem.run_pure, Result.andThen_ok, List.map_toArray, List.map_cons, List.map_nil, hs, hx, hrun]
  refine h w' g cap hown' ⟨hg.os, hg.tape, hg.output, Nat.le_trans (by simp) hg.size, fun k hk hn => (hg.block k (by simp; omega) hn).trans (heap_alloc_old w _ hk)⟩ fun v2 hap hlt => ?_
  rcases hap with h0 | h0 | h0
  · exact .inl h0
  · rcases hat with h2 | h2
    · exact .inr (.inl (h2.trans h0))
    · cases hv : v2.ownBlock with
      | none => exact .inl hv
      | some k =>
        refine .inr (.inr ?_)
        rw [h2, hv]
        intro he
        have := hlt k hv
        rw [World.size_alloc] at he
        simp only [Option.some.injEq] at he
        omega
  · rcases hat with h2 | h2
    · exact .inr (.inr (by rw [h2]; exact h0))
    · cases hv : v2.ownBlock with
      | none => exact .inl hv
      | some k =>
        refine .inr (.inr ?_)
        rw [h2, hv]
        intro he
        have := hlt k hv
        rw [World.size_alloc] at he
        simp only [Option.some.injEq] at he
        omega
theorem wpList_pushB {ops : Array Oper} {rest : List Oper} {o : Oper} {a : Act} {Q : Exit → Act → World → Prop} (hgd : o.guard = none) (s x : Operand) (t : TypeId)
    (ho : o.op = .call { callee := .builtin .append, args := #[s, x], argTypes := #[t, t] })
    (e : TypeId) (i : TypeInfo) (z : Value) (size bytes : Nat) (ht : P.underlying t = some (.slice e)) (hi : P.info? e = some i) (hz : i.zero = some z)
    (hsize : i.size = size) (hby : i.bytes = bytes) (hzs : z.cells.size = size) (hsz : 0 < size)
    (B : Nat) {w : World} (hB : B ≤ w.heap.size) (v : Value) (n : Nat) (xs : List Value) (hs : a.eval s = v) (hown : w.ownsRow B e size v n xs)
    (g0 : Nat) (news : Array Value) (hg0 : g0 = w.heap.size) (hx : a.eval x = .slice (some ⟨g0, 0, none⟩) 1 1) (hl : news.size = size) (h1 : ∀ u ∈ news.toList, u.oneCell' = true)
    (hbytes : (n + 1) * bytes ≤ 140737488355328) (hn : n + 1 ≤ maxLen)
    (h : ∀ (w1 : World) (g cap : Nat), w1.ownsRow B e size (.slice (some ⟨g, 0, none⟩) (n + 1) cap) (n + 1) (xs ++ news.toList) → w.grownBy w1 v.ownBlock →
      (∀ v', Apart v' v → (∀ k, v'.ownBlock = some k → k < w.heap.size) → Apart v' (.slice (some ⟨g, 0, none⟩) (n + 1) cap)) →
      wpList P ops Q rest (a.put o.dst (.slice (some ⟨g, 0, none⟩) (n + 1) cap)) w1) :
    wpList P ops Q (o :: rest) a (w.alloc (.cells news e)) :=
  wpList_plain hgd fun _ hK => wp_pushB s x t ho e i z size bytes ht hi hz hsize hby hzs hsz B hB v n xs hs hown g0 news hg0 hx hl h1 hbytes hn fun w1 g cap h2 h3 h4 => hK _ _ (h w1 g cap h2 h3 h4)
theorem step_pushB {ops : Array Oper} {o : Oper} {a : Act} {K : Act → World → Prop} {E : Prop} {Q : Exit → Act → World → Prop} (hgd : o.guard = none) (s x : Operand) (t : TypeId)
    (ho : o.op = .call { callee := .builtin .append, args := #[s, x], argTypes := #[t, t] })
    (e : TypeId) (i : TypeInfo) (z : Value) (size bytes : Nat) (ht : P.underlying t = some (.slice e)) (hi : P.info? e = some i) (hz : i.zero = some z)
    (hsize : i.size = size) (hby : i.bytes = bytes) (hzs : z.cells.size = size) (hsz : 0 < size)
    (B : Nat) {w : World} (hB : B ≤ w.heap.size) (v : Value) (n : Nat) (xs : List Value) (hs : a.eval s = v) (hown : w.ownsRow B e size v n xs)
    (g0 : Nat) (news : Array Value) (hg0 : g0 = w.heap.size) (hx : a.eval x = .slice (some ⟨g0, 0, none⟩) 1 1) (hl : news.size = size) (h1 : ∀ u ∈ news.toList, u.oneCell' = true)
    (hbytes : (n + 1) * bytes ≤ 140737488355328) (hn : n + 1 ≤ maxLen)
    (h : ∀ (w1 : World) (g cap : Nat), w1.ownsRow B e size (.slice (some ⟨g, 0, none⟩) (n + 1) cap) (n + 1) (xs ++ news.toList) → w.grownBy w1 v.ownBlock →
      (∀ v', Apart v' v → (∀ k, v'.ownBlock = some k → k < w.heap.size) → Apart v' (.slice (some ⟨g, 0, none⟩) (n + 1) cap)) →
      K (a.put o.dst (.slice (some ⟨g, 0, none⟩) (n + 1) cap)) w1) :
    if Region.wanted o (yielded ops a.tmps) = true then Oper.wp P o a (w.alloc (.cells news e)) K Q else E := by
  have hw : Region.wanted o (yielded ops a.tmps) = true := by simp [Region.wanted, hgd]
  rw [if_pos hw]
  exact wp_pushB s x t ho e i z size bytes ht hi hz hsize hby hzs hsz B hB v n xs hs hown g0 news hg0 hx hl h1 hbytes hn h
end
/-- Another row stays. -/
theorem own_apart {w w' : World} {b' : Nat} {e' : TypeId} {s' n' : Nat} {v v' : Value} {xs' : List Value} (h : w.ownsRow b' e' s' v' n' xs') (hg : w.grownBy w' v.ownBlock) (hap : Apart v' v) : w'.ownsRow b' e' s' v' n' xs' := by
  refine h.kept hg ?_
  rcases hap with h0 | h0 | h0
  · exact .inl h0
  · cases hv : v'.ownBlock with
    | none => exact .inl rfl
    | some k => rw [h0]; exact .inr (by simp)
  · exact .inr h0
/-- Rows of different types lie apart. -/
theorem apart_types {w : World} {B b' : Nat} {e e' : TypeId} {s s' n n' : Nat} {v v' : Value} {xs xs' : List Value} (h : w.ownsRow b' e' s' v' n' xs') (k : w.ownsRow B e s v n xs) (hne : e' ≠ e) : Apart v' v := by
  rcases h.2 with ⟨rfl, _⟩ | ⟨g, cap, cur, rfl, _, hg, _⟩
  · exact .inl rfl
  · rcases k.2 with ⟨rfl, _⟩ | ⟨g2, cap2, cur2, rfl, _, hg2, _⟩
    · exact .inr (.inl rfl)
    · refine .inr (.inr fun he => hne ?_)
      simp only [Value.ownBlock, Option.some.injEq] at he
      subst he
      rw [hg] at hg2
      simp only [Option.some.injEq, Obj.cells.injEq] at hg2
      exact hg2.2.1
end Go
