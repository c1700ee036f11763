/-
  Slices that read as lists, and rows of the call's own: plain laws for the walk. No condition.
-/
import Derived.Test.YtpihkagmkmjfpaaPast
import Derived.OwnWalk
import Derived.Laws.OwnMore
namespace Go
open Go.RowKit

/-- The cells from an address on: asked of nothing where there are none. -/
def Cells (w : World) (A : Option Addr) (xs : List Value) : Prop :=
  xs ≠ [] → ∃ b off : Nat, A = some ⟨b, off, none⟩ ∧ ∀ (i : Nat) (v : Value), xs[i]? = some v → w.cell? ⟨b, off + i, none⟩ = some v

section
variable {w w' : World} {A : Option Addr} {xs : List Value}
theorem Cells.nil (w : World) (A : Option Addr) : Cells w A [] := fun h => (h rfl).elim
theorem Cells.keep (h : Cells w A xs) (hk : ∀ a v, w.cell? a = some v → w'.cell? a = some v) : Cells w' A xs := fun hne => by
  obtain ⟨b, off, e, hc⟩ := h hne
  exact ⟨b, off, e, fun i v hi => hk _ _ (hc i v hi)⟩
theorem below_cell {B : Nat} (hb : Below B w w') (hB : w.heap.size ≤ B) (a : Addr) (v : Value) (h : w.cell? a = some v) : w'.cell? a = some v := by
  rw [hb.cell (by have := World.block_lt_of_cell? w a h; omega)]; exact h
theorem Cells.below (h : Cells w A xs) (hb : Below w.heap.size w w') : Cells w' A xs := h.keep (below_cell hb (Nat.le_refl _))
theorem Cells.past (h : Cells w A xs) (x : Past) : Cells (w.past x) A xs := h.below (w.below_past x)
theorem Cells.alloc (h : Cells w A xs) (o : Obj) : Cells (w.alloc o) A xs := h.below ((Below.refl _ _).alloc (Nat.le_refl _) o)
theorem Cells.drew (h : Cells w A xs) : Cells w.drew A xs := h
theorem Cells.drewN (h : Cells w A xs) (n : Nat) : Cells (w.drewN n) A xs := h
/-- A store into a block that was not there when the cells were asked for. -/
theorem Cells.setCell (h : Cells w A xs) {w0 : World} (h0 : Cells w0 A xs) {p : Addr} (hp : w0.heap.size ≤ p.block) (u : Value) : Cells (w.setCell p u) A xs := fun hne => by
  obtain ⟨b, off, e, hc⟩ := h hne
  obtain ⟨b', off', e', hc'⟩ := h0 hne
  rw [e] at e'
  injection e' with e'
  injection e' with e1 e2
  subst e1; subst e2
  refine ⟨b, off, e, fun i v hi => ?_⟩
  have hlt := World.block_lt_of_cell? w0 _ (hc' i v hi)
  rw [World.cell?_setCell_other w p _ u (fun e => by subst e; simp at hlt hp; omega)]
  exact hc i v hi
theorem Cells.at (h : Cells w A xs) {k : Nat} (hk : k < xs.length) : ∃ b off : Nat, A = some ⟨b, off, none⟩ ∧ w.cell? ⟨b, off + k, none⟩ = some xs[k] := by
  obtain ⟨b, off, e, hc⟩ := h (by intro e; subst e; simp at hk)
  exact ⟨b, off, e, hc k _ (List.getElem?_eq_getElem hk)⟩
theorem Cells.take (h : Cells w A xs) (k : Nat) : Cells w A (xs.take k) := fun hne => by
  obtain ⟨b, off, e, hc⟩ := h (by intro e; subst e; simp at hne)
  refine ⟨b, off, e, fun i v hi => hc i v ?_⟩
  rw [List.getElem?_take] at hi
  split at hi
  · exact hi
  · cases hi
theorem Cells.of_own {base : Nat} {e : TypeId} {size n cap : Nat} (h : w.ownsRow base e size (.slice A n cap) n xs) : Cells w A xs := fun hne => by
  rcases h.2 with ⟨hv, hn⟩ | ⟨g, cap', cur, hv, hb, hh, _⟩
  · exfalso
    subst hn
    have := h.1
    simp at this
    exact hne this
  · injection hv with hA _ _
    subst hA
    refine ⟨g, 0, rfl, fun i v hi => ?_⟩
    have := h.cells (g := g) rfl i v hi
    have ea : (⟨g, 0, none⟩ : Addr).add i = ⟨g, 0 + i, none⟩ := by unfold Addr.add; split <;> simp_all
    rw [ea] at this
    exact this
theorem own_shape {base : Nat} {e : TypeId} {size n : Nat} {v : Value} (h : w.ownsRow base e size v n xs) : ∃ A cap, v = .slice A n cap := by
  rcases h.2 with ⟨hv, hn⟩ | ⟨g, cap', cur, hv, _⟩
  · subst hn; exact ⟨none, 0, hv⟩
  · exact ⟨_, _, hv⟩
theorem own_succ {base : Nat} {e : TypeId} {size n : Nat} {v : Value} (h : w.ownsRow base e size v n xs) (hn : 0 < n) : ∃ g cap, v = .slice (some ⟨g, 0, none⟩) n cap ∧ base ≤ g := by
  rcases h.2 with ⟨_, hn'⟩ | ⟨g, cap', cur, hv, hb, _⟩
  · omega
  · exact ⟨g, cap', hv, hb⟩
theorem own_below {B base : Nat} {e : TypeId} {size n : Nat} {v : Value} (h : w.ownsRow base e size v n xs) (hb : Below B w w') (hB : w.heap.size ≤ B) : w'.ownsRow base e size v n xs := by
  refine ⟨h.1, ?_⟩
  rcases h.2 with h1 | ⟨g, cap, cur, hv, hg, hh, hr⟩
  · exact .inl h1
  · have hlt : g < w.heap.size := by
      rcases Nat.lt_or_ge g w.heap.size with h' | h'
      · exact h'
      · rw [Array.getElem?_eq_none h'] at hh; cases hh
    exact .inr ⟨g, cap, cur, hv, hg, by rw [hb.block g (by omega)]; exact hh, hr⟩
theorem own_past {base : Nat} {e : TypeId} {size n : Nat} {v : Value} (h : w.ownsRow base e size v n xs) (x : Past) : (w.past x).ownsRow base e size v n xs := own_below h (w.below_past x) (Nat.le_refl _)
theorem own_and {base : Nat} {e : TypeId} {size n : Nat} {v : Value} {x : Past} (h : (w.past x).ownsRow base e size v n xs) (y : Past) : (w.past (x.and y)).ownsRow base e size v n xs := by
  rw [← World.past_past]; exact own_past h y
theorem Cells.and {x : Past} (h : Cells (w.past x) A xs) (y : Past) : Cells (w.past (x.and y)) A xs := by
  rw [← World.past_past]; exact h.past y
theorem own_base {b' base : Nat} {e : TypeId} {size n : Nat} {v : Value} (h : w.ownsRow base e size v n xs) (hb : b' ≤ base) : w.ownsRow b' e size v n xs := by
  refine ⟨h.1, ?_⟩
  rcases h.2 with h1 | ⟨g, cap, cur, hv, hg, hr⟩
  · exact .inl h1
  · exact .inr ⟨g, cap, cur, hv, by omega, hr⟩
end

/-- It returns a row of its own, n elements, these cells; what lay there lies as it was. -/
def GivesOwn (e : TypeId) (size n : Nat) (xs : List Value) (w : World) (en : Ending) (w' : World) : Prop :=
  ∃ A cap, en = .returned (.slice A n cap) ∧ Below w.heap.size w w' ∧ w'.ownsRow w.heap.size e size (.slice A n cap) n xs

section
variable {P : Program}
/-- append(out, x), out a row of the call's own: it lies in what is new. -/
theorem wpList_push {ops : Array Oper} {rest : List Oper} {o : Oper} {a : Act} {Q : Exit → Act → World → Prop} (hgd : o.guard = none) (s x : Operand) (t : TypeId)
    (ho : o.op = .call { callee := .builtin .append, args := #[s, x], argTypes := #[t, t] })
    (e : TypeId) (i : TypeInfo) (z : Value) (size bytes : Nat) (ht : P.underlying t = some (.slice e)) (hi : P.info? e = some i) (hz : i.zero = some z)
    (hsize : i.size = size) (hby : i.bytes = bytes) (hzs : z.cells.size = size) (hsz : 0 < size)
    {w0 w : World} (hbel : Below w0.heap.size w0 w) (v : Value) (n : Nat) (xs : List Value) (hs : a.eval s = v) (hown : w.ownsRow w0.heap.size e size v n xs)
    (g0 : Nat) (news : Array Value) (hg0 : g0 = w.heap.size) (hx : a.eval x = .slice (some ⟨g0, 0, none⟩) 1 1) (hl : news.size = size) (h1 : ∀ u ∈ news.toList, u.oneCell' = true)
    (hbytes : (n + 1) * bytes ≤ 140737488355328) (hn : n + 1 ≤ maxLen)
    (h : ∀ (x1 : Past) (g cap : Nat), (w0.past x1).ownsRow w0.heap.size e size (.slice (some ⟨g, 0, none⟩) (n + 1) cap) (n + 1) (xs ++ news.toList) → wpList P ops Q rest (a.put o.dst (.slice (some ⟨g, 0, none⟩) (n + 1) cap)) (w0.past x1)) :
    wpList P ops Q (o :: rest) a (w.alloc (.cells news e)) := by
  subst hg0
  refine wpList_append_own _ hgd s x t ho w0.heap.size e i z size bytes ht hi hz hsize hby hzs hsz v n xs hs (hown.alloc _) ⟨w.heap.size, 0, none⟩ 1 1 news.toList hx (by simpa using hl) ?_ h1 hn hbytes (by simp; have := hbel.size; omega) ?_
  · intro j u hj
    have : (⟨w.heap.size, 0, none⟩ : Addr).add j = ⟨w.heap.size, j, none⟩ := by unfold Addr.add; split <;> simp_all
    rw [this, World.cell?_alloc_new]
    simpa using hj
  · intro v' w' hown' hg _
    obtain ⟨g, cap, rfl, hge⟩ := own_succ hown' (by omega)
    have hb2 : Below w0.heap.size w0 w' := (hbel.alloc hbel.size _).grown hg (by simp; have := hbel.size; omega) (fun k hk => (hown.lt k hk).1)
    obtain ⟨x1, rfl⟩ := past_of hb2
    exact h x1 g cap hown'
end

/-- A list of ints, as cells. -/
def i64s (l : List Int) : List Value := l.map (Value.int .i64)
theorem i64s_length (l : List Int) : (i64s l).length = l.length := by simp [i64s]
theorem i64s_snoc (l : List Int) (x : Int) : i64s l ++ [.int .i64 x] = i64s (l ++ [x]) := by simp [i64s]
def atL (l : List Int) (i : Nat) : Int := l[i]?.getD 0
theorem i64_at {w : World} {A : Option Addr} {l : List Int} (h : Cells w A (i64s l)) {k : Nat} (hk : k < l.length) : ∃ b off : Nat, A = some ⟨b, off, none⟩ ∧ w.cell? ⟨b, off + k, none⟩ = some (.int .i64 (atL l k)) := by
  obtain ⟨b, off, e, hc⟩ := h.at (k := k) (by simpa [i64s] using hk)
  refine ⟨b, off, e, ?_⟩
  rw [hc]
  simp [i64s, atL, List.getElem?_eq_getElem hk]
theorem cells_two {w : World} {g o : Nat} {a b : Value} (h0 : w.cell? ⟨g, o, none⟩ = some a) (h1 : w.cell? ⟨g, o + 1, none⟩ = some b) : Cells w (some ⟨g, o, none⟩) [a, b] := fun _ => by
  refine ⟨g, o, rfl, fun i v hi => ?_⟩
  match i, hi with
  | 0, hi => simp at hi; subst hi; exact h0
  | 1, hi => simp at hi; subst hi; exact h1
  | i + 2, hi => simp at hi
end Go
