/-
  Slices that read as lists, and rows of the call's own: plain laws for the walk. No condition.
-/
import Derived.Test.YtdeejiiegmddaaaLift
import Derived.OwnWalk
import Derived.Laws.OwnMore
import Derived.Maps.AppendAt
namespace Go
open Go.RowKit

/-- The cells from an address on: asked of nothing where there are none. -/
def Cells (w : World) (A : Option Addr) (xs : List Value) : Prop :=
  xs ≠ [] → ∃ b off : Nat, A = some ⟨b, off, none⟩ ∧ ∀ (i : Nat) (v : Value), xs[i]? = some v → w.cell? ⟨b, off + i, none⟩ = some v

section
variable {w w' : World} {A : Option Addr} {xs : List Value}
theorem Cells.nil (w : World) (A : Option Addr) : Cells w A [] := fun h => (h rfl).elim
theorem Cells.keep (h : Cells w A xs) (hk : ∀ a v, w.cell? a = some v → w'.cell? a = some v) : Cells w' A xs := fun hne => by
  obtain ⟨b, off, e, hc⟩ := h hne
  exact ⟨b, off, e, fun i v hi => hk _ _ (hc i v hi)⟩
theorem below_cell {B : Nat} (hb : Below B w w') (hB : w.heap.size ≤ B) (a : Addr) (v : Value) (h : w.cell? a = some v) : w'.cell? a = some v := by
  rw [hb.cell (by have := World.block_lt_of_cell? w a h; omega)]; exact h
theorem Cells.below (h : Cells w A xs) (hb : Below w.heap.size w w') : Cells w' A xs := h.keep (below_cell hb (Nat.le_refl _))
theorem Cells.past (h : Cells w A xs) (x : Past) : Cells (w.past x) A xs := h.below (w.below_past x)
theorem Cells.alloc (h : Cells w A xs) (o : Obj) : Cells (w.alloc o) A xs := h.below ((Below.refl _ _).alloc (Nat.le_refl _) o)
theorem Cells.drew (h : Cells w A xs) : Cells w.drew A xs := h
theorem Cells.drewN (h : Cells w A xs) (n : Nat) : Cells (w.drewN n) A xs := h
/-- A store into a block that was not there when the cells were asked for. -/
theorem Cells.setCell (h : Cells w A xs) {w0 : World} (h0 : Cells w0 A xs) {p : Addr} (hp : w0.heap.size ≤ p.block) (u : Value) : Cells (w.setCell p u) A xs := fun hne => by
  obtain ⟨b, off, e, hc⟩ := h hne
  obtain ⟨b', off', e', hc'⟩ := h0 hne
  rw [e] at e'
  injection e' with e'
  injection e' with e1 e2
  subst e1; subst e2
  refine ⟨b, off, e, fun i v hi => ?_⟩
  have hlt := World.block_lt_of_cell? w0 _ (hc' i v hi)
  rw [World.cell?_setCell_other w p _ u (fun e => by subst e; simp at hlt hp; omega)]
  exact hc i v hi
theorem Cells.at (h : Cells w A xs) {k : Nat} (hk : k < xs.length) : ∃ b off : Nat, A = some ⟨b, off, none⟩ ∧ w.cell? ⟨b, off + k, none⟩ = some xs[k] := by
  obtain ⟨b, off, e, hc⟩ := h (by intro e; subst e; simp at hk)
  exact ⟨b, off, e, hc k _ (List.getElem?_eq_getElem hk)⟩
theorem Cells.take (h : Cells w A xs) (k : Nat) : Cells w A (xs.take k) := fun hne => by
  obtain ⟨b, off, e, hc⟩ := h (by intro e; subst e; simp at hne)
  refine ⟨b, off, e, fun i v hi => hc i v ?_⟩
  rw [List.getElem?_take] at hi
  split at hi
  · exact hi
  · cases hi
theorem Cells.of_own {base : Nat} {e : TypeId} {size n cap : Nat} (h : w.ownsRow base e size (.slice A n cap) n xs) : Cells w A xs := fun hne => by
  rcases h.2 with ⟨hv, hn⟩ | ⟨g, cap', cur, hv, hb, hh, _⟩
  · exfalso
    subst hn
    have := h.1
    simp at this
    exact hne this
  · injection hv with hA _ _
    subst hA
    refine ⟨g, 0, rfl, fun i v hi => ?_⟩
    have := h.cells (g := g) rfl i v hi
    have ea : (⟨g, 0, none⟩ : Addr).add i = ⟨g, 0 + i, none⟩ := by unfold Addr.add; split <;> simp_all
    rw [ea] at this
    exact this
theorem own_shape {base : Nat} {e : TypeId} {size n : Nat} {v : Value} (h : w.ownsRow base e size v n xs) : ∃ A cap, v = .slice A n cap := by
  rcases h.2 with ⟨hv, hn⟩ | ⟨g, cap', cur, hv, _⟩
  · subst hn; exact ⟨none, 0, hv⟩
  · exact ⟨_, _, hv⟩
theorem own_succ {base : Nat} {e : TypeId} {size n : Nat} {v : Value} (h : w.ownsRow base e size v n xs) (hn : 0 < n) : ∃ g cap, v = .slice (some ⟨g, 0, none⟩) n cap ∧ base ≤ g := by
  rcases h.2 with ⟨_, hn'⟩ | ⟨g, cap', cur, hv, hb, _⟩
  · omega
  · exact ⟨g, cap', hv, hb⟩
theorem own_below {B base : Nat} {e : TypeId} {size n : Nat} {v : Value} (h : w.ownsRow base e size v n xs) (hb : Below B w w') (hB : w.heap.size ≤ B) : w'.ownsRow base e size v n xs := by
  refine ⟨h.1, ?_⟩
  rcases h.2 with h1 | ⟨g, cap, cur, hv, hg, hh, hr⟩
  · exact .inl h1
  · have hlt : g < w.heap.size := by
      rcases Nat.lt_or_ge g w.heap.size with h' | h'
      · exact h'
      · rw [Array.getElem?_eq_none h'] at hh; cases hh
    exact .inr ⟨g, cap, cur, hv, hg, by rw [hb.block g (by omega)]; exact hh, hr⟩
theorem own_past {base : Nat} {e : TypeId} {size n : Nat} {v : Value} (h : w.ownsRow base e size v n xs) (x : Past) : (w.past x).ownsRow base e size v n xs := own_below h (w.below_past x) (Nat.le_refl _)
theorem own_and {base : Nat} {e : TypeId} {size n : Nat} {v : Value} {x : Past} (h : (w.past x).ownsRow base e size v n xs) (y : Past) : (w.past (x.and y)).ownsRow base e size v n xs := by
  rw [← World.past_past]; exact own_past h y
theorem Cells.and {x : Past} (h : Cells (w.past x) A xs) (y : Past) : Cells (w.past (x.and y)) A xs := by
  rw [← World.past_past]; exact h.past y
theorem own_base {b' base : Nat} {e : TypeId} {size n : Nat} {v : Value} (h : w.ownsRow base e size v n xs) (hb : b' ≤ base) : w.ownsRow b' e size v n xs := by
  refine ⟨h.1, ?_⟩
  rcases h.2 with h1 | ⟨g, cap, cur, hv, hg, hr⟩
  · exact .inl h1
  · exact .inr ⟨g, cap, cur, hv, by omega, hr⟩
end

/-- It returns a row of its own, n elements, these cells; what lay there lies as it was. -/
def GivesOwn (e : TypeId) (size n : Nat) (xs : List Value) (w : World) (en : Ending) (w' : World) : Prop :=
  ∃ A cap, en = .returned (.slice A n cap) ∧ Below w.heap.size w w' ∧ w'.ownsRow w.heap.size e size (.slice A n cap) n xs

section
variable {P : Program}
/-- append(out, x), out a row of the call's own: it lies in what is new. -/
theorem wpList_push {ops : Array Oper} {rest : List Oper} {o : Oper} {a : Act} {Q : Exit → Act → World → Prop} (hgd : o.guard = none) (s x : Operand) (t : TypeId)
    (ho : o.op = .call { callee := .builtin .append, args := #[s, x], argTypes := #[t, t] })
    (e : TypeId) (i : TypeInfo) (z : Value) (size bytes : Nat) (ht : P.underlying t = some (.slice e)) (hi : P.info? e = some i) (hz : i.zero = some z)
    (hsize : i.size = size) (hby : i.bytes = bytes) (hzs : z.cells.size = size) (hsz : 0 < size)
    {w0 w : World} (hbel : Below w0.heap.size w0 w) (v : Value) (n : Nat) (xs : List Value) (hs : a.eval s = v) (hown : w.ownsRow w0.heap.size e size v n xs)
    (g0 : Nat) (news : Array Value) (hg0 : g0 = w.heap.size) (hx : a.eval x = .slice (some ⟨g0, 0, none⟩) 1 1) (hl : news.size = size) (h1 : ∀ u ∈ news.toList, u.oneCell' = true)
    (hbytes : (n + 1) * bytes ≤ 140737488355328) (hn : n + 1 ≤ maxLen)
    (h : ∀ (x1 : Past) (g cap : Nat), (w0.past x1).ownsRow w0.heap.size e size (.slice (some ⟨g, 0, none⟩) (n + 1) cap) (n + 1) (xs ++ news.toList) → wpList P ops Q rest (a.put o.dst (.slice (some ⟨g, 0, none⟩) (n + 1) cap)) (w0.past x1)) :
    wpList P ops Q (o :: rest) a (w.alloc (.cells news e)) := by
  subst hg0
  refine wpList_append_own _ hgd s x t ho w0.heap.size e i z size bytes ht hi hz hsize hby hzs hsz v n xs hs (hown.alloc _) ⟨w.heap.size, 0, none⟩ 1 1 news.toList hx (by simpa using hl) ?_ h1 hn hbytes (by simp; have := hbel.size; omega) ?_
  · intro j u hj
    have : (⟨w.heap.size, 0, none⟩ : Addr).add j = ⟨w.heap.size, j, none⟩ := by unfold Addr.add; split <;> simp_all
    rw [this, World.cell?_alloc_new]
    simpa using hj
  · intro v' w' hown' hg _
    obtain ⟨g, cap, rfl, hge⟩ := own_succ hown' (by omega)
    have hb2 : Below w0.heap.size w0 w' := (hbel.alloc hbel.size _).grown hg (by simp; have := hbel.size; omega) (fun k hk => (hown.lt k hk).1)
    obtain ⟨x1, rfl⟩ := past_of hb2
    exact h x1 g cap hown'
end

/-- A list of ints, as cells. -/
def i64s (l : List Int) : List Value := l.map (Value.int .i64)
theorem i64s_length (l : List Int) : (i64s l).length = l.length := by simp [i64s]
theorem i64s_snoc (l : List Int) (x : Int) : i64s l ++ [.int .i64 x] = i64s (l ++ [x]) := by simp [i64s]
def atL (l : List Int) (i : Nat) : Int := l[i]?.getD 0
theorem i64_at {w : World} {A : Option Addr} {l : List Int} (h : Cells w A (i64s l)) {k : Nat} (hk : k < l.length) : ∃ b off : Nat, A = some ⟨b, off, none⟩ ∧ w.cell? ⟨b, off + k, none⟩ = some (.int .i64 (atL l k)) := by
  obtain ⟨b, off, e, hc⟩ := h.at (k := k) (by simpa [i64s] using hk)
  refine ⟨b, off, e, ?_⟩
  rw [hc]
  simp [i64s, atL, List.getElem?_eq_getElem hk]
theorem cells_two {w : World} {g o : Nat} {a b : Value} (h0 : w.cell? ⟨g, o, none⟩ = some a) (h1 : w.cell? ⟨g, o + 1, none⟩ = some b) : Cells w (some ⟨g, o, none⟩) [a, b] := fun _ => by
  refine ⟨g, o, rfl, fun i v hi => ?_⟩
  match i, hi with
  | 0, hi => simp at hi; subst hi; exact h0
  | 1, hi => simp at hi; subst hi; exact h1
  | i + 2, hi => simp at hi
/-- Two rows of the call's own that are not one. -/
def Apart (v v' : Value) : Prop := v.ownBlock = none ∨ v'.ownBlock = none ∨ v.ownBlock ≠ v'.ownBlock
theorem Apart.symm {v v' : Value} (h : Apart v v') : Apart v' v := by
  rcases h with h | h | h
  · exact .inr (.inl h)
  · exact .inl h
  · exact .inr (.inr fun e => h e.symm)
section
variable {P : Program}
/-- append(out, x), out a row of the call's own, and what becomes of all the others: the world behind it is a letter. -/
theorem wp_pushO {o : Oper} {a : Act} {K : Act → World → Prop} {Q : Exit → Act → World → Prop} (s x : Operand) (t : TypeId)
    (ho : o.op = .call { callee := .builtin .append, args := #[s, x], argTypes := #[t, t] })
    (e : TypeId) (i : TypeInfo) (z : Value) (size bytes : Nat) (ht : P.underlying t = some (.slice e)) (hi : P.info? e = some i) (hz : i.zero = some z)
    (hsize : i.size = size) (hby : i.bytes = bytes) (hzs : z.cells.size = size) (hsz : 0 < size)
    {w0 w : World} (hbel : Below w0.heap.size w0 w) (v : Value) (n : Nat) (xs : List Value) (hs : a.eval s = v) (hown : w.ownsRow w0.heap.size e size v n xs)
    (g0 : Nat) (news : Array Value) (hg0 : g0 = w.heap.size) (hx : a.eval x = .slice (some ⟨g0, 0, none⟩) 1 1) (hl : news.size = size) (h1 : ∀ u ∈ news.toList, u.oneCell' = true)
    (hbytes : (n + 1) * bytes ≤ 140737488355328) (hn : n + 1 ≤ maxLen)
    (h : ∀ (w1 : World) (g cap : Nat), Below w0.heap.size w0 w1 → w1.ownsRow w0.heap.size e size (.slice (some ⟨g, 0, none⟩) (n + 1) cap) (n + 1) (xs ++ news.toList) →
      (∀ b' e' s' v' n' xs', w.ownsRow b' e' s' v' n' xs' → Apart v' v → w1.ownsRow b' e' s' v' n' xs' ∧ Apart v' (.slice (some ⟨g, 0, none⟩) (n + 1) cap)) →
      K (a.put o.dst (.slice (some ⟨g, 0, none⟩) (n + 1) cap)) w1) :
    o.wp P a (w.alloc (.cells news e)) K Q := by
  subst hg0
  have hnews : ∀ j u, news.toList[j]? = some u → (w.alloc (.cells news e)).cell? ((⟨w.heap.size, 0, none⟩ : Addr).add j) = some u := by
    intro j u hj
    have : (⟨w.heap.size, 0, none⟩ : Addr).add j = ⟨w.heap.size, j, none⟩ := by unfold Addr.add; split <;> simp_all
    rw [this, World.cell?_alloc_new]
    simpa using hj
  obtain ⟨v', w', hrun, hown', hg, _, hat⟩ := run_append_own_at (P := P) (w := w.alloc (.cells news e)) w0.heap.size t o.type e i z size bytes ht hi hz hsize hby hzs hsz v n xs (hown.alloc _) ⟨w.heap.size, 0, none⟩ 1 1 news.toList (by simpa using hl) hnews h1 hn hbytes (by simp; have := hbel.size; omega)
  obtain ⟨g, cap, rfl, hge⟩ := own_succ hown' (by omega)
  have hb2 : Below w0.heap.size w0 w' := (hbel.alloc hbel.size _).grown hg (by simp; have := hbel.size; omega) (fun k hk => (hown.lt k hk).1)
  unfold Oper.wp execOp
  simp only [ho, resolve, invoke, builtin, Sem.run_bind, Sem.run_pure, Result.andThen_ok, List.map_toArray, List.map_cons, List.map_nil, hs, hx, hrun]
  refine h w' g cap hb2 hown' fun b' e' s' v' n' xs' ho' hap => ?_
  have hk : v'.ownBlock = none ∨ v'.ownBlock ≠ v.ownBlock := by
    rcases hap with h0 | h0 | h0
    · exact .inl h0
    · cases hv : v'.ownBlock with
      | none => exact .inl rfl
      | some k => rw [h0]; exact .inr (by simp)
    · exact .inr h0
  refine ⟨(ho'.alloc _).kept hg hk, ?_⟩
  rcases hk with h0 | h0
  · exact .inl h0
  · refine .inr (.inr ?_)
    rcases hat with h2 | h2
    · rw [h2]; exact h0
    · rw [h2]
      intro he
      have := (ho'.lt _ he).2
      rw [World.size_alloc] at this
      omega
theorem wpList_pushO {ops : Array Oper} {rest : List Oper} {o : Oper} {a : Act} {Q : Exit → Act → World → Prop} (hgd : o.guard = none) (s x : Operand) (t : TypeId)
    (ho : o.op = .call { callee := .builtin .append, args := #[s, x], argTypes := #[t, t] })
    (e : TypeId) (i : TypeInfo) (z : Value) (size bytes : Nat) (ht : P.underlying t = some (.slice e)) (hi : P.info? e = some i) (hz : i.zero = some z)
    (hsize : i.size = size) (hby : i.bytes = bytes) (hzs : z.cells.size = size) (hsz : 0 < size)
    {w0 w : World} (hbel : Below w0.heap.size w0 w) (v : Value) (n : Nat) (xs : List Value) (hs : a.eval s = v) (hown : w.ownsRow w0.heap.size e size v n xs)
    (g0 : Nat) (news : Array Value) (hg0 : g0 = w.heap.size) (hx : a.eval x = .slice (some ⟨g0, 0, none⟩) 1 1) (hl : news.size = size) (h1 : ∀ u ∈ news.toList, u.oneCell' = true)
    (hbytes : (n + 1) * bytes ≤ 140737488355328) (hn : n + 1 ≤ maxLen)
    (h : ∀ (w1 : World) (g cap : Nat), Below w0.heap.size w0 w1 → w1.ownsRow w0.heap.size e size (.slice (some ⟨g, 0, none⟩) (n + 1) cap) (n + 1) (xs ++ news.toList) →
      (∀ b' e' s' v' n' xs', w.ownsRow b' e' s' v' n' xs' → Apart v' v → w1.ownsRow b' e' s' v' n' xs' ∧ Apart v' (.slice (some ⟨g, 0, none⟩) (n + 1) cap)) →
      wpList P ops Q rest (a.put o.dst (.slice (some ⟨g, 0, none⟩) (n + 1) cap)) w1) :
    wpList P ops Q (o :: rest) a (w.alloc (.cells news e)) :=
  wpList_plain hgd fun _ hK => wp_pushO s x t ho e i z size bytes ht hi hz hsize hby hzs hsz hbel v n xs hs hown g0 news hg0 hx hl h1 hbytes hn fun w1 g cap h2 h3 h4 => hK _ _ (h w1 g cap h2 h3 h4)
theorem step_pushO {ops : Array Oper} {o : Oper} {a : Act} {K : Act → World → Prop} {Q : Exit → Act → World → Prop} {E : Prop} (hgd : o.guard = none) (s x : Operand) (t : TypeId)
    (ho : o.op = .call { callee := .builtin .append, args := #[s, x], argTypes := #[t, t] })
    (e : TypeId) (i : TypeInfo) (z : Value) (size bytes : Nat) (ht : P.underlying t = some (.slice e)) (hi : P.info? e = some i) (hz : i.zero = some z)
    (hsize : i.size = size) (hby : i.bytes = bytes) (hzs : z.cells.size = size) (hsz : 0 < size)
    {w0 w : World} (hbel : Below w0.heap.size w0 w) (v : Value) (n : Nat) (xs : List Value) (hs : a.eval s = v) (hown : w.ownsRow w0.heap.size e size v n xs)
    (g0 : Nat) (news : Array Value) (hg0 : g0 = w.heap.size) (hx : a.eval x = .slice (some ⟨g0, 0, none⟩) 1 1) (hl : news.size = size) (h1 : ∀ u ∈ news.toList, u.oneCell' = true)
    (hbytes : (n + 1) * bytes ≤ 140737488355328) (hn : n + 1 ≤ maxLen)
    (h : ∀ (w1 : World) (g cap : Nat), Below w0.heap.size w0 w1 → w1.ownsRow w0.heap.size e size (.slice (some ⟨g, 0, none⟩) (n + 1) cap) (n + 1) (xs ++ news.toList) →
      (∀ b' e' s' v' n' xs', w.ownsRow b' e' s' v' n' xs' → Apart v' v → w1.ownsRow b' e' s' v' n' xs' ∧ Apart v' (.slice (some ⟨g, 0, none⟩) (n + 1) cap)) →
      K (a.put o.dst (.slice (some ⟨g, 0, none⟩) (n + 1) cap)) w1) :
    if Region.wanted o (yielded ops a.tmps) = true then Oper.wp P o a (w.alloc (.cells news e)) K Q else E := by
  have hw : Region.wanted o (yielded ops a.tmps) = true := by simp [Region.wanted, hgd]
  rw [if_pos hw]
  exact wp_pushO s x t ho e i z size bytes ht hi hz hsize hby hzs hsz hbel v n xs hs hown g0 news hg0 hx hl h1 hbytes hn h
end
theorem apart_nil (v : Value) (n c : Nat) : Apart (.slice none n c) v := .inl rfl
section
variable {H : Type} {enc : TypeId × Value → H} {P : Program} {W : World}
theorem add_spot {a : Addr} {v : Value} {W : World} (h : W.cell? ((a.add 0).add 0) = some v) : a.spot = none := by
  obtain ⟨b, o, s⟩ := a
  cases s with
  | none => rfl
  | some s =>
    have e : ((⟨b, o, some s⟩ : Addr).add 0).add 0 = ⟨b, o, some s⟩ := by simp [Addr.add]
    rw [e] at h
    simp only [World.cell?] at h
    split at h
    · simp at h
    · cases h
theorem add_flat {a : Addr} (hs : a.spot = none) (i : Nat) : a.add i = ⟨a.block, a.off + i, none⟩ := by
  obtain ⟨b, o, s⟩ := a
  simp only at hs
  subst hs
  unfold Addr.add
  split <;> simp_all
/-- A slice of integers that came in. -/
theorem rd_ints_row {t e : TypeId} {k : IntKind} {v : Value} {K : Int → Prop} (h : Rd enc P W t [v]) (ht : P.underlying t = some (.slice e)) (he : P.underlying e = some (.int k)) (hc : P.cellsOf e = 1)
    (hK : ∀ x, (Lit.int k x).wf = true → K x) : ∃ (A : Option Addr) (c : Nat) (l : List Int), v = .slice A l.length c ∧ Cells W A (l.map (Value.int k)) ∧ (∀ x ∈ l, K x) ∧ l.length ≤ maxLen := by
  rcases h.slice ht with h | ⟨a, len, cap, hv, hl, hm, hi⟩
  · injection h with h _
    exact ⟨none, 0, [], h, Cells.nil _ _, (fun _ hx => by cases hx), Nat.zero_le _⟩
  · injection hv with hv _
    have hx : ∀ i, i < len → ∃ x, W.cell? ((a.add i).add 0) = some (.int k x) ∧ K x := by
      intro i hlt
      obtain ⟨ds, hd, hcell, hr⟩ := hi i (by omega)
      obtain ⟨x, ex, wx⟩ := Rd.int hr he
      refine ⟨x, ?_, hK x wx⟩
      have := hcell 0 (.int k x) (by rw [ex]; rfl)
      rwa [hc, Nat.mul_one] at this
    have hl2 : ∃ l : List Int, l.length = len ∧ ∀ i x, l[i]? = some x → W.cell? ((a.add i).add 0) = some (.int k x) ∧ K x := by
      clear hv hl hm hi
      induction len with
      | zero => exact ⟨[], rfl, fun i x h => by simp at h⟩
      | succ len ih =>
        obtain ⟨l, hl, h2⟩ := ih (fun i h => hx i (by omega))
        obtain ⟨x, h3, h4⟩ := hx len (by omega)
        refine ⟨l ++ [x], by simp [hl], fun i y hy => ?_⟩
        rw [List.getElem?_append] at hy
        split at hy
        · exact h2 i y hy
        · rename_i hge
          have : i = len := by
            have := (List.getElem?_eq_some_iff.1 hy).1
            simp at this
            omega
          subst this
          rw [hl, Nat.sub_self] at hy
          simp at hy
          subst hy
          exact ⟨h3, h4⟩
    obtain ⟨l, hll, h2⟩ := hl2
    refine ⟨some a, cap, l, by rw [hll]; exact hv, fun hne => ?_, fun x hx => ?_, by omega⟩
    · have h0 : 0 < l.length := by
        cases l with
        | nil => exact (hne rfl).elim
        | cons _ _ => simp
      have hs := add_spot (h2 0 l[0] (List.getElem?_eq_getElem h0)).1
      refine ⟨a.block, a.off, ?_, fun i v hi => ?_⟩
      · obtain ⟨b, o, s⟩ := a; simp only at hs; subst hs; rfl
      · rw [List.getElem?_map] at hi
        obtain ⟨x, hx, rfl⟩ := Option.map_eq_some_iff.1 hi
        have := (h2 i x hx).1
        rw [add_flat hs] at this
        rw [add_flat rfl] at this
        exact this
    · obtain ⟨i, hi⟩ := List.mem_iff_getElem?.1 hx
      exact (h2 i x hi).2
end
end Go
