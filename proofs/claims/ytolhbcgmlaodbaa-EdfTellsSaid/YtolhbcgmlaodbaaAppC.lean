/-
  append(s, x...), s a row of the call's own, x any slice whose cells are known: plain laws for the walk. No condition.
-/
import Derived.Test.YtolhbcgmlaodbaaLift
import Derived.OwnWalk
import Derived.Laws.OwnMore
import Derived.Maps.AppendAt
namespace Go
open Go.RowKit

/-- The cells from an address on: asked of nothing where there are none. -/
def Cells (w : World) (A : Option Addr) (xs : List Value) : Prop :=
  xs ≠ [] → ∃ b off : Nat, A = some ⟨b, off, none⟩ ∧ ∀ (i : Nat) (v : Value), xs[i]? = some v → w.cell? ⟨b, off + i, none⟩ = some v

section
variable {w w' : World} {A : Option Addr} {xs : List Value}
theorem Cells.nil (w : World) (A : Option Addr) : Cells w A [] := fun h => (h rfl).elim
theorem Cells.keep (h : Cells w A xs) (hk : ∀ a v, w.cell? a = some v → w'.cell? a = some v) : Cells w' A xs := fun hne => by
  obtain ⟨b, off, e, hc⟩ := h hne
  exact ⟨b, off, e, fun i v hi => hk _ _ (hc i v hi)⟩
theorem below_cell {B : Nat} (hb : Below B w w') (hB : w.heap.size ≤ B) (a : Addr) (v : Value) (h : w.cell? a = some v) : w'.cell? a = some v := by
  rw [hb.cell (by have := World.block_lt_of_cell? w a h; omega)]; exact h
theorem Cells.below (h : Cells w A xs) (hb : Below w.heap.size w w') : Cells w' A xs := h.keep (below_cell hb (Nat.le_refl _))
theorem Cells.past (h : Cells w A xs) (x : Past) : Cells (w.past x) A xs := h.below (w.below_past x)
theorem Cells.alloc (h : Cells w A xs) (o : Obj) : Cells (w.alloc o) A xs := h.below ((Below.refl _ _).alloc (Nat.le_refl _) o)
theorem Cells.drew (h : Cells w A xs) : Cells w.drew A xs := h
theorem Cells.drewN (h : Cells w A xs) (n : Nat) : Cells (w.drewN n) A xs := h
/-- A store into a block that was not there when the cells were asked for. -/
theorem Cells.setCell (h : Cells w A xs) {w0 : World} (h0 : Cells w0 A xs) {p : Addr} (hp : w0.heap.size ≤ p.block) (u : Value) : Cells (w.setCell p u) A xs := fun hne => by
  obtain ⟨b, off, e, hc⟩ := h hne
  obtain ⟨b', off', e', hc'⟩ := h0 hne
  rw [e] at e'
  injection e' with e'
  injection e' with e1 e2
  subst e1; subst e2
  refine ⟨b, off, e, fun i v hi => ?_⟩
  have hlt := World.block_lt_of_cell? w0 _ (hc' i v hi)
  rw [World.cell?_setCell_other w p _ u (fun e => by subst e; simp at hlt hp; omega)]
  exact hc i v hi
theorem Cells.at (h : Cells w A xs) {k : Nat} (hk : k < xs.length) : ∃ b off : Nat, A = some ⟨b, off, none⟩ ∧ w.cell? ⟨b, off + k, none⟩ = some xs[k] := by
  obtain ⟨b, off, e, hc⟩ := h (by intro e; subst e; simp at hk)
  exact ⟨b, off, e, hc k _ (List.getElem?_eq_getElem hk)⟩
theorem Cells.take (h : Cells w A xs) (k : Nat) : Cells w A (xs.take k) := fun hne => by
  obtain ⟨b, off, e, hc⟩ := h (by intro e; subst e; simp at hne)
  refine ⟨b, off, e, fun i v hi => hc i v ?_⟩
  rw [List.getElem?_take] at hi
  split at hi
  · exact hi
  · cases hi
theorem Cells.of_own {base : Nat} {e : TypeId} {size n cap : Nat} (h : w.ownsRow base e size (.slice A n cap) n xs) : Cells w A xs := fun hne => by
  rcases h.2 with ⟨hv, hn⟩ | ⟨g, cap', cur, hv, hb, hh, _⟩
  · exfalso
    subst hn
    have := h.1
    simp at this
    exact hne this
  · injection hv with hA _ _
    subst hA
    refine ⟨g, 0, rfl, fun i v hi => ?_⟩
    have := h.cells (g := g) rfl i v hi
    have ea : (⟨g, 0, none⟩ : Addr).add i = ⟨g, 0 + i, none⟩ := by unfold Addr.add; split <;> simp_all
    rw [ea] at this
    exact this
theorem own_shape {base : Nat} {e : TypeId} {size n : Nat} {v : Value} (h : w.ownsRow base e size v n xs) : ∃ A cap, v = .slice A n cap := by
  rcases h.2 with ⟨hv, hn⟩ | ⟨g, cap', cur, hv, _⟩
  · subst hn; exact ⟨none, 0, hv⟩
  · exact ⟨_, _, hv⟩
theorem own_succ {base : Nat} {e : TypeId} {size n : Nat} {v : Value} (h : w.ownsRow base e size v n xs) (hn : 0 < n) : ∃ g cap, v = .slice (some ⟨g, 0, none⟩) n cap ∧ base ≤ g := by
  rcases h.2 with ⟨_, hn'⟩ | ⟨g, cap', cur, hv, hb, _⟩
  · omega
  · exact ⟨g, cap', hv, hb⟩
theorem own_below {B base : Nat} {e : TypeId} {size n : Nat} {v : Value} (h : w.ownsRow base e size v n xs) (hb : Below B w w') (hB : w.heap.size ≤ B) : w'.ownsRow base e size v n xs := by
  refine ⟨h.1, ?_⟩
  rcases h.2 with h1 | ⟨g, cap, cur, hv, hg, hh, hr⟩
  · exact .inl h1
  · have hlt : g < w.heap.size := by
      rcases Nat.lt_or_ge g w.heap.size with h' | h'
      · exact h'
      · rw [Array.getElem?_eq_none h'] at hh; cases hh
    exact .inr ⟨g, cap, cur, hv, hg, by rw [hb.block g (by omega)]; exact hh, hr⟩
theorem own_past {base : Nat} {e : TypeId} {size n : Nat} {v : Value} (h : w.ownsRow base e size v n xs) (x : Past) : (w.past x).ownsRow base e size v n xs := own_below h (w.below_past x) (Nat.le_refl _)
theorem own_and {base : Nat} {e : TypeId} {size n : Nat} {v : Value} {x : Past} (h : (w.past x).ownsRow base e size v n xs) (y : Past) : (w.past (x.and y)).ownsRow base e size v n xs := by
  rw [← World.past_past]; exact own_past h y
theorem Cells.and {x : Past} (h : Cells (w.past x) A xs) (y : Past) : Cells (w.past (x.and y)) A xs := by
  rw [← World.past_past]; exact h.past y
theorem own_base {b' base : Nat} {e : TypeId} {size n : Nat} {v : Value} (h : w.ownsRow base e size v n xs) (hb : b' ≤ base) : w.ownsRow b' e size v n xs := by
  refine ⟨h.1, ?_⟩
  rcases h.2 with h1 | ⟨g, cap, cur, hv, hg, hr⟩
  · exact .inl h1
  · exact .inr ⟨g, cap, cur, hv, by omega, hr⟩
end

/-- It returns a row of its own, n elements, these cells; what lay there lies as it was. -/
def GivesOwn (e : TypeId) (size n : Nat) (xs : List Value) (w : World) (en : Ending) (w' : World) : Prop :=
  ∃ A cap, en = .returned (.slice A n cap) ∧ Below w.heap.size w w' ∧ w'.ownsRow w.heap.size e size (.slice A n cap) n xs

section
variable {P : Program}
/-- append(out, x), out a row of the call's own: it lies in what is new. -/
theorem wpList_push {ops : Array Oper} {rest : List Oper} {o : Oper} {a : Act} {Q : Exit → Act → World → Prop} (hgd : o.guard = none) (s x : Operand) (t : TypeId)
    (ho : o.op = .call { callee := .builtin .append, args := #[s, x], argTypes := #[t, t] })
    (e : TypeId) (i : TypeInfo) (z : Value) (size bytes : Nat) (ht : P.underlying t = some (.slice e)) (hi : P.info? e = some i) (hz : i.zero = some z)
    (hsize : i.size = size) (hby : i.bytes = bytes) (hzs : z.cells.size = size) (hsz : 0 < size)
    {w0 w : World} (hbel : Below w0.heap.size w0 w) (v : Value) (n : Nat) (xs : List Value) (hs : a.eval s = v) (hown : w.ownsRow w0.heap.size e size v n xs)
    (g0 : Nat) (news : Array Value) (hg0 : g0 = w.heap.size) (hx : a.eval x = .slice (some ⟨g0, 0, none⟩) 1 1) (hl : news.size = size) (h1 : ∀ u ∈ news.toList, u.oneCell' = true)
    (hbytes : (n + 1) * bytes ≤ 140737488355328) (hn : n + 1 ≤ maxLen)
    (h : ∀ (x1 : Past) (g cap : Nat), (w0.past x1).ownsRow w0.heap.size e size (.slice (some ⟨g, 0, none⟩) (n + 1) cap) (n + 1) (xs ++ news.toList) → wpList P ops Q rest (a.put o.dst (.slice (some ⟨g, 0, none⟩) (n + 1) cap)) (w0.past x1)) :
    wpList P ops Q (o :: rest) a (w.alloc (.cells news e)) := by
  subst hg0
  refine wpList_append_own _ hgd s x t ho w0.heap.size e i z size bytes ht hi hz hsize hby hzs hsz v n xs hs (hown.alloc _) ⟨w.heap.size, 0, none⟩ 1 1 news.toList hx (by simpa using hl) ?_ h1 hn hbytes (by simp; have := hbel.size; omega) ?_
  · intro j u hj
    have : (⟨w.heap.size, 0, none⟩ : Addr).add j = ⟨w.heap.size, j, none⟩ := by unfold Addr.add; split <;> simp_all
    rw [this, World.cell?_alloc_new]
    simpa using hj
  · intro v' w' hown' hg _
    obtain ⟨g, cap, rfl, hge⟩ := own_succ hown' (by omega)
    have hb2 : Below w0.heap.size w0 w' := (hbel.alloc hbel.size _).grown hg (by simp; have := hbel.size; omega) (fun k hk => (hown.lt k hk).1)
    obtain ⟨x1, rfl⟩ := past_of hb2
    exact h x1 g cap hown'
end

/-- A list of ints, as cells. -/
def i64s (l : List Int) : List Value := l.map (Value.int .i64)
theorem i64s_length (l : List Int) : (i64s l).length = l.length := by simp [i64s]
theorem i64s_snoc (l : List Int) (x : Int) : i64s l ++ [.int .i64 x] = i64s (l ++ [x]) := by simp [i64s]
def atL (l : List Int) (i : Nat) : Int := l[i]?.getD 0
theorem i64_at {w : World} {A : Option Addr} {l : List Int} (h : Cells w A (i64s l)) {k : Nat} (hk : k < l.length) : ∃ b off : Nat, A = some ⟨b, off, none⟩ ∧ w.cell? ⟨b, off + k, none⟩ = some (.int .i64 (atL l k)) := by
  obtain ⟨b, off, e, hc⟩ := h.at (k := k) (by simpa [i64s] using hk)
  refine ⟨b, off, e, ?_⟩
  rw [hc]
  simp [i64s, atL, List.getElem?_eq_getElem hk]
theorem cells_two {w : World} {g o : Nat} {a b : Value} (h0 : w.cell? ⟨g, o, none⟩ = some a) (h1 : w.cell? ⟨g, o + 1, none⟩ = some b) : Cells w (some ⟨g, o, none⟩) [a, b] := fun _ => by
  refine ⟨g, o, rfl, fun i v hi => ?_⟩
  match i, hi with
  | 0, hi => simp at hi; subst hi; exact h0
  | 1, hi => simp at hi; subst hi; exact h1
  | i + 2, hi => simp at hi
/-- Two rows of the call's own that are not one. -/
def Apart (v v' : Value) : Prop := v.ownBlock = none ∨ v'.ownBlock = none ∨ v.ownBlock ≠ v'.ownBlock
theorem Apart.symm {v v' : Value} (h : Apart v v') : Apart v' v := by
  rcases h with h | h | h
  · exact .inr (.inl h)
  · exact .inl h
  · exact .inr (.inr fun e => h e.symm)
section
variable {P : Program}
/-- append(out, x), out a row of the call's own, and what becomes of all the others: the world behind it is a letter. -/
theorem wp_pushO {o : Oper} {a : Act} {K : Act → World → Prop} {Q : Exit → Act → World → Prop} (s x : Operand) (t : TypeId)
    (ho : o.op = .call { callee := .builtin .append, args := #[s, x], argTypes := #[t, t] })
    (e : TypeId) (i : TypeInfo) (z : Value) (size bytes : Nat) (ht : P.underlying t = some (.slice e)) (hi : P.info? e = some i) (hz : i.zero = some z)
    (hsize : i.size = size) (hby : i.bytes = bytes) (hzs : z.cells.size = size) (hsz : 0 < size)
    {w0 w : World} (hbel : Below w0.heap.size w0 w) (v : Value) (n : Nat) (xs : List Value) (hs : a.eval s = v) (hown : w.ownsRow w0.heap.size e size v n xs)
    (g0 : Nat) (news : Array Value) (hg0 : g0 = w.heap.size) (hx : a.eval x = .slice (some ⟨g0, 0, none⟩) 1 1) (hl : news.size = size) (h1 : ∀ u ∈ news.toList, u.oneCell' = true)
    (hbytes : (n + 1) * bytes ≤ 140737488355328) (hn : n + 1 ≤ maxLen)
    (h : ∀ (w1 : World) (g cap : Nat), Below w0.heap.size w0 w1 → w1.ownsRow w0.heap.size e size (.slice (some ⟨g, 0, none⟩) (n + 1) cap) (n + 1) (xs ++ news.toList) →
      (∀ b' e' s' v' n' xs', w.ownsRow b' e' s' v' n' xs' → Apart v' v → w1.ownsRow b' e' s' v' n' xs' ∧ Apart v' (.slice (some ⟨g, 0, none⟩) (n + 1) cap)) →
      K (a.put o.dst (.slice (some ⟨g, 0, none⟩) (n + 1) cap)) w1) :
    o.wp P a (w.alloc (.cells news e)) K Q := by
  subst hg0
  have hnews : ∀ j u, news.toList[j]? = some u → (w.alloc (.cells news e)).cell? ((⟨w.heap.size, 0, none⟩ : Addr).add j) = some u := by
    intro j u hj
    have : (⟨w.heap.size, 0, none⟩ : Addr).add j = ⟨w.heap.size, j, none⟩ := by unfold Addr.add; split <;> simp_all
    rw [this, World.cell?_alloc_new]
    simpa using hj
  obtain ⟨v', w', hrun, hown', hg, _, hat⟩ := run_append_own_at (P := P) (w := w.alloc (.cells news e)) w0.heap.size t o.type e i z size bytes ht hi hz hsize hby hzs hsz v n xs (hown.alloc _) ⟨w.heap.size, 0, none⟩ 1 1 news.toList (by simpa using hl) hnews h1 hn hbytes (by simp; have := hbel.size; omega)
  obtain ⟨g, cap, rfl, hge⟩ := own_succ hown' (by omega)
  have hb2 : Below w0.heap.size w0 w' := (hbel.alloc hbel.size _).grown hg (by simp; have := hbel.size; omega) (fun k hk => (hown.lt k hk).1)
  unfold Oper.wp execOp
  simp only [ho, resolve, invoke, builtin, Sem.run_bind, Sem.run_pure, Result.andThen_ok, List.map_toArray, List.map_cons, List.map_nil, hs, hx, hrun]
  refine h w' g cap hb2 hown' fun b' e' s' v' n' xs' ho' hap => ?_
  have hk : v'.ownBlock = none ∨ v'.ownBlock ≠ v.ownBlock := by
    rcases hap with h0 | h0 | h0
    · exact .inl h0
    · cases hv : v'.ownBlock with
      | none => exact .inl rfl
      | some k => rw [h0]; exact .inr (by simp)
    · exact .inr h0
  refine ⟨(ho'.alloc _).kept hg hk, ?_⟩
  rcases hk with h0 | h0
  · exact .inl h0
  · refine .inr (.inr ?_)
    rcases hat with h2 | h2
    · rw [h2]; exact h0
    · rw [h2]
      intro he
      have := (ho'.lt _ he).2
      rw [World.size_alloc] at this
      omega
theorem wpList_pushO {ops : Array Oper} {rest : List Oper} {o : Oper} {a : Act} {Q : Exit → Act → World → Prop} (hgd : o.guard = none) (s x : Operand) (t : TypeId)
    (ho : o.op = .call { callee := .builtin .append, args := #[s, x], argTypes := #[t, t] })
    (e : TypeId) (i : TypeInfo) (z : Value) (size bytes : Nat) (ht : P.underlying t = some (.slice e)) (hi : P.info? e = some i) (hz : i.zero = some z)
    (hsize : i.size = size) (hby : i.bytes = bytes) (hzs : z.cells.size = size) (hsz : 0 < size)
    {w0 w : World} (hbel : Below w0.heap.size w0 w) (v : Value) (n : Nat) (xs : List Value) (hs : a.eval s = v) (hown : w.ownsRow w0.heap.size e size v n xs)
    (g0 : Nat) (news : Array Value) (hg0 : g0 = w.heap.size) (hx : a.eval x = .slice (some ⟨g0, 0, none⟩) 1 1) (hl : news.size = size) (h1 : ∀ u ∈ news.toList, u.oneCell' = true)
    (hbytes : (n + 1) * bytes ≤ 140737488355328) (hn : n + 1 ≤ maxLen)
    (h : ∀ (w1 : World) (g cap : Nat), Below w0.heap.size w0 w1 → w1.ownsRow w0.heap.size e size (.slice (some ⟨g, 0, none⟩) (n + 1) cap) (n + 1) (xs ++ news.toList) →
      (∀ b' e' s' v' n' xs', w.ownsRow b' e' s' v' n' xs' → Apart v' v → w1.ownsRow b' e' s' v' n' xs' ∧ Apart v' (.slice (some ⟨g, 0, none⟩) (n + 1) cap)) →
      wpList P ops Q rest (a.put o.dst (.slice (some ⟨g, 0, none⟩) (n + 1) cap)) w1) :
    wpList P ops Q (o :: rest) a (w.alloc (.cells news e)) :=
  wpList_plain hgd fun _ hK => wp_pushO s x t ho e i z size bytes ht hi hz hsize hby hzs hsz hbel v n xs hs hown g0 news hg0 hx hl h1 hbytes hn fun w1 g cap h2 h3 h4 => hK _ _ (h w1 g cap h2 h3 h4)
theorem step_pushO {ops : Array Oper} {o : Oper} {a : Act} {K : Act → World → Prop} {Q : Exit → Act → World → Prop} {E : Prop} (hgd : o.guard = none) (s x : Operand) (t : TypeId)
    (ho : o.op = .call { callee := .builtin .append, args := #[s, x], argTypes := #[t, t] })
    (e : TypeId) (i : TypeInfo) (z : Value) (size bytes : Nat) (ht : P.underlying t = some (.slice e)) (hi : P.info? e = some i) (hz : i.zero = some z)
    (hsize : i.size = size) (hby : i.bytes = bytes) (hzs : z.cells.size = size) (hsz : 0 < size)
    {w0 w : World} (hbel : Below w0.heap.size w0 w) (v : Value) (n : Nat) (xs : List Value) (hs : a.eval s = v) (hown : w.ownsRow w0.heap.size e size v n xs)
    (g0 : Nat) (news : Array Value) (hg0 : g0 = w.heap.size) (hx : a.eval x = .slice (some ⟨g0, 0, none⟩) 1 1) (hl : news.size = size) (h1 : ∀ u ∈ news.toList, u.oneCell' = true)
    (hbytes : (n + 1) * bytes ≤ 140737488355328) (hn : n + 1 ≤ maxLen)
    (h : ∀ (w1 : World) (g cap : Nat), Below w0.heap.size w0 w1 → w1.ownsRow w0.heap.size e size (.slice (some ⟨g, 0, none⟩) (n + 1) cap) (n + 1) (xs ++ news.toList) →
      (∀ b' e' s' v' n' xs', w.ownsRow b' e' s' v' n' xs' → Apart v' v → w1.ownsRow b' e' s' v' n' xs' ∧ Apart v' (.slice (some ⟨g, 0, none⟩) (n + 1) cap)) →
      K (a.put o.dst (.slice (some ⟨g, 0, none⟩) (n + 1) cap)) w1) :
    if Region.wanted o (yielded ops a.tmps) = true then Oper.wp P o a (w.alloc (.cells news e)) K Q else E := by
  have hw : Region.wanted o (yielded ops a.tmps) = true := by simp [Region.wanted, hgd]
  rw [if_pos hw]
  exact wp_pushO s x t ho e i z size bytes ht hi hz hsize hby hzs hsz hbel v n xs hs hown g0 news hg0 hx hl h1 hbytes hn h
end
theorem apart_nil (v : Value) (n c : Nat) : Apart (.slice none n c) v := .inl rfl
section
variable {H : Type} {enc : TypeId × Value → H} {P : Program} {W : World}
theorem add_spot {a : Addr} {v : Value} {W : World} (h : W.cell? ((a.add 0).add 0) = some v) : a.spot = none := by
  obtain ⟨b, o, s⟩ := a
  cases s with
  | none => rfl
  | some s =>
    have e : ((⟨b, o, some s⟩ : Addr).add 0).add 0 = ⟨b, o, some s⟩ := by simp [Addr.add]
    rw [e] at h
    simp only [World.cell?] at h
    split at h
    · simp at h
    · cases h
theorem add_flat {a : Addr} (hs : a.spot = none) (i : Nat) : a.add i = ⟨a.block, a.off + i, none⟩ := by
  obtain ⟨b, o, s⟩ := a
  simp only at hs
  subst hs
  unfold Addr.add
  split <;> simp_all
/-- A slice of integers that came in. -/
theorem rd_ints_row {t e : TypeId} {k : IntKind} {v : Value} {K : Int → Prop} (h : Rd enc P W t [v]) (ht : P.underlying t = some (.slice e)) (he : P.underlying e = some (.int k)) (hc : P.cellsOf e = 1)
    (hK : ∀ x, (Lit.int k x).wf = true → K x) : ∃ (A : Option Addr) (c : Nat) (l : List Int), v = .slice A l.length c ∧ Cells W A (l.map (Value.int k)) ∧ (∀ x ∈ l, K x) ∧ l.length ≤ maxLen := by
  rcases h.slice ht with h | ⟨a, len, cap, hv, hl, hm, hi⟩
  · injection h with h _
    exact ⟨none, 0, [], h, Cells.nil _ _, (fun _ hx => by cases hx), Nat.zero_le _⟩
  · injection hv with hv _
    have hx : ∀ i, i < len → ∃ x, W.cell? ((a.add i).add 0) = some (.int k x) ∧ K x := by
      intro i hlt
      obtain ⟨ds, hd, hcell, hr⟩ := hi i (by omega)
      obtain ⟨x, ex, wx⟩ := Rd.int hr he
      refine ⟨x, ?_, hK x wx⟩
      have := hcell 0 (.int k x) (by rw [ex]; rfl)
      rwa [hc, Nat.mul_one] at this
    have hl2 : ∃ l : List Int, l.length = len ∧ ∀ i x, l[i]? = some x → W.cell? ((a.add i).add 0) = some (.int k x) ∧ K x := by
      clear hv hl hm hi
      induction len with
      | zero => exact ⟨[], rfl, fun i x h => by simp at h⟩
      | succ len ih =>
        obtain ⟨l, hl, h2⟩ := ih (fun i h => hx i (by omega))
        obtain ⟨x, h3, h4⟩ := hx len (by omega)
        refine ⟨l ++ [x], by simp [hl], fun i y hy => ?_⟩
        rw [List.getElem?_append] at hy
        split at hy
        · exact h2 i y hy
        · rename_i hge
          have : i = len := by
            have := (List.getElem?_eq_some_iff.1 hy).1
            simp at this
            omega
          subst this
          rw [hl, Nat.sub_self] at hy
          simp at hy
          subst hy
          exact ⟨h3, h4⟩
    obtain ⟨l, hll, h2⟩ := hl2
    refine ⟨some a, cap, l, by rw [hll]; exact hv, fun hne => ?_, fun x hx => ?_, by omega⟩
    · have h0 : 0 < l.length := by
        cases l with
        | nil => exact (hne rfl).elim
        | cons _ _ => simp
      have hs := add_spot (h2 0 l[0] (List.getElem?_eq_getElem h0)).1
      refine ⟨a.block, a.off, ?_, fun i v hi => ?_⟩
      · obtain ⟨b, o, s⟩ := a; simp only at hs; subst hs; rfl
      · rw [List.getElem?_map] at hi
        obtain ⟨x, hx, rfl⟩ := Option.map_eq_some_iff.1 hi
        have := (h2 i x hx).1
        rw [add_flat hs] at this
        rw [add_flat rfl] at this
        exact this
    · obtain ⟨i, hi⟩ := List.mem_iff_getElem?.1 hx
      exact (h2 i x hi).2
end
end Go
namespace Go
open Go.RowKit
/-- The cells of a list, an element's behind the other's. -/
def tab {α : Type} (f : α → List Value) (l : List α) : List Value := l.flatMap f
theorem tab_snoc {α : Type} (f : α → List Value) (l : List α) (x : α) : tab f l ++ f x = tab f (l ++ [x]) := by simp [tab]
theorem tab_nil {α : Type} (f : α → List Value) : tab f [] = [] := rfl
theorem tab_length {α : Type} {f : α → List Value} {c : Nat} (hf : ∀ x, (f x).length = c) : ∀ l : List α, (tab f l).length = l.length * c := by
  intro l
  induction l with
  | nil => simp [tab]
  | cons x l ih =>
    have : tab f (x :: l) = f x ++ tab f l := by simp [tab]
    rw [this, List.length_append, ih, hf, List.length_cons, Nat.add_mul]
    omega
theorem tab_get {α : Type} {f : α → List Value} {c : Nat} (hf : ∀ x, (f x).length = c) : ∀ (l : List α) (k : Nat) (x : α) (j : Nat), l[k]? = some x → j < c → (tab f l)[k * c + j]? = (f x)[j]? := by
  intro l
  induction l with
  | nil => intro k x j h; simp at h
  | cons y l ih =>
    intro k x j h hj
    have e : tab f (y :: l) = f y ++ tab f l := by simp [tab]
    rw [e]
    cases k with
    | zero =>
      simp at h
      subst h
      rw [List.getElem?_append_left (by rw [hf]; omega)]
      simp
    | succ k =>
      rw [List.getElem?_append_right (by rw [hf, Nat.add_mul]; omega), hf]
      have := ih k x j (by simpa using h) hj
      rw [show (k + 1) * c + j - c = k * c + j by rw [Nat.add_mul]; omega]
      exact this
theorem Cells.tab_at {α : Type} {f : α → List Value} {c : Nat} (hf : ∀ x, (f x).length = c) {w : World} {A : Option Addr} {l : List α} (h : Cells w A (tab f l)) {k : Nat} {x : α} (hk : l[k]? = some x) (hc : 0 < c) :
    ∃ b off : Nat, A = some ⟨b, off, none⟩ ∧ ∀ j v, (f x)[j]? = some v → w.cell? ⟨b, off + k * c + j, none⟩ = some v := by
  have hlt := (List.getElem?_eq_some_iff.1 hk).1
  have hl := tab_length hf l
  have h2 : (k + 1) * c ≤ l.length * c := Nat.mul_le_mul_right _ hlt
  obtain ⟨b, off, e, hcell⟩ := h (by intro e; rw [e] at hl; simp at hl; rw [← hl] at h2; rw [Nat.add_mul] at h2; omega)
  refine ⟨b, off, e, fun j v hj => ?_⟩
  have hjc : j < c := by rw [← hf x]; exact (List.getElem?_eq_some_iff.1 hj).1
  have := hcell (k * c + j) v (by rw [tab_get hf l k x j hk hjc]; exact hj)
  rw [← Nat.add_assoc] at this
  exact this
section
variable {H : Type} {enc : TypeId × Value → H} {P : Program} {W : World}
theorem rd_tabC {α : Type} {f : α → List Value} {c : Nat} {K : α → Prop} (hf : ∀ x, (f x).length = c) (hc0 : 0 < c) {t e : TypeId} {v : Value} (h : Rd enc P W t [v]) (ht : P.underlying t = some (.slice e)) (hc : P.cellsOf e = c)
    (hdec : ∀ cs : List Value, Rd enc P W e cs → ∃ x, cs = f x ∧ K x) : ∃ (A : Option Addr) (cap : Nat) (l : List α), v = .slice A l.length cap ∧ Cells W A (tab f l) ∧ (∀ x ∈ l, K x) ∧ l.length ≤ maxLen ∧ l.length ≤ cap := by
  rcases h.slice ht with h | ⟨a, len, cap, hv, hl, hm, hi⟩
  · injection h with h _
    exact ⟨none, 0, [], h, Cells.nil _ _, (fun _ hx => by cases hx), Nat.zero_le _, Nat.le_refl _⟩
  · injection hv with hv _
    have hx : ∀ i, i < len → ∃ x, K x ∧ ∀ j u, (f x)[j]? = some u → W.cell? ((a.add (i * c)).add j) = some u := by
      intro i hlt
      obtain ⟨ds, hd, hcell, hr⟩ := hi i (by omega)
      obtain ⟨x, ex, kx⟩ := hdec ds hr
      subst ex
      rw [hc] at hcell
      exact ⟨x, kx, hcell⟩
    have hl2 : ∃ l : List α, l.length = len ∧ ∀ i x, l[i]? = some x → K x ∧ ∀ j u, (f x)[j]? = some u → W.cell? ((a.add (i * c)).add j) = some u := by
      clear hv hl hm hi
      induction len with
      | zero => exact ⟨[], rfl, fun i x h => by simp at h⟩
      | succ len ih =>
        obtain ⟨l, hl, h2⟩ := ih (fun i h => hx i (by omega))
        obtain ⟨x, h3, h4⟩ := hx len (by omega)
        refine ⟨l ++ [x], by simp [hl], fun i y hy => ?_⟩
        rw [List.getElem?_append] at hy
        split at hy
        · exact h2 i y hy
        · rename_i hge
          have : i = len := by
            have := (List.getElem?_eq_some_iff.1 hy).1
            simp at this
            omega
          subst this
          rw [hl, Nat.sub_self] at hy
          simp at hy
          subst hy
          exact ⟨h3, h4⟩
    obtain ⟨l, hll, h2⟩ := hl2
    refine ⟨some a, cap, l, by rw [hll]; exact hv, fun hne => ?_, fun x hx => ?_, by omega, by omega⟩
    · have h0 : 0 < l.length := by
        cases l with
        | nil => exact (hne rfl).elim
        | cons _ _ => simp
      obtain ⟨x0, hx0⟩ : ∃ x0, l[0]? = some x0 := ⟨_, List.getElem?_eq_getElem h0⟩
      obtain ⟨u, hu⟩ : ∃ u, (f x0)[0]? = some u := ⟨_, List.getElem?_eq_getElem (by rw [hf]; exact hc0)⟩
      have h00 := (h2 0 x0 hx0).2 0 u hu
      rw [Nat.zero_mul] at h00
      have hs := add_spot h00
      refine ⟨a.block, a.off, ?_, fun i v hi => ?_⟩
      · obtain ⟨b, o, s⟩ := a; simp only at hs; subst hs; rfl
      · have hilt := (List.getElem?_eq_some_iff.1 hi).1
        rw [tab_length hf] at hilt
        have hk : i / c < l.length := by rw [Nat.div_lt_iff_lt_mul hc0]; exact hilt
        have hx2 := h2 (i / c) _ (List.getElem?_eq_getElem hk)
        have hg := tab_get hf l (i / c) _ (i % c) (List.getElem?_eq_getElem hk) (Nat.mod_lt _ hc0)
        have ei : i / c * c + i % c = i := by rw [Nat.mul_comm]; exact Nat.div_add_mod i c
        rw [ei, hi] at hg
        have := hx2.2 (i % c) v hg.symm
        rw [add_flat hs, add_flat rfl] at this
        simp only at this
        rw [Nat.add_assoc, ei] at this
        exact this
    · obtain ⟨i, hi⟩ := List.mem_iff_getElem?.1 hx
      exact (h2 i x hi).1
theorem rd_tab {α : Type} {f : α → List Value} {c : Nat} {K : α → Prop} (hf : ∀ x, (f x).length = c) (hc0 : 0 < c) {t e : TypeId} {v : Value} (h : Rd enc P W t [v]) (ht : P.underlying t = some (.slice e)) (hc : P.cellsOf e = c)
    (hdec : ∀ cs : List Value, Rd enc P W e cs → ∃ x, cs = f x ∧ K x) : ∃ (A : Option Addr) (cap : Nat) (l : List α), v = .slice A l.length cap ∧ Cells W A (tab f l) ∧ (∀ x ∈ l, K x) ∧ l.length ≤ maxLen := by
  obtain ⟨A, cap, l, h1, h2, h3, h4, _⟩ := rd_tabC hf hc0 h ht hc hdec
  exact ⟨A, cap, l, h1, h2, h3, h4⟩
end
/-- Pairs of ints. -/
def pairI (x : Int × Int) : List Value := [.int .i64 x.1, .int .i64 x.2]
theorem pairI_length (x : Int × Int) : (pairI x).length = 2 := rfl
end Go
namespace Go
open Go.RowKit
/-- All blocks that were there are as they were, but for those of F. -/
structure Kept (F : Nat → Prop) (w w' : World) : Prop where
  os : w'.os = w.os
  tape : w'.tape = w.tape
  output : w'.output = w.output
  size : w.heap.size ≤ w'.heap.size
  block : ∀ k, k < w.heap.size → ¬ F k → w'.heap[k]? = w.heap[k]?
/-- A block that is just these cells. -/
def Rec (w : World) (g : Nat) (t : TypeId) (cs : Array Value) : Prop := w.heap[g]? = some (.cells cs t (0, 0))
section
variable {F G : Nat → Prop} {w w' w'' : World} {g : Nat} {t : TypeId} {cs : Array Value}
theorem Kept.refl (F : Nat → Prop) (w : World) : Kept F w w := ⟨rfl, rfl, rfl, Nat.le_refl _, fun _ _ _ => rfl⟩
theorem Kept.trans (h : Kept F w w') (k : Kept F w' w'') : Kept F w w'' :=
  ⟨k.os.trans h.os, k.tape.trans h.tape, k.output.trans h.output, Nat.le_trans h.size k.size, fun i hi hn => (k.block i (Nat.lt_of_lt_of_le hi h.size) hn).trans (h.block i hi hn)⟩
/-- What comes later may also touch what is new. -/
theorem Kept.trans' (h : Kept F w w') (k : Kept G w' w'') (hg : ∀ i, i < w.heap.size → G i → F i) : Kept F w w'' :=
  ⟨k.os.trans h.os, k.tape.trans h.tape, k.output.trans h.output, Nat.le_trans h.size k.size, fun i hi hn => (k.block i (Nat.lt_of_lt_of_le hi h.size) (fun c => hn (hg i hi c))).trans (h.block i hi hn)⟩
theorem Kept.mono (h : Kept F w w') (hf : ∀ k, k < w.heap.size → F k → G k) : Kept G w w' := ⟨h.os, h.tape, h.output, h.size, fun k hk hn => h.block k hk (fun c => hn (hf k hk c))⟩
theorem Kept.of_below (h : Below w.heap.size w w') (F : Nat → Prop) : Kept F w w' := ⟨h.os, h.tape, h.output, h.size, fun k hk _ => h.block k hk⟩
theorem Kept.to_below {B : Nat} {a : World} (h : Kept F w w') (hb : Below B a w) (hB : B ≤ w.heap.size) (hf : ∀ k, F k → B ≤ k) : Below B a w' :=
  hb.trans ⟨h.os, h.tape, h.output, h.size, fun k hk => h.block k (by omega) (fun c => by have := hf k c; omega)⟩
theorem Kept.past (h : Kept F w w') (x : Past) : Kept F w (w'.past x) := h.trans (Kept.of_below (w'.below_past x) F)
theorem Kept.alloc (h : Kept F w w') (o : Obj) : Kept F w (w'.alloc o) := h.trans (Kept.of_below ((Below.refl _ _).alloc (Nat.le_refl _) o) F)
theorem Kept.drew (h : Kept F w w') : Kept F w w'.drew := ⟨h.os, h.tape, h.output, h.size, h.block⟩
theorem Kept.setCell (h : Kept F w w') {p : Addr} (hp : w.heap.size ≤ p.block ∨ F p.block) (u : Value) : Kept F w (w'.setCell p u) :=
  ⟨h.os, h.tape, h.output, by simpa [World.setCell] using h.size, fun k hk hn => by
    rw [heap_setCell_other w' p k u (fun e => by subst e; rcases hp with hp | hp; omega; exact hn hp)]
    exact h.block k hk hn⟩
theorem Kept.cell (h : Kept F w w') {a : Addr} {v : Value} (hc : w.cell? a = some v) (hn : ¬ F a.block) : w'.cell? a = some v := by
  rw [World.cell?_of_block (h.block a.block (World.block_lt_of_cell? w a hc) hn)]; exact hc
theorem Rec.lt (h : Rec w g t cs) : g < w.heap.size := by
  rcases Nat.lt_or_ge g w.heap.size with h' | h'
  · exact h'
  · unfold Rec at h; rw [Array.getElem?_eq_none h'] at h; cases h
theorem Rec.kept (h : Rec w g t cs) (hk : Kept F w w') (hn : ¬ F g) : Rec w' g t cs := (hk.block g h.lt hn).trans h
theorem Rec.below {B : Nat} (h : Rec w g t cs) (hb : Below B w w') (hB : w.heap.size ≤ B) : Rec w' g t cs := (hb.block g (Nat.lt_of_lt_of_le h.lt hB)).trans h
theorem Rec.past (h : Rec w g t cs) (x : Past) : Rec (w.past x) g t cs := h.below (w.below_past x) (Nat.le_refl _)
theorem Rec.alloc (h : Rec w g t cs) (o : Obj) : Rec (w.alloc o) g t cs := h.below ((Below.refl _ w).alloc (Nat.le_refl _) o) (Nat.le_refl _)
theorem Rec.drew (h : Rec w g t cs) : Rec w.drew g t cs := h
theorem Rec.cell (h : Rec w g t cs) (i : Nat) : w.cell? ⟨g, i, none⟩ = cs[i]? := cell_of_row w g i cs t (0, 0) h
theorem Rec.frozen (h : Rec w g t cs) (i : Nat) : w.frozen? ⟨g, i, none⟩ = false := frozen_of_row w g i cs t h
theorem Rec.set (h : Rec w g t cs) (i : Nat) (u : Value) : Rec (w.setCell ⟨g, i, none⟩ u) g t (cs.setIfInBounds i u) := heap_setCell_same w g i cs t u h
theorem Rec.set_other (h : Rec w g t cs) {p : Addr} (hp : p.block ≠ g) (u : Value) : Rec (w.setCell p u) g t cs := (heap_setCell_other w p g u (fun e => hp e.symm)).trans h
theorem Rec.new (w : World) (t : TypeId) (cs : Array Value) : Rec (w.alloc (.cells cs t)) w.heap.size t cs := heap_alloc_new w _
end
end Go
namespace Go
open Go.RowKit
theorem own_cut {w : World} {B : Nat} {e : TypeId} {s n c m : Nat} {a : Option Addr} {xs : List Value} (h : w.ownsRow B e s (.slice a n c) n xs) (hm : m ≤ n) : w.ownsRow B e s (.slice a m c) m (xs.take (m * s)) := by
  refine ⟨by rw [List.length_take, h.1, Nat.min_eq_left (Nat.mul_le_mul_right _ hm)], ?_⟩
  rcases h.2 with ⟨h0, h1⟩ | ⟨g, cap, cur, hv, hg, hh, hn, hc, hcs, ht⟩
  · injection h0 with e1 e2 e3
    subst e1 e2 e3
    have : m = 0 := by omega
    subst this
    exact .inl ⟨rfl, rfl⟩
  · injection hv with e1 e2 e3
    subst e1 e3
    exact .inr ⟨g, c, cur, rfl, hg, hh, by omega, hc, hcs, by rw [← ht, List.take_take, Nat.min_eq_left (Nat.mul_le_mul_right _ hm)]⟩
theorem own_cap {w : World} {B : Nat} {e : TypeId} {s n c : Nat} {a : Option Addr} {xs : List Value} (h : w.ownsRow B e s (.slice a n c) n xs) : n ≤ c := by
  rcases h.2 with ⟨h0, h1⟩ | ⟨g, cap, cur, hv, hg, hh, hn, hc, hcs, ht⟩
  · injection h0 with e1 e2 e3; omega
  · injection hv with e1 e2 e3; omega
theorem tab_take {α : Type} {f : α → List Value} {c : Nat} (hf : ∀ x, (f x).length = c) : ∀ (l : List α) (m : Nat), (tab f l).take (m * c) = tab f (l.take m)
  | [], m => by simp [tab]
  | x :: l, 0 => by simp [tab]
  | x :: l, m + 1 => by
    have e : tab f (x :: l) = f x ++ tab f l := rfl
    have e2 : tab f ((x :: l).take (m + 1)) = f x ++ tab f (l.take m) := rfl
    rw [e, e2, ← tab_take hf l m, List.take_append, hf, List.take_of_length_le (by rw [hf, Nat.add_mul]; omega)]
    congr 2
    rw [Nat.add_mul]; omega
end Go
namespace Go
open Go.RowKit
abbrev Ob := World → (Nat → Prop) → Prop
/-- An object: its blocks lie from B on; it stays as long as these do. -/
structure IsO (B : Nat) (O : Ob) : Prop where
  kept : ∀ {W W' : World} {F X : Nat → Prop}, O W F → Kept X W W' → (∀ k, F k → ¬ X k) → O W' F
  foot : ∀ {W : World} {F : Nat → Prop} {k : Nat}, O W F → F k → B ≤ k ∧ k < W.heap.size
/-- Behind an act on it. -/
def After (O : Ob) (F : Nat → Prop) (W W' : World) : Prop := ∃ F', O W' F' ∧ (∀ k, F' k → F k ∨ W.heap.size ≤ k) ∧ Kept F W W'
/-- One act behind the other. -/
theorem After.next {O : Ob} {F F1 : Nat → Prop} {W W1 W2 : World} (h1 : ∀ k, F1 k → F k ∨ W.heap.size ≤ k) (h2 : Kept F W W1) (h : After O F1 W1 W2) : After O F W W2 := by
  obtain ⟨F', a, b, c⟩ := h
  have hs := h2.size
  refine ⟨F', a, fun k hk => ?_, h2.trans' c (fun i hi hF => ?_)⟩
  · rcases b k hk with e | e
    · exact h1 k e
    · exact .inr (Nat.le_trans hs e)
  · rcases h1 i hF with e | e
    · exact e
    · omega
def Pr (O1 O2 : Ob) : Ob := fun W F => ∃ F1 F2, O1 W F1 ∧ O2 W F2 ∧ (∀ k, F1 k → ¬ F2 k) ∧ ∀ k, F k ↔ F1 k ∨ F2 k
section
variable {P : Program} {B : Nat} {O O' O1 O2 O1' O2' : Ob} {W W' w8 : World} {F X : Nat → Prop} {fn : FuncId} {args : Array Value} {r : Value}
theorem IsO.far (h : IsO B O) (hO : O W F) (hb : Below W.heap.size W W') : O W' F := h.kept hO (Kept.of_below hb (fun _ => False)) (fun _ _ h => h)
theorem Pr.isO (h1 : IsO B O1) (h2 : IsO B O2) : IsO B (Pr O1 O2) :=
  ⟨fun ⟨F1, F2, a1, a2, a3, a4⟩ hk hX => ⟨F1, F2, h1.kept a1 hk (fun k h => hX k ((a4 k).2 (.inl h))), h2.kept a2 hk (fun k h => hX k ((a4 k).2 (.inr h))), a3, a4⟩,
   fun ⟨F1, F2, a1, a2, a3, a4⟩ hF => by
    rcases (a4 _).1 hF with h | h
    · exact h1.foot a1 h
    · exact h2.foot a2 h⟩
theorem Pr.swap (h : Pr O1 O2 W F) : Pr O2 O1 W F := by
  obtain ⟨F1, F2, a1, a2, a3, a4⟩ := h
  exact ⟨F2, F1, a2, a1, fun k x y => a3 k y x, fun k => (a4 k).trans Or.comm⟩
theorem After.swap (h : After (Pr O1 O2) F W W') : After (Pr O2 O1) F W W' := by
  obtain ⟨F', a, b, c⟩ := h
  exact ⟨F', a.swap, b, c⟩
theorem Pr.act1 (h2 : IsO B O2) (h : Pr O1 O2 W F) (hc : ∀ F1, O1 W F1 → Calls P fn args W (fun e w' => e = .returned r ∧ After O1' F1 W w')) :
    Calls P fn args W (fun e w' => e = .returned r ∧ After (Pr O1' O2) F W w') := by
  obtain ⟨F1, F2, a1, a2, a3, a4⟩ := h
  refine (hc F1 a1).mono ?_
  rintro _ w' ⟨rfl, F1', b1, b2, b3⟩
  refine ⟨rfl, fun k => F1' k ∨ F2 k, ⟨F1', F2, b1, h2.kept a2 b3 (fun k x y => a3 k y x), fun k x y => ?_, fun k => Iff.rfl⟩, fun k hk => ?_, b3.mono (fun k _ h => (a4 k).2 (.inl h))⟩
  · rcases b2 k x with h | h
    · exact a3 k h y
    · have := (h2.foot a2 y).2; omega
  · rcases hk with hk | hk
    · exact (b2 k hk).imp (fun h => (a4 k).2 (.inl h)) id
    · exact .inl ((a4 k).2 (.inr hk))
theorem Pr.act2 (h1 : IsO B O1) (h : Pr O1 O2 W F) (hc : ∀ F2, O2 W F2 → Calls P fn args W (fun e w' => e = .returned r ∧ After O2' F2 W w')) :
    Calls P fn args W (fun e w' => e = .returned r ∧ After (Pr O1 O2') F W w') :=
  (Pr.act1 h1 h.swap hc).mono fun _ _ g => ⟨g.1, g.2.swap⟩
/-- The object, and all else that lay there. -/
structure Kp (B : Nat) (O : Ob) (X : Nat → Prop) (w8 W : World) : Prop where
  sz : B ≤ w8.heap.size
  kp : Kept X w8 W
  ex : ∃ F, O W F ∧ ∀ k, F k → X k ∨ w8.heap.size ≤ k
theorem Kp.size (h : Kp B O X w8 W) : B ≤ W.heap.size := Nat.le_trans h.sz h.kp.size
theorem Kp.far (hO : IsO B O) (h : Kp B O X w8 W) (hb : Below W.heap.size W W') : Kp B O X w8 W' := by
  obtain ⟨F, a, b⟩ := h.ex
  exact ⟨h.sz, h.kp.trans (Kept.of_below hb X), F, hO.far a hb, b⟩
theorem Kp.act (h : Kp B O X w8 W) (hc : ∀ F, O W F → Calls P fn args W (fun e w' => e = .returned r ∧ After O' F W w')) :
    Calls P fn args W (fun e w' => e = .returned r ∧ Kp B O' X w8 w') := by
  obtain ⟨F, a, b⟩ := h.ex
  refine (hc F a).mono ?_
  rintro _ w' ⟨rfl, F', b1, b2, b3⟩
  have hs := h.kp.size
  refine ⟨rfl, h.sz, h.kp.trans' b3 (fun i hi hF => ?_), F', b1, fun k hk => ?_⟩
  · rcases b i hF with g | g
    · exact g
    · omega
  · rcases b2 k hk with g | g
    · exact b k g
    · exact .inr (Nat.le_trans hs g)
/-- From here on, and back. -/
theorem Kp.re (hO : IsO B O) (h : Kp B O X w8 W) (hb : Below W.heap.size W W') : ∃ F : Nat → Prop, (∀ k, F k → (X k ∨ w8.heap.size ≤ k) ∧ B ≤ k ∧ k < W.heap.size) ∧ Kp B O F W' W' ∧ ∀ O' W'', Kp B O' F W' W'' → Kp B O' X w8 W'' := by
  obtain ⟨F, a, b⟩ := h.ex
  have hs := h.kp.size
  have hs2 := hb.size
  refine ⟨F, fun k hk => ⟨b k hk, hO.foot a hk⟩, ⟨Nat.le_trans h.size hs2, Kept.refl _ _, F, hO.far a hb, fun k hk => .inl hk⟩, fun O' W'' g => ?_⟩
  obtain ⟨F', c, d⟩ := g.ex
  refine ⟨h.sz, (h.kp.trans (Kept.of_below hb X)).trans' g.kp (fun i hi hF => ?_), F', c, fun k hk => ?_⟩
  · rcases b i hF with e | e
    · exact e
    · omega
  · rcases d k hk with e | e
    · exact b k e
    · exact .inr (by omega)
theorem Kp.map {O' : Ob} (h : Kp B O X w8 W) (hm : ∀ F, O W F → O' W F) : Kp B O' X w8 W := by
  obtain ⟨F, a, b⟩ := h.ex
  exact ⟨h.sz, h.kp, F, hm F a, b⟩
end
end Go
namespace Go
open Go.RowKit
theorem Cells.drop {w : World} {b off : Nat} {xs : List Value} (h : Cells w (some ⟨b, off, none⟩) xs) (j : Nat) : Cells w (some ⟨b, off + j, none⟩) (xs.drop j) := fun hne => by
  obtain ⟨b', off', e, hc⟩ := h (by intro e; subst e; simp at hne)
  injection e with e
  injection e with e1 e2
  subst e1; subst e2
  refine ⟨b, off + j, rfl, fun i v hi => ?_⟩
  rw [List.getElem?_drop] at hi
  have := hc (j + i) v hi
  rwa [← Nat.add_assoc] at this
theorem own_fits {w : World} {base : Nat} {e : TypeId} {size n c : Nat} {A : Option Addr} {xs : List Value} (h : w.ownsRow base e size (.slice A n c) n xs) : n ≤ c := by
  rcases h.2 with ⟨hv, _⟩ | ⟨g', cap', cur, hv, _, _, hnc, _⟩
  · injection hv with _ e2 e3
    omega
  · injection hv with _ _ e3
    subst e3
    exact hnc
section
variable {P : Program}
theorem run_append_none (w : World) (base : Nat) (t ty e : TypeId) (i : TypeInfo) (size : Nat) (ht : P.underlying t = some (.slice e)) (hi : P.info? e = some i)
    (v : Value) (n : Nat) (xs : List Value) (hown : w.ownsRow base e size v n xs) (X : Option Addr) (c : Nat) :
    (Builtin.append_ #[t, t] ty #[v, .slice X 0 c]).run P w = .ok v w := by
  have hf : (Builtin.firstCells i.size 0 (.slice X 0 c)).run P w = .ok #[] w := by
    cases X with
    | none => simp [Builtin.firstCells]
    | some a => simp [Builtin.firstCells, loadCells, loadCellsFrom]
  rcases hown.2 with ⟨rfl, rfl⟩ | ⟨g, cap, cur, rfl, hbg, hg, hnc, hcm, hcs, htake⟩
  · simp [Builtin.append_, run_underlying ht, sizeOf, typeInfo, hi, Builtin.lenOf, hf]
  · simp [Builtin.append_, run_underlying ht, sizeOf, typeInfo, hi, Builtin.lenOf, hf, hnc, storeCells]
theorem wpList_appendC {ops : Array Oper} {rest : List Oper} {o : Oper} {a : Act} {Q : Exit → Act → World → Prop} (hgd : o.guard = none) (s x : Operand) (t : TypeId)
    (ho : o.op = .call { callee := .builtin .append, args := #[s, x], argTypes := #[t, t] })
    (e : TypeId) (i : TypeInfo) (z : Value) (size bytes : Nat) (ht : P.underlying t = some (.slice e)) (hi : P.info? e = some i) (hz : i.zero = some z)
    (hsize : i.size = size) (hby : i.bytes = bytes) (hzs : z.cells.size = size) (hsz : 0 < size)
    {w0 w : World} (hbel : Below w0.heap.size w0 w) (v : Value) (n : Nat) (xs : List Value) (hs : a.eval s = v) (hown : w.ownsRow w0.heap.size e size v n xs)
    (X : Option Addr) (m c : Nat) (news : List Value) (hx : a.eval x = .slice X m c) (hl : news.length = m * size) (hnews : Cells w X news) (h1 : ∀ u ∈ news, u.oneCell' = true)
    (hn : n + m ≤ maxLen) (hbytes : (n + m) * bytes ≤ 140737488355328)
    (h : ∀ (x1 : Past) (A : Option Addr) (cap : Nat), (w0.past x1).ownsRow w0.heap.size e size (.slice A (n + m) cap) (n + m) (xs ++ news) → wpList P ops Q rest (a.put o.dst (.slice A (n + m) cap)) (w0.past x1)) :
    wpList P ops Q (o :: rest) a w := by
  refine wpList_plain hgd fun K hK => ?_
  unfold Oper.wp execOp
  by_cases hm : m = 0
  · subst hm
    have hne : news = [] := List.eq_nil_of_length_eq_zero (by simpa using hl)
    subst hne
    have hr := run_append_none (P := P) w w0.heap.size t o.type e i size ht hi v n xs hown X c
    simp only [ho, resolve, invoke, builtin, Sem.run_bind, Sem.run_pure, Result.andThen_ok, List.map_toArray, List.map_cons, List.map_nil, hs, hx, hr]
    obtain ⟨A, cap, rfl⟩ := own_shape hown
    obtain ⟨x1, rfl⟩ := past_of hbel
    exact hK _ _ (h x1 A cap (by simpa using hown))
  · have hne : news ≠ [] := by
      intro e
      subst e
      have h0 : 0 < m * size := Nat.mul_pos (by omega) hsz
      rw [List.length_nil] at hl
      omega
    obtain ⟨b, off, rfl, hc⟩ := hnews hne
    have hnews' : ∀ j u, news[j]? = some u → w.cell? ((⟨b, off, none⟩ : Addr).add j) = some u := by
      intro j u hj
      rw [add_flat rfl]
      exact hc j u hj
    obtain ⟨v', w', hr, h2, h3, _, _⟩ := run_append_own_at (P := P) w w0.heap.size t o.type e i z size bytes ht hi hz hsize hby hzs hsz v n xs hown ⟨b, off, none⟩ m c news hl hnews' h1 hn hbytes hbel.size
    simp only [ho, resolve, invoke, builtin, Sem.run_bind, Sem.run_pure, Result.andThen_ok, List.map_toArray, List.map_cons, List.map_nil, hs, hx, hr]
    obtain ⟨A, cap, rfl⟩ := own_shape h2
    obtain ⟨x1, rfl⟩ := past_of (hbel.grown h3 hbel.size (fun k hk => (hown.lt k hk).1))
    exact hK _ _ (h x1 A cap h2)
end
end Go
