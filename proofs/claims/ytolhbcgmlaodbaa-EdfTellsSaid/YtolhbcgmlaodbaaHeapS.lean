/-
  Heaps, as lists: what moves up and down keeps. No program in sight. No condition.
-/
import Derived.WalkKit
import Derived.BigQuiet
namespace Go
open Go.RowKit

/-- A fact kept from the walk. -/
theorem hid {p : Prop} (h : p) : Hid p := h

/-- What a pure call adds: blocks, and how often the tape was asked. -/
structure Past where
  objs : Array Obj
  draws : Nat
instance : Inhabited Past := ⟨⟨#[], 0⟩⟩
def Past.more (x : Past) : Nat := x.objs.size
def World.past (w : World) (x : Past) : World := { w with heap := w.heap ++ x.objs, drawn := x.draws }

theorem World.below_past (w : World) (x : Past) : Below w.heap.size w (w.past x) :=
  ⟨rfl, rfl, rfl, by simp [World.past], fun k hk => by simp [World.past, Array.getElem?_append, hk]⟩
theorem past_of {w w' : World} (h : Below w.heap.size w w') : ∃ x : Past, w' = w.past x := by
  refine ⟨⟨w'.heap.extract w.heap.size w'.heap.size, w'.drawn⟩, ?_⟩
  obtain ⟨h1, h2, h3, h4, h5⟩ := h
  cases w with | mk heap tape drawn os output =>
  cases w' with | mk heap' tape' drawn' os' output' =>
  simp only at h1 h2 h3 h4 h5
  subst h1; subst h2; subst h3
  simp only [World.past, World.mk.injEq, and_true]
  apply Array.ext_getElem?
  intro i
  rw [Array.getElem?_append]
  by_cases hi : i < heap.size
  · rw [if_pos hi]; exact h5 i hi
  · rw [if_neg hi, Array.getElem?_extract]
    by_cases hj : i < heap'.size
    · rw [if_pos (by omega)]; congr 1; omega
    · rw [if_neg (by omega)]; exact Array.getElem?_eq_none (by omega)

/-- The one, or else the other. -/
def orElse (a b : Option Value) : Option Value := match a with | some v => some v | none => b
@[go_sem] theorem orElse_some (v : Value) (b : Option Value) : orElse (some v) b = some v := rfl
/-- What a new world has. -/
def Past.cell? (w : World) (x : Past) (a : Addr) : Option Value := (w.past x).cell? a
theorem World.lt_of_isSome {w : World} {a : Addr} (h : (w.cell? a).isSome = true) : a.block < w.heap.size := by
  obtain ⟨u, hu⟩ := Option.isSome_iff_exists.1 h
  exact World.block_lt_of_cell? w a hu
/-- Nothing is asked of the address: what w has stands in front. -/
@[go_sem] theorem World.cell?_past {w : World} {x : Past} {a : Addr} : (w.past x).cell? a = orElse (w.cell? a) (x.cell? w a) := by
  cases h : w.cell? a with
  | none => rfl
  | some v => rw [orElse_some, ← h]; exact (w.below_past x).cell (World.lt_of_isSome (by rw [h]; rfl))
@[go_sem] theorem World.frozen?_past {w : World} {x : Past} {a : Addr} (h : a.block < w.heap.size) : (w.past x).frozen? a = w.frozen? a :=
  (w.below_past x).frozen h
@[go_sem] theorem World.size_past {w : World} {x : Past} : (w.past x).heap.size = w.heap.size + x.more := by
  simp [World.past, Past.more]
@[go_sem] theorem World.tape_past {w : World} {x : Past} : (w.past x).tape = w.tape := rfl
theorem World.block_past {w : World} {x : Past} {k : Nat} (h : k < w.heap.size) : (w.past x).heap[k]? = w.heap[k]? := (w.below_past x).block k h

theorem World.past_refl (w : World) : w = w.past ⟨#[], w.drawn⟩ := by simp [World.past]
/-- Two calls are one; a draw is none. -/
def Past.and (x y : Past) : Past := ⟨x.objs ++ y.objs, y.draws⟩
@[go_sem] theorem World.past_past {w : World} {x y : Past} : (w.past x).past y = w.past (x.and y) := by
  simp [World.past, Past.and, Array.append_assoc]
def Past.drew (x : Past) : Past := ⟨x.objs, x.draws + 1⟩
@[go_sem] theorem World.past_drew {w : World} {x : Past} : (w.past x).drew = w.past x.drew := rfl
@[go_sem] theorem World.drew_past {w : World} {x : Past} : w.drew.past x = w.past x := rfl
/-- A store into what lay there ahead of the call goes ahead of it. -/
@[go_sem] theorem World.setCell_past {w : World} {x : Past} {n i : Nat} {v : Value} (h : n < w.heap.size) : (w.past x).setCell ⟨n, i, none⟩ v = (w.setCell ⟨n, i, none⟩ v).past x := by
  unfold World.setCell World.past
  congr 1
  apply Array.ext_getElem?
  intro k
  simp only [Array.getElem?_modify, Array.getElem?_append, Array.size_modify]
  by_cases hk : k < w.heap.size
  · simp [hk]
  · have : n ≠ k := by omega
    simp [hk, this]

/-! Numbers of blocks. -/
section
variable (a n m j k k2 j2 k3 j3 k4 : Nat)
@[go_sem] theorem blocks_1 (h : 0 < n) : a < a + n + k := by omega
@[go_sem] theorem blocks_2 (h : m < n) : a + m < a + n + k := by omega
@[go_sem] theorem blocks_3 (h : 0 < n) : a < a + n + k + j := by omega
@[go_sem] theorem blocks_4 (h : m < n) : a + m < a + n + k + j := by omega
@[go_sem] theorem blocks_5 (h : 0 < n) : a < a + n + k + j + k2 := by omega
@[go_sem] theorem blocks_6 (h : m < n) : a + m < a + n + k + j + k2 := by omega
@[go_sem] theorem blocks_7 (h : 0 < n) : a < a + n + k + j + k2 + j2 := by omega
@[go_sem] theorem blocks_8 (h : m < n) : a + m < a + n + k + j + k2 + j2 := by omega
@[go_sem] theorem blocks_9 (h : 0 < n) : a < a + n + k + j + k2 + j2 + k3 := by omega
@[go_sem] theorem blocks_10 (h : m < n) : a + m < a + n + k + j + k2 + j2 + k3 := by omega
@[go_sem] theorem blocks_11 (h : 0 < n) : a < a + n + k + j + k2 + j2 + k3 + j3 := by omega
@[go_sem] theorem blocks_12 (h : m < n) : a + m < a + n + k + j + k2 + j2 + k3 + j3 := by omega
@[go_sem] theorem blocks_13 (h : a < n) : a < n + k := by omega
end

theorem below_trans' {a b c : World} (h : Below a.heap.size a b) (k : Below b.heap.size b c) : Below a.heap.size a c := h.trans (k.mono h.size)
theorem RowKit.Below.past {a w : World} (h : Below a.heap.size a w) (x : Past) : Below a.heap.size a (w.past x) :=
  h.trans ((w.below_past x).mono h.size)
theorem RowKit.Below.drew' {B : Nat} {a w : World} (h : Below B a w) : Below B a w.drew := h.drew
theorem RowKit.Below.drewN' {B : Nat} {a w : World} (h : Below B a w) (n : Nat) : Below B a (w.drewN n) := ⟨h.os, h.tape, h.output, h.size, h.block⟩
theorem RowKit.Below.alloc' {a w : World} (h : Below a.heap.size a w) (o : Obj) : Below a.heap.size a (w.alloc o) := h.alloc h.size o
theorem RowKit.Below.setCell' {a w : World} (h : Below a.heap.size a w) {p : Addr} (hp : a.heap.size ≤ p.block) (u : Value) : Below a.heap.size a (w.setCell p u) := h.setCell hp u

/-- It returns v, and what lay there lies as it was. -/
def Gives (v : Value) (w : World) (e : Ending) (w' : World) : Prop := e = .returned v ∧ ∃ x : Past, w' = w.past x
theorem Gives.mk {v v' : Value} {w w' : World} (h : v = v') (hb : Below w.heap.size w w') : Gives v' w (.returned v) w' := by
  subst h; exact ⟨rfl, past_of hb⟩
theorem Gives.refl {v v' : Value} {w : World} (h : v = v') : Gives v' w (.returned v) w := Gives.mk h (Below.refl _ _)

section
variable {P : Program} {f : FuncId} {args : Array Value} {w : World} {v : Value}
/-- A pure callee in a region whose worlds are those that have all of w. -/
theorem Calls.in_past {x : Past} (h : Calls P f args (w.past x) (Gives v (w.past x))) : Calls P f args (w.past x) fun e w'' => e = .returned v ∧ ∃ y : Past, w'' = w.past y :=
  h.mono fun _ _ ⟨he, y, hm⟩ => ⟨he, x.and y, by rw [hm, World.past_past]⟩
theorem Calls.in_past2 {x y : Past} (h : Calls P f args (w.past (x.and y)) (Gives v (w.past (x.and y)))) : Calls P f args (w.past (x.and y)) fun e w'' => e = .returned v ∧ ∃ y : Past, w'' = w.past (x.and y) :=
  h.mono fun _ _ ⟨he, z, hm⟩ => ⟨he, y.and z, by rw [hm, World.past_past]; simp only [Past.and, Array.append_assoc]⟩
/-- A region that only reads, and calls what is pure: one walk, in the order of the text. -/
theorem wp_region_past {id : Nat} {Q : Exit → Act → World → Prop} {a : Act} {l : List Oper} (hm : P.follows .mixedOrders = true) (hB : Region.lexB .any l.toArray = true)
    (h : wpQuiet P l.toArray (fun w' => ∃ x : Past, w' = w.past x) (fun a' => ∀ w', (∃ x : Past, w' = w.past x) → Q .normal a' w') l a) : (Code.region id l.toArray true).wp P Q a w :=
  wp_region_quiet (C := fun w' => ∃ x : Past, w' = w.past x) hm hB (past_of ⟨rfl, rfl, rfl, Nat.le_refl _, fun _ _ => rfl⟩) (by simpa using h)
end
end Go
namespace Go.Hp
/-- An item: its key and what it bears. -/
structure It (α : Type) where
  v : Int
  id : Int
  x : α
section
variable {α : Type}
def lt (a b : It α) : Prop := a.v < b.v ∨ (a.v = b.v ∧ a.id < b.id)
instance (a b : It α) : Decidable (lt a b) := inferInstanceAs (Decidable (_ ∨ _))
theorem lt_irrefl (a : It α) : ¬ lt a a := by unfold lt; omega
theorem lt_asymm {a b : It α} (h : lt a b) : ¬ lt b a := by unfold lt at *; omega
/-- Not less, and not less. -/
theorem nlt_trans {a b c : It α} (h1 : ¬ lt b a) (h2 : ¬ lt c b) : ¬ lt c a := by unfold lt at *; omega
theorem nlt_of_lt {a b c : It α} (h1 : lt a b) (h2 : ¬ lt c b) : ¬ lt c a := by unfold lt at *; omega
theorem eq_of_nlt {a b : It α} (h1 : ¬ lt a b) (h2 : ¬ lt b a) : a.v = b.v ∧ a.id = b.id := by unfold lt at *; omega
def par (k : Nat) : Nat := (k - 1) / 2
theorem par_lt {k : Nat} (h : 0 < k) : par k < k := by unfold par; omega
theorem par_child {k i : Nat} (h : 0 < k) : par k = i ↔ k = 2 * i + 1 ∨ k = 2 * i + 2 := by unfold par; omega
/-- In order with what is above. -/
def Ok (l : List (It α)) (k : Nat) : Prop := ∀ (h : k < l.length), 0 < k → ¬ lt l[k] (l[par k]'(by have := par_lt (k := k); unfold par at *; omega))
def Ord (l : List (It α)) : Prop := ∀ k, Ok l k
/-- What hangs below i is in order with what is above i. -/
def Bel (l : List (It α)) (i : Nat) : Prop := ∀ k (h : k < l.length) (_k0 : 0 < k) (_hp : par k = i) (_i0 : 0 < i), ¬ lt l[k] (l[par i]'(by unfold par at *; omega))
structure Up (l : List (It α)) (i : Nat) : Prop where
  ok : ∀ k, k ≠ i → Ok l k
  bel : Bel l i
structure Dn (l : List (It α)) (i : Nat) : Prop where
  ok : ∀ k, k ≠ i → (0 < k → par k ≠ i) → Ok l k
  bel : Bel l i
def swp (l : List (It α)) (i k : Nat) (hi : i < l.length) (hk : k < l.length) : List (It α) := (l.set i l[k]).set k l[i]
theorem swp_length (l : List (It α)) (i k : Nat) (hi : i < l.length) (hk : k < l.length) : (swp l i k hi hk).length = l.length := by simp [swp]
theorem swp_perm (l : List (It α)) (i k : Nat) (hi : i < l.length) (hk : k < l.length) : (swp l i k hi hk).Perm l := List.set_set_perm hi hk
theorem swp_get (l : List (It α)) (i k : Nat) (hi : i < l.length) (hk : k < l.length) (j : Nat) (hj : j < l.length) : (swp l i k hi hk)[j]'(by rw [swp_length]; exact hj) = if j = k then l[i] else if j = i then l[k] else l[j] := by
  unfold swp
  rw [List.getElem_set]
  by_cases h1 : k = j
  · subst h1; simp
  · rw [if_neg h1, if_neg (fun e => h1 e.symm), List.getElem_set]
    by_cases h2 : i = j
    · subst h2; simp
    · rw [if_neg h2, if_neg (fun e => h2 e.symm)]
theorem swp_self (l : List (It α)) (i : Nat) (hi : i < l.length) : swp l i i hi hi = l := by unfold swp; simp
theorem Up.step {l : List (It α)} {i : Nat} (h : Up l i) (hi : i < l.length) (h0 : 0 < i) (hlt : lt l[i] (l[par i]'(by have := par_lt h0; omega))) :
    Up (swp l i (par i) hi (by have := par_lt h0; omega)) (par i) := by
  have hp := par_lt h0
  have hpl : par i < l.length := by omega
  refine ⟨fun k hk hkl k0 => ?_, fun k hkl k0 hk p0 => ?_⟩
  · rw [swp_length] at hkl
    have hpk := par_lt k0
    have hpkl : par k < l.length := by omega
    rw [swp_get _ _ _ _ _ k hkl, swp_get _ _ _ _ _ (par k) hpkl]
    rw [if_neg hk]
    by_cases e1 : k = i
    · subst e1
      rw [if_pos rfl, if_pos rfl]
      exact lt_asymm hlt
    · rw [if_neg e1]
      by_cases e2 : par k = par i
      · rw [if_pos e2]
        have := h.ok k e1 hkl k0
        simp only [e2] at this
        exact nlt_of_lt hlt this
      · rw [if_neg e2]
        by_cases e3 : par k = i
        · rw [if_pos e3]
          exact h.bel k hkl k0 e3 h0
        · rw [if_neg e3]
          exact h.ok k e1 hkl k0
  · rw [swp_length] at hkl
    have hpp := par_lt p0
    have hppl : par (par i) < l.length := by omega
    rw [swp_get _ _ _ _ _ k hkl, swp_get _ _ _ _ _ (par (par i)) hppl, if_neg (by omega : ¬ par (par i) = par i), if_neg (by omega : ¬ par (par i) = i)]
    have hki : k ≠ par i := by intro e; subst e; have := par_lt k0; omega
    rw [if_neg hki]
    have hpo := h.ok (par i) (by omega) hpl p0
    by_cases e1 : k = i
    · rw [if_pos e1]; exact hpo
    · rw [if_neg e1]
      have := h.ok k e1 hkl k0
      simp only [hk] at this
      exact nlt_trans hpo this
theorem Up.fin {l : List (It α)} {i : Nat} (h : Up l i) (he : ∀ (hi : i < l.length), 0 < i → ¬ lt l[i] (l[par i]'(by have := par_lt (k := i); unfold par at *; omega))) : Ord l := fun k => by
  by_cases e : k = i
  · subst e; exact he
  · exact h.ok k e
theorem Dn.step {l : List (It α)} {i k : Nat} (h : Dn l i) (hi : i < l.length) (hk : k < l.length) (k0 : 0 < k) (hki : par k = i) (hlt : lt l[k] l[i]) (hsib : ∀ q (hq : q < l.length), 0 < q → par q = i → ¬ lt l[q] l[k]) :
    Dn (swp l k i hk hi) k ∧ Ok (swp l k i hk hi) k ∧ Ok (swp l k i hk hi) i := by
  have hik : i < k := by rw [← hki]; exact par_lt k0
  refine ⟨⟨fun q hqk hqp hql q0 => ?_, fun q hql q0 hqp _ => ?_⟩, fun hkl _ => ?_, fun hil i0 => ?_⟩
  · rw [swp_length] at hql
    have hpq := par_lt q0
    have hpql : par q < l.length := by omega
    have hqp2 := hqp q0
    rw [swp_get _ _ _ _ _ q hql, swp_get _ _ _ _ _ (par q) hpql, if_neg hqp2]
    by_cases e1 : q = i
    · subst e1
      rw [if_pos rfl]
      rw [if_neg (by omega : ¬ par q = q)]
      exact h.bel k hk k0 hki q0
    · rw [if_neg e1, if_neg hqk]
      by_cases e2 : par q = i
      · rw [if_pos e2]; exact hsib q hql q0 e2
      · rw [if_neg e2]; exact h.ok q e1 (fun _ => e2) hql q0
  · rw [swp_length] at hql
    have hpkl : par k < l.length := by omega
    have hqi : q ≠ i := by intro e; subst e; have := par_lt q0; omega
    have hqk : q ≠ k := by intro e; subst e; have := par_lt q0; omega
    rw [swp_get _ _ _ _ _ q hql, swp_get _ _ _ _ _ (par k) hpkl, if_neg hqi, if_neg hqk, if_pos hki]
    have := h.ok q hqi (fun _ => by rw [hqp]; omega) hql q0
    simp only [hqp] at this
    exact this
  · rw [swp_length] at hkl
    have hpkl : par k < l.length := by omega
    rw [swp_get _ _ _ _ _ k hkl, swp_get _ _ _ _ _ (par k) hpkl, if_neg (by omega : ¬ k = i), if_pos rfl, if_pos hki]
    exact lt_asymm hlt
  · rw [swp_length] at hil
    have hpi := par_lt i0
    have hpil : par i < l.length := by omega
    rw [swp_get _ _ _ _ _ i hil, swp_get _ _ _ _ _ (par i) hpil, if_pos rfl, if_neg (by omega : ¬ par i = i), if_neg (by omega : ¬ par i = k)]
    exact h.bel k hk k0 hki i0
/-- Down is done: what is left is up. -/
theorem Dn.fin {l : List (It α)} {i i0 : Nat} (h : Dn l i) (hc : ∀ q (hq : q < l.length) (hi : i < l.length), 0 < q → par q = i → ¬ lt l[q] l[i]) (hi0 : i = i0 ∨ Ok l i) : Up l i0 := by
  have hch : ∀ k, k ≠ i → Ok l k := fun k hk hkl k0 => by
    by_cases e : par k = i
    · have := hc k hkl (by have := par_lt k0; omega) k0 e
      simp only [e]
      exact this
    · exact h.ok k hk (fun _ => e) hkl k0
  rcases hi0 with rfl | ho
  · exact ⟨hch, h.bel⟩
  · have hall : ∀ k, Ok l k := fun k => by
      by_cases e : k = i
      · subst e; exact ho
      · exact hch k e
    refine ⟨fun k _ => hall k, fun k hk k0 hp p0 => ?_⟩
    have h1 := hall k hk k0
    simp only [hp] at h1
    have h2 := hall i0 (by have := par_lt k0; omega) p0
    exact nlt_trans h2 h1
theorem Ord.root {l : List (It α)} (h : Ord l) : ∀ k (hk : k < l.length), ¬ lt l[k] (l[0]'(by omega)) := by
  intro k
  induction k using Nat.strongRecOn with
  | ind k ih =>
    intro hk
    by_cases k0 : k = 0
    · subst k0; exact lt_irrefl _
    · have hp := par_lt (k := k) (by omega)
      have h1 := h k hk (by omega)
      exact nlt_trans (ih (par k) hp (by omega)) h1
end
end Go.Hp
