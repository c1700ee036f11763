/-
  What a pure call leaves: a world in which all that lay there lies as it was. Plain laws for the walk. No condition.
-/
import Derived.WalkKit
import Derived.BigQuiet
namespace Go
open Go.RowKit

/-- A fact kept from the walk. -/
theorem hid {p : Prop} (h : p) : Hid p := h

/-- What a pure call adds: blocks, and how often the tape was asked. -/
structure Past where
  objs : Array Obj
  draws : Nat
instance : Inhabited Past := ⟨⟨#[], 0⟩⟩
def Past.more (x : Past) : Nat := x.objs.size
def World.past (w : World) (x : Past) : World := { w with heap := w.heap ++ x.objs, drawn := x.draws }

theorem World.below_past (w : World) (x : Past) : Below w.heap.size w (w.past x) :=
  ⟨rfl, rfl, rfl, by simp [World.past], fun k hk => by simp [World.past, Array.getElem?_append, hk]⟩
theorem past_of {w w' : World} (h : Below w.heap.size w w') : ∃ x : Past, w' = w.past x := by
  refine ⟨⟨w'.heap.extract w.heap.size w'.heap.size, w'.drawn⟩, ?_⟩
  obtain ⟨h1, h2, h3, h4, h5⟩ := h
  cases w with | mk heap tape drawn os output =>
  cases w' with | mk heap' tape' drawn' os' output' =>
  simp only at h1 h2 h3 h4 h5
  subst h1; subst h2; subst h3
  simp only [World.past, World.mk.injEq, and_true]
  apply Array.ext_getElem?
  intro i
  rw [Array.getElem?_append]
  by_cases hi : i < heap.size
  · rw [if_pos hi]; exact h5 i hi
  · rw [if_neg hi, Array.getElem?_extract]
    by_cases hj : i < heap'.size
    · rw [if_pos (by omega)]; congr 1; omega
    · rw [if_neg (by omega)]; exact Array.getElem?_eq_none (by omega)

/-- The one, or else the other. -/
def orElse (a b : Option Value) : Option Value := match a with | some v => some v | none => b
@[go_sem] theorem orElse_some (v : Value) (b : Option Value) : orElse (some v) b = some v := rfl
/-- What a new world has. -/
def Past.cell? (w : World) (x : Past) (a : Addr) : Option Value := (w.past x).cell? a
theorem World.lt_of_isSome {w : World} {a : Addr} (h : (w.cell? a).isSome = true) : a.block < w.heap.size := by
  obtain ⟨u, hu⟩ := Option.isSome_iff_exists.1 h
  exact World.block_lt_of_cell? w a hu
/-- Nothing is asked of the address: what w has stands in front. -/
@[go_sem] theorem World.cell?_past {w : World} {x : Past} {a : Addr} : (w.past x).cell? a = orElse (w.cell? a) (x.cell? w a) := by
  cases h : w.cell? a with
  | none => rfl
  | some v => rw [orElse_some, ← h]; exact (w.below_past x).cell (World.lt_of_isSome (by rw [h]; rfl))
@[go_sem] theorem World.frozen?_past {w : World} {x : Past} {a : Addr} (h : a.block < w.heap.size) : (w.past x).frozen? a = w.frozen? a :=
  (w.below_past x).frozen h
@[go_sem] theorem World.size_past {w : World} {x : Past} : (w.past x).heap.size = w.heap.size + x.more := by
  simp [World.past, Past.more]
@[go_sem] theorem World.tape_past {w : World} {x : Past} : (w.past x).tape = w.tape := rfl
theorem World.block_past {w : World} {x : Past} {k : Nat} (h : k < w.heap.size) : (w.past x).heap[k]? = w.heap[k]? := (w.below_past x).block k h

theorem World.past_refl (w : World) : w = w.past ⟨#[], w.drawn⟩ := by simp [World.past]
/-- Two calls are one; a draw is none. -/
def Past.and (x y : Past) : Past := ⟨x.objs ++ y.objs, y.draws⟩
@[go_sem] theorem World.past_past {w : World} {x y : Past} : (w.past x).past y = w.past (x.and y) := by
  simp [World.past, Past.and, Array.append_assoc]
def Past.drew (x : Past) : Past := ⟨x.objs, x.draws + 1⟩
@[go_sem] theorem World.past_drew {w : World} {x : Past} : (w.past x).drew = w.past x.drew := rfl
@[go_sem] theorem World.drew_past {w : World} {x : Past} : w.drew.past x = w.past x := rfl
/-- A store into what lay there ahead of the call goes ahead of it. -/
@[go_sem] theorem World.setCell_past {w : World} {x : Past} {n i : Nat} {v : Value} (h : n < w.heap.size) : (w.past x).setCell ⟨n, i, none⟩ v = (w.setCell ⟨n, i, none⟩ v).past x := by
  unfold World.setCell World.past
  congr 1
  apply Array.ext_getElem?
  intro k
  simp only [Array.getElem?_modify, Array.getElem?_append, Array.size_modify]
  by_cases hk : k < w.heap.size
  · simp [hk]
  · have : n ≠ k := by omega
    simp [hk, this]

/-! Numbers of blocks. -/
section
variable (a n m j k k2 j2 k3 j3 k4 : Nat)
@[go_sem] theorem blocks_1 (h : 0 < n) : a < a + n + k := by omega
@[go_sem] theorem blocks_2 (h : m < n) : a + m < a + n + k := by omega
@[go_sem] theorem blocks_3 (h : 0 < n) : a < a + n + k + j := by omega
@[go_sem] theorem blocks_4 (h : m < n) : a + m < a + n + k + j := by omega
@[go_sem] theorem blocks_5 (h : 0 < n) : a < a + n + k + j + k2 := by omega
@[go_sem] theorem blocks_6 (h : m < n) : a + m < a + n + k + j + k2 := by omega
@[go_sem] theorem blocks_7 (h : 0 < n) : a < a + n + k + j + k2 + j2 := by omega
@[go_sem] theorem blocks_8 (h : m < n) : a + m < a + n + k + j + k2 + j2 := by omega
@[go_sem] theorem blocks_9 (h : 0 < n) : a < a + n + k + j + k2 + j2 + k3 := by omega
@[go_sem] theorem blocks_10 (h : m < n) : a + m < a + n + k + j + k2 + j2 + k3 := by omega
@[go_sem] theorem blocks_11 (h : 0 < n) : a < a + n + k + j + k2 + j2 + k3 + j3 := by omega
@[go_sem] theorem blocks_12 (h : m < n) : a + m < a + n + k + j + k2 + j2 + k3 + j3 := by omega
@[go_sem] theorem blocks_13 (h : a < n) : a < n + k := by omega
end

theorem below_trans' {a b c : World} (h : Below a.heap.size a b) (k : Below b.heap.size b c) : Below a.heap.size a c := h.trans (k.mono h.size)
theorem RowKit.Below.past {a w : World} (h : Below a.heap.size a w) (x : Past) : Below a.heap.size a (w.past x) :=
  h.trans ((w.below_past x).mono h.size)
theorem RowKit.Below.drew' {B : Nat} {a w : World} (h : Below B a w) : Below B a w.drew := h.drew
theorem RowKit.Below.drewN' {B : Nat} {a w : World} (h : Below B a w) (n : Nat) : Below B a (w.drewN n) := ⟨h.os, h.tape, h.output, h.size, h.block⟩
theorem RowKit.Below.alloc' {a w : World} (h : Below a.heap.size a w) (o : Obj) : Below a.heap.size a (w.alloc o) := h.alloc h.size o
theorem RowKit.Below.setCell' {a w : World} (h : Below a.heap.size a w) {p : Addr} (hp : a.heap.size ≤ p.block) (u : Value) : Below a.heap.size a (w.setCell p u) := h.setCell hp u

/-- It returns v, and what lay there lies as it was. -/
def Gives (v : Value) (w : World) (e : Ending) (w' : World) : Prop := e = .returned v ∧ ∃ x : Past, w' = w.past x
theorem Gives.mk {v v' : Value} {w w' : World} (h : v = v') (hb : Below w.heap.size w w') : Gives v' w (.returned v) w' := by
  subst h; exact ⟨rfl, past_of hb⟩
theorem Gives.refl {v v' : Value} {w : World} (h : v = v') : Gives v' w (.returned v) w := Gives.mk h (Below.refl _ _)

section
variable {P : Program} {f : FuncId} {args : Array Value} {w : World} {v : Value}
/-- A pure callee in a region whose worlds are those that have all of w. -/
theorem Calls.in_past {x : Past} (h : Calls P f args (w.past x) (Gives v (w.past x))) : Calls P f args (w.past x) fun e w'' => e = .returned v ∧ ∃ y : Past, w'' = w.past y :=
  h.mono fun _ _ ⟨he, y, hm⟩ => ⟨he, x.and y, by rw [hm, World.past_past]⟩
theorem Calls.in_past2 {x y : Past} (h : Calls P f args (w.past (x.and y)) (Gives v (w.past (x.and y)))) : Calls P f args (w.past (x.and y)) fun e w'' => e = .returned v ∧ ∃ y : Past, w'' = w.past (x.and y) :=
  h.mono fun _ _ ⟨he, z, hm⟩ => ⟨he, y.and z, by rw [hm, World.past_past]; simp only [Past.and, Array.append_assoc]⟩
/-- A region that only reads, and calls what is pure: one walk, in the order of the text. -/
theorem wp_region_past {id : Nat} {Q : Exit → Act → World → Prop} {a : Act} {l : List Oper} (hm : P.follows .mixedOrders = true) (hB : Region.lexB .any l.toArray = true)
    (h : wpQuiet P l.toArray (fun w' => ∃ x : Past, w' = w.past x) (fun a' => ∀ w', (∃ x : Past, w' = w.past x) → Q .normal a' w') l a) : (Code.region id l.toArray true).wp P Q a w :=
  wp_region_quiet (C := fun w' => ∃ x : Past, w' = w.past x) hm hB (past_of ⟨rfl, rfl, rfl, Nat.le_refl _, fun _ _ => rfl⟩) (by simpa using h)
end
end Go
