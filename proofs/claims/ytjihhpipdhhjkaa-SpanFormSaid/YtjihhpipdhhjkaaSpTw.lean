/-
  Layer 33: two sets beside one another; what the pairs of a list come to. No condition.
-/
import Derived.Test.YtjihhpipdhhjkaaSpNil
import Derived.Test.YtjihhpipdhhjkaaSpV
import Derived.Test.YtjihhpipdhhjkaaTabSet
namespace Go.Proofs.Ytjihhpipdhhjkaa
open Go.RowKit Go.ChangeShapes Go.WideShapes Go.ChangeAt
theorem SpAt.keptS {B : Nat} {w w' : World} {b d : Nat} {l : List (Int × Int)} {cs : Array Value} (h : SpAt B w b l) (hd : Rec w d 61 cs) (hk : Kept (fun k => k = d) w w') (hn : b ≠ d) : SpAt B w' b l := by
  obtain ⟨A, c, h1, h2⟩ := h.ex
  exact ⟨h.big, h.len, A, c, h1.kept hk hn, own_keptT h2 (Kept.toT hk) hd (by decide) (fun h => h)⟩
structure Tw (b1 b2 : Nat) (w1 W : World) (L1 L2 : List (Int × Int)) : Prop where
  a : SpAt b1 W b1 L1
  c : SpAt b2 W b2 L2
  below : Below b1 w1 W
  lt : b1 < b2
  sz : b1 ≤ w1.heap.size
section
variable {b1 b2 : Nat} {w1 W W' : World} {L1 L2 L : List (Int × Int)}
theorem Tw.far (h : Tw b1 b2 w1 W L1 L2) (hb : Below W.heap.size W W') : Tw b1 b2 w1 W' L1 L2 :=
  ⟨h.a.far hb, h.c.far hb, h.below.trans (hb.mono (by have := h.below.size; have := h.sz; omega)), h.lt, h.sz⟩
theorem Tw.add1 (h : Tw b1 b2 w1 W L1 L2) (p q : Int) (hl : (addL L1 p q).length ≤ 100000) : Calls Try.prog 9 #[.pointer (some ⟨b1, 0, none⟩), .int .i64 p, .int .i64 q] W (fun e W' => e = .returned (.bool (ltV p q)) ∧ Tw b1 b2 w1 W' (addL L1 p q) L2) :=
  (Add_any h.a p q hl).mono fun _ _ g => ⟨g.1, g.2.1, by
    obtain ⟨A, c, r1, _⟩ := h.a.ex
    exact h.c.keptS r1 g.2.2.2 (by have := h.lt; omega), h.below.trans g.2.2.1, h.lt, h.sz⟩
theorem Tw.add2 (h : Tw b1 b2 w1 W L1 L2) (p q : Int) (hl : (addL L2 p q).length ≤ 100000) : Calls Try.prog 9 #[.pointer (some ⟨b2, 0, none⟩), .int .i64 p, .int .i64 q] W (fun e W' => e = .returned (.bool (ltV p q)) ∧ Tw b1 b2 w1 W' L1 (addL L2 p q)) :=
  (Add_any h.c p q hl).mono fun _ _ g => ⟨g.1, by
    obtain ⟨A, c, r1, _⟩ := h.c.ex
    exact h.a.keptS r1 g.2.2.2 (by have := h.lt; omega), g.2.1, h.below.trans (g.2.2.1.mono (by have := h.lt; omega)), h.lt, h.sz⟩
end
/-- In one of the pairs of some places. -/
def inP (l : List (Int × Int)) (p : Nat → Prop) (x : Int) : Prop := ∃ j, p j ∧ (pc l j).1 < (pc l j).2 ∧ (pc l j).1 ≤ x ∧ x < (pc l j).2
structure Fm (l : List (Int × Int)) (p : Nat → Prop) (k : Nat) (L : List (Int × Int)) : Prop where
  good : Good L
  len : L.length ≤ k
  mem : ∀ x, Mem L x ↔ inP l p x
theorem Fm.nil (l : List (Int × Int)) {p : Nat → Prop} (hp : ∀ j, ¬ p j) : Fm l p 0 [] :=
  ⟨good_nil, by simp, fun x => by rw [mem_nil]; constructor; exact fun h => h.elim; rintro ⟨j, h, _⟩; exact (hp j h).elim⟩
theorem addL_ok {L : List (Int × Int)} (h : Good L) (low high : Int) : Good (addL L low high) ∧ (addL L low high).length ≤ L.length + 1 ∧ (∀ x, Mem (addL L low high) x ↔ Mem L x ∨ (low < high ∧ low ≤ x ∧ x < high)) := by
  by_cases hlt : low < high
  · obtain ⟨h1, h2, h3⟩ := add_good h hlt
    refine ⟨h1, h3, fun x => ?_⟩
    rw [h2]; simp [hlt]
  · have e : addL L low high = L := by unfold addL ltV; rw [if_neg (by simpa using hlt)]
    rw [e]
    exact ⟨h, by omega, fun x => by simp [hlt]⟩
theorem Fm.add {l : List (Int × Int)} {p p' : Nat → Prop} {k j : Nat} {L : List (Int × Int)} (h : Fm l p k L) (hp : ∀ i, p' i ↔ p i ∨ i = j) : Fm l p' (k + 1) (addL L (pc l j).1 (pc l j).2) := by
  obtain ⟨h1, h2, h3⟩ := addL_ok h.good (pc l j).1 (pc l j).2
  refine ⟨h1, by have := h.len; omega, fun x => ?_⟩
  rw [h3, h.mem]
  constructor
  · rintro (⟨i, hi, h4⟩ | h4)
    · exact ⟨i, (hp i).2 (.inl hi), h4⟩
    · exact ⟨j, (hp j).2 (.inr rfl), h4⟩
  · rintro ⟨i, hi, h4⟩
    rcases (hp i).1 hi with h5 | rfl
    · exact .inl ⟨i, h5, h4⟩
    · exact .inr h4
theorem Fm.uniq {l : List (Int × Int)} {p q : Nat → Prop} {k j : Nat} {L M : List (Int × Int)} (h : Fm l p k L) (g : Fm l q j M) (hp : ∀ i, p i ↔ q i) : L = M := by
  refine good_uniq h.good g.good fun x => ?_
  rw [h.mem, g.mem]
  constructor
  · rintro ⟨i, hi, h4⟩; exact ⟨i, (hp i).1 hi, h4⟩
  · rintro ⟨i, hi, h4⟩; exact ⟨i, (hp i).2 hi, h4⟩
theorem c_arr2 : Try.prog.cellsOf 48 = 2 := by kernel_rfl
theorem rd_pr {H : Type} {enc : TypeId × Value → H} {W : World} {cs : List Value} (h : Rd enc Try.prog W 48 cs) : ∃ x : Int × Int, cs = pcV x := by
  obtain ⟨z0, z1, ecs⟩ : ∃ z0 z1, cs = [z0, z1] := by
    have hl := (h.array Try.underlying48).1.trans c_arr2
    match cs, hl with
    | [z0, z1], _ => exact ⟨z0, z1, rfl⟩
  rw [ecs] at h
  obtain ⟨y0, e0, g0⟩ := Rd.int (h.elem Try.underlying48 0 (by omega) 1 c_int1) Try.underlying3
  obtain ⟨y1, e1, g1⟩ := Rd.int (h.elem Try.underlying48 1 (by omega) 1 c_int1) Try.underlying3
  simp at e0 e1
  subst e0; subst e1
  exact ⟨(y0, y1), ecs⟩
end Go.Proofs.Ytjihhpipdhhjkaa
