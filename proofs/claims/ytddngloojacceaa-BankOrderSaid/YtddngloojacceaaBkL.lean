/-
  Layer 44: so much from free to a client, or back: where it lies. No condition.
-/
import Derived.Test.YtddngloojacceaaBkK
namespace Go.Proofs.Ytddngloojacceaa
open Go Go.RowKit
def rowC (r : Rw) : Value := .slice r.1 r.2.2.length r.2.1
theorem tab_row_map : ∀ l : List Rw, tab rowV l = l.map rowC
  | [] => rfl
  | r :: l => by
    have := tab_row_map l
    simp only [tab, List.flatMap_cons, List.map_cons] at this ⊢
    rw [this]
    rfl
/-- The numbers of rows. -/
def valR (l : List Rw) : List (List Int) := l.map fun r => r.2.2
theorem valR_length (l : List Rw) : (valR l).length = l.length := by simp [valR]
def atR (l : List (List Int)) (i : Nat) : List Int := l[i]?.getD []
theorem atR_val (l : List Rw) (i : Nat) : atR (valR l) i = (rAt l i).2.2 := by
  unfold atR valR rAt
  rw [List.getElem?_map]
  cases l[i]? <;> rfl
/-- A row that lies where it lay, or is of the call's own. -/
def RowIs (w wr : World) (r : Rw) : Prop := Cells w r.1 (i64s r.2.2) ∨ wr.ownsRow w.heap.size 3 1 (rowC r) r.2.2.length (i64s r.2.2)
theorem RowIs.cells {w wr : World} {r : Rw} (h : RowIs w wr r) (hb : Below w.heap.size w wr) : Cells wr r.1 (i64s r.2.2) := by
  rcases h with h | h
  · exact h.below hb
  · exact Cells.of_own h
theorem RowIs.far {w wr w' : World} {r : Rw} (h : RowIs w wr r) (hb : Below wr.heap.size wr w') : RowIs w w' r := by
  rcases h with h | h
  · exact .inl h
  · exact .inr (own_below h hb (Nat.le_refl _))
theorem RowIs.grown {w wr w' : World} {r : Rw} {v : Value} {n : Nat} {xs : List Value} (h : RowIs w wr r) (ho : wr.ownsRow w.heap.size 22 1 v n xs) (hg : wr.grownBy w' v.ownBlock) : RowIs w w' r := by
  rcases h with h | h
  · exact .inl h
  · exact .inr (own_apart h hg (apart_types h ho (by decide)))
structure MvW (w wr : World) (bb br : Nat) (cs z : Array Value) (nh gh ch gm cm : Nat) (LH LM : List Rw) : Prop where
  below : Below w.heap.size w wr
  bank : Rec wr bb 25 cs
  res : Rec wr br 25 z
  lh : LH.length = nh
  lm : LM.length = nh
  ho : wr.ownsRow w.heap.size 22 1 (.slice (some ⟨gh, 0, none⟩) nh ch) nh (tab rowV LH)
  mo : wr.ownsRow w.heap.size 22 1 (.slice (some ⟨gm, 0, none⟩) nh cm) nh (tab rowV LM)
  ne : gh ≠ gm
  hr : ∀ i, i < nh → RowIs w wr (rAt LH i)
  mr : ∀ i, i < nh → RowIs w wr (rAt LM i)
section
variable {w wr w' : World} {bb br nh gh ch gm cm : Nat} {cs z : Array Value} {LH LM : List Rw}
theorem MvW.far (h : MvW w wr bb br cs z nh gh ch gm cm LH LM) (hb : Below wr.heap.size wr w') : MvW w w' bb br cs z nh gh ch gm cm LH LM :=
  ⟨h.below.trans (hb.mono h.below.size), h.bank.below hb (Nat.le_refl _), h.res.below hb (Nat.le_refl _), h.lh, h.lm, own_below h.ho hb (Nat.le_refl _), own_below h.mo hb (Nat.le_refl _), h.ne, fun i hi => (h.hr i hi).far hb, fun i hi => (h.mr i hi).far hb⟩
theorem MvW.drew (h : MvW w wr bb br cs z nh gh ch gm cm LH LM) : MvW w wr.drew bb br cs z nh gh ch gm cm LH LM := h.far (Below.refl _ wr).drew
theorem rAt_set (l : List Rw) (i j : Nat) (r : Rw) (hi : i < l.length) : rAt (l.set i r) j = if i = j then r else rAt l j := by
  unfold rAt
  rw [List.getElem?_set]
  by_cases h : i = j
  · rw [if_pos h, if_pos h, if_pos hi]; rfl
  · rw [if_neg h, if_neg h]
theorem MvW.setH (h : MvW w wr bb br cs z nh gh ch gm cm LH LM) {i : Nat} (hi : i < nh) {r : Rw} (hr : RowIs w wr r) : MvW w (wr.setCell ⟨gh, i, none⟩ (rowC r)) bb br cs z nh gh ch gm cm (LH.set i r) LM := by
  obtain ⟨s1, s2⟩ := h.ho.stored i (rowC r)
  have ho2 : (wr.setCell ⟨gh, i, none⟩ (rowC r)).ownsRow w.heap.size 22 1 (.slice (some ⟨gh, 0, none⟩) nh ch) nh (tab rowV (LH.set i r)) := by
    rw [tab_row_map, List.map_set, ← tab_row_map]; exact s1
  refine ⟨grown_below h.below s2 h.below.size (fun q hq => (h.ho.lt q hq).1), h.bank.grown h.ho s2 (by decide), h.res.grown h.ho s2 (by decide), by simpa using h.lh, h.lm, ho2, h.mo.kept s2 (.inr (fun e => h.ne (by injection e with e; exact e.symm))), h.ne, fun j hj => ?_, fun j hj => (h.mr j hj).grown h.ho s2⟩
  rw [rAt_set _ _ _ _ (by rw [h.lh]; exact hi)]
  split
  · exact hr.grown h.ho s2
  · exact (h.hr j hj).grown h.ho s2
theorem MvW.setM (h : MvW w wr bb br cs z nh gh ch gm cm LH LM) {i : Nat} (hi : i < nh) {r : Rw} (hr : RowIs w wr r) : MvW w (wr.setCell ⟨gm, i, none⟩ (rowC r)) bb br cs z nh gh ch gm cm LH (LM.set i r) := by
  obtain ⟨s1, s2⟩ := h.mo.stored i (rowC r)
  have mo2 : (wr.setCell ⟨gm, i, none⟩ (rowC r)).ownsRow w.heap.size 22 1 (.slice (some ⟨gm, 0, none⟩) nh cm) nh (tab rowV (LM.set i r)) := by
    rw [tab_row_map, List.map_set, ← tab_row_map]; exact s1
  refine ⟨grown_below h.below s2 h.below.size (fun q hq => (h.mo.lt q hq).1), h.bank.grown h.mo s2 (by decide), h.res.grown h.mo s2 (by decide), h.lh, by simpa using h.lm, h.ho.kept s2 (.inr (fun e => h.ne (by injection e))), mo2, h.ne, fun j hj => (h.hr j hj).grown h.mo s2, fun j hj => ?_⟩
  rw [rAt_set _ _ _ _ (by rw [h.lm]; exact hi)]
  split
  · exact hr.grown h.mo s2
  · exact (h.mr j hj).grown h.mo s2
theorem MvW.setHM (h : MvW w wr bb br cs z nh gh ch gm cm LH LM) {i k : Nat} (hi : i < nh) {R1 R2 : Option Addr} {c1 c2 : Nat} {l1 l2 : List Int} (h1 : RowIs w wr (R1, c1, l1)) (h2 : RowIs w wr (R2, c2, l2)) (e1 : l1.length = k) (e2 : l2.length = k) :
    MvW w ((wr.setCell ⟨gh, i, none⟩ (.slice R1 k c1)).setCell ⟨gm, i, none⟩ (.slice R2 k c2)) bb br cs z nh gh ch gm cm (LH.set i (R1, c1, l1)) (LM.set i (R2, c2, l2)) := by
  have h3 := (h.setH hi h1).setM hi (h2.grown h.ho (h.ho.stored i (rowC (R1, c1, l1))).2)
  simp only [rowC, e1, e2] at h3
  exact h3
theorem valR_set (l : List Rw) (i : Nat) (r : Rw) : valR (l.set i r) = (valR l).set i r.2.2 := by simp [valR, List.map_set]
theorem valR_same (l : List Rw) (i : Nat) {r : Rw} {R : Option Addr} {c : Nat} (hi : i < l.length) (h : rAt l i = r) : valR (l.set i (R, c, r.2.2)) = valR l := by
  rw [valR_set]
  apply List.ext_getElem?
  intro j
  rw [List.getElem?_set]
  by_cases hj : i = j
  · subst hj
    rw [if_pos rfl, if_pos (by rw [valR_length]; exact hi)]
    subst h
    simp [valR, rAt, hi]
  · rw [if_neg hj]
theorem MvW.hc (h : MvW w wr bb br cs z nh gh ch gm cm LH LM) {i : Nat} (hi : i < nh) : wr.cell? ⟨gh, i, none⟩ = some (rowC (rAt LH i)) ∧ wr.frozen? ⟨gh, i, none⟩ = false ∧ gh < wr.heap.size := by
  refine ⟨?_, h.ho.frozenAt i, (h.ho.lt gh rfl).2⟩
  rw [h.ho.cellAt i (by omega), tab_row_map]
  have := h.lh
  simp [rAt, show i < LH.length by omega]
theorem MvW.mc (h : MvW w wr bb br cs z nh gh ch gm cm LH LM) {i : Nat} (hi : i < nh) : wr.cell? ⟨gm, i, none⟩ = some (rowC (rAt LM i)) ∧ wr.frozen? ⟨gm, i, none⟩ = false ∧ gm < wr.heap.size := by
  refine ⟨?_, h.mo.frozenAt i, (h.mo.lt gm rfl).2⟩
  rw [h.mo.cellAt i (by omega), tab_row_map]
  have := h.lm
  simp [rAt, show i < LM.length by omega]
end
theorem RowIs.setB {w wr : World} {r : Rw} {b : Nat} {cs : Array Value} (h : RowIs w wr r) (hb : Rec wr b 25 cs) (o : Nat) (u : Value) : RowIs w (wr.setCell ⟨b, o, none⟩ u) r := by
  rcases h with h | h
  · exact .inl h
  · exact .inr (own_setB h hb (by decide) o u)
theorem MvW.setR {w wr : World} {bb br nh gh ch gm cm : Nat} {cs z : Array Value} {LH LM : List Rw} (h : MvW w wr bb br cs z nh gh ch gm cm LH LM) (hne : bb ≠ br) (hbr : w.heap.size ≤ br) (i : Nat) (v : Value) : MvW w (wr.setCell ⟨br, i, none⟩ v) bb br cs (z.setIfInBounds i v) nh gh ch gm cm LH LM :=
  ⟨h.below.setCell (p := ⟨br, i, none⟩) hbr _, h.bank.set_other (p := ⟨br, i, none⟩) (fun e => hne e.symm) _, h.res.set i v, h.lh, h.lm, own_setB h.ho h.res (by decide) i v, own_setB h.mo h.res (by decide) i v, h.ne, fun j hj => (h.hr j hj).setB h.res i v, fun j hj => (h.mr j hj).setB h.res i v⟩
theorem MvW.rows {w wr : World} {bb br nh gh ch gm cm : Nat} {cs z : Array Value} {LH LM : List Rw} (h : MvW w wr bb br cs z nh gh ch gm cm LH LM) : RowsW wr (some ⟨gh, 0, none⟩) LH ∧ RowsW wr (some ⟨gm, 0, none⟩) LM :=
  ⟨⟨Cells.of_own h.ho, fun i hi => (h.hr i (by rw [← h.lh]; exact hi)).cells h.below⟩, ⟨Cells.of_own h.mo, fun i hi => (h.mr i (by rw [← h.lm]; exact hi)).cells h.below⟩⟩
/-- A bank whose rows are of the call's own, or lie where they lay. -/
structure Bk.Own (y : Bk) (w wr : World) : Prop where
  f : wr.ownsRow w.heap.size 3 1 (rowC y.F) y.F.2.2.length (i64s y.F.2.2)
  h : wr.ownsRow w.heap.size 22 1 (.slice y.AH y.H.length y.cH) y.H.length (tab rowV y.H)
  m : wr.ownsRow w.heap.size 22 1 (.slice y.AM y.M.length y.cM) y.M.length (tab rowV y.M)
  hr : ∀ i, i < y.H.length → RowIs w wr (rAt y.H i)
  mr : ∀ i, i < y.M.length → RowIs w wr (rAt y.M i)
theorem Bk.Own.far {y : Bk} {w wr w' : World} (h : y.Own w wr) (hb : Below wr.heap.size wr w') : y.Own w w' :=
  ⟨own_below h.f hb (Nat.le_refl _), own_below h.h hb (Nat.le_refl _), own_below h.m hb (Nat.le_refl _), fun i hi => (h.hr i hi).far hb, fun i hi => (h.mr i hi).far hb⟩
theorem Bk.Own.setB {y : Bk} {w wr : World} {b : Nat} {cs : Array Value} (h : y.Own w wr) (hb : Rec wr b 25 cs) (o : Nat) (u : Value) : y.Own w (wr.setCell ⟨b, o, none⟩ u) :=
  ⟨own_setB h.f hb (by decide) o u, own_setB h.h hb (by decide) o u, own_setB h.m hb (by decide) o u, fun i hi => (h.hr i hi).setB hb o u, fun i hi => (h.mr i hi).setB hb o u⟩
theorem Bk.Own.in {y : Bk} {w wr : World} (h : y.Own w wr) (hb : Below w.heap.size w wr) : y.In wr :=
  ⟨Cells.of_own h.f, ⟨Cells.of_own h.h, fun i hi => (h.hr i hi).cells hb⟩, ⟨Cells.of_own h.m, fun i hi => (h.mr i hi).cells hb⟩⟩
/-- Numbers do not lie in a bank's own cells. -/
theorem Cells.not_bank {w wr : World} {A : Option Addr} {l : List Int} {b : Nat} {z : Array Value} (h : Cells w A (i64s l)) (hr : Rec w b 25 z) (hz : ∀ (i : Nat) (x : Int), z[i]? ≠ some (Value.int .i64 x)) (hk : Kept (fun k => k = b) w wr) : Cells wr A (i64s l) := fun hne => by
  obtain ⟨b1, off, e, hc⟩ := h hne
  refine ⟨b1, off, e, fun i v hi => hk.cell (hc i v hi) (fun (e2 : b1 = b) => ?_)⟩
  have h1 := hc i v hi
  rw [e2, Rec.cell hr] at h1
  simp only [i64s, List.getElem?_map] at hi
  cases hl : l[i]? with
  | none => rw [hl] at hi; cases hi
  | some x =>
    rw [hl] at hi
    simp at hi
    subst hi
    exact hz _ _ h1
theorem Bk.Own.inK {y : Bk} {w wr : World} (h : y.Own w wr) {b : Nat} {z : Array Value} (hr : Rec w b 25 z) (hz : ∀ (i : Nat) (x : Int), z[i]? ≠ some (Value.int .i64 x)) (hk : Kept (fun k => k = b) w wr) : y.In wr :=
  ⟨Cells.of_own h.f, ⟨Cells.of_own h.h, fun i hi => by rcases h.hr i hi with g | g; exact Cells.not_bank g hr hz hk; exact Cells.of_own g⟩,
    ⟨Cells.of_own h.m, fun i hi => by rcases h.mr i hi with g | g; exact Cells.not_bank g hr hz hk; exact Cells.of_own g⟩⟩
/-- What comes of it. -/
def MovedP (x : Bk) (who : Nat) (n : List Int) (s : Int) (w : World) (e : Ending) (w' : World) : Prop :=
  ∃ y : Bk, e = .returned (.agg y.cs) ∧ Below w.heap.size w w' ∧ y.Own w w' ∧ y.F.2.2 = plusF x.F.2.2 n (-s) ∧ valR y.H = (valR x.H).set who (plusF (hasR x who) n s) ∧ valR y.M = valR x.M
end Go.Proofs.Ytddngloojacceaa
