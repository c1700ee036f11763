/-
  Layer 44: banks that read alike are alike; what asking and giving back come to. Plain laws. No condition.
-/
import Derived.Test.YtddngloojacceaaBkM
namespace Go.Proofs.Ytddngloojacceaa
open Go Go.RowKit
/-- Two banks that read alike. -/
structure Eqv (x y : Bk) : Prop where
  f : x.F.2.2 = y.F.2.2
  h : valR x.H = valR y.H
  m : valR x.M = valR y.M
theorem Eqv.refl (x : Bk) : Eqv x x := ⟨rfl, rfl, rfl⟩
theorem Eqv.symm {x y : Bk} (e : Eqv x y) : Eqv y x := ⟨e.f.symm, e.h.symm, e.m.symm⟩
theorem Eqv.trans {x y z : Bk} (e : Eqv x y) (g : Eqv y z) : Eqv x z := ⟨e.f.trans g.f, e.h.trans g.h, e.m.trans g.m⟩
theorem hasR_val (x : Bk) (i : Nat) : hasR x i = atR (valR x.H) i := (atR_val _ _).symm
theorem mostR_val (x : Bk) (i : Nat) : mostR x i = atR (valR x.M) i := (atR_val _ _).symm
section
variable {x y : Bk}
theorem Eqv.has (e : Eqv x y) (i : Nat) : hasR x i = hasR y i := by rw [hasR_val, hasR_val, e.h]
theorem Eqv.most (e : Eqv x y) (i : Nat) : mostR x i = mostR y i := by rw [mostR_val, mostR_val, e.m]
theorem Eqv.hl (e : Eqv x y) : x.H.length = y.H.length := by rw [← valR_length, e.h, valR_length]
theorem Eqv.ml (e : Eqv x y) : x.M.length = y.M.length := by rw [← valR_length, e.m, valR_length]
theorem Eqv.mayJ (e : Eqv x y) (i : Nat) : mayI x i = mayI y i := by unfold Proofs.Ytddngloojacceaa.mayI; rw [e.has, e.most, e.f]
theorem Eqv.may (e : Eqv x y) : mayB x = mayB y := by
  unfold mayB
  rw [e.f, e.hl, e.ml, show mayI x = mayI y from funext e.mayJ]
theorem Eqv.can (e : Eqv x y) (free : List Int) (i k : Nat) : canK x free i k = canK y free i k := by unfold canK; rw [e.has, e.most]
theorem Eqv.serve (e : Eqv x y) (k : Nat) : ∀ (m : Nat) (free left out : List Int), serveN x k m free left out = serveN y k m free left out
  | 0, _, _, _ => rfl
  | m + 1, free, left, out => by
    rw [serveN, serveN, show (fun i : Int => canK x free i.toNat k) = fun i => canK y free i.toNat k from funext fun i => e.can free i.toNat k]
    split
    · rfl
    · rw [e.has, e.serve k m]
theorem Eqv.served (e : Eqv x y) : servedF x = servedF y := by unfold servedF serveF; rw [e.f, e.hl, e.serve]
theorem Eqv.order (e : Eqv x y) : orderF x = orderF y := by unfold orderF; rw [e.served, e.may, e.hl]
theorem Eqv.stuck (e : Eqv x y) : stuckF x = stuckF y := by unfold stuckF; rw [e.served, e.may, e.hl]
end
/-- The bank of these numbers. -/
def mkB (f : List Int) (h m : List (List Int)) : Bk := ⟨(none, 0, f), none, 0, h.map fun l => (none, 0, l), none, 0, m.map fun l => (none, 0, l)⟩
theorem mkB_h (f : List Int) (h m : List (List Int)) : valR (mkB f h m).H = h := by simp [valR, mkB, Function.comp_def]
theorem mkB_m (f : List Int) (h m : List (List Int)) : valR (mkB f h m).M = m := by simp [valR, mkB, Function.comp_def]
def movedB (x : Bk) (who : Nat) (n : List Int) (s : Int) : Bk := mkB (plusF x.F.2.2 n (-s)) ((valR x.H).set who (plusF (hasR x who) n s)) (valR x.M)
theorem Eqv.moved {x y : Bk} (e : Eqv x y) (who : Nat) (n : List Int) (s : Int) : Eqv (movedB x who n s) (movedB y who n s) := by
  unfold movedB
  rw [e.f, e.h, e.m, e.has]
  exact Eqv.refl _
theorem MovedP.eqv {x : Bk} {who : Nat} {n : List Int} {s : Int} {w w' : World} {e : Ending} (h : MovedP x who n s w e w') : ∃ y : Bk, e = .returned (.agg y.cs) ∧ Below w.heap.size w w' ∧ y.Own w w' ∧ Eqv y (movedB x who n s) := by
  obtain ⟨y, h1, h2, h3, h4, h5, h6⟩ := h
  exact ⟨y, h1, h2, h3, h4, h5.trans (mkB_h _ _ _).symm, h6.trans (mkB_m _ _ _).symm⟩
theorem fits_of {x : Bk} {who : Int} {n : List Int} (h : fitsF x who n = true) : mayB x = true ∧ ∃ j : Nat, who = j ∧ j < x.H.length ∧ n.length = x.F.2.2.length ∧ ∀ i, i < n.length → 0 ≤ atL n i := by
  unfold fitsF at h
  simp only [Bool.and_eq_true, decide_eq_true_eq, beq_iff_eq] at h
  obtain ⟨h1, h2, h3, h4, h5⟩ := h
  exact ⟨h1, who.toNat, by omega, by omega, h4, posR_iff.1 h5⟩
/-- What asking comes to. -/
def askE (x : Bk) (who : Int) (n : List Int) : Int :=
  if fitsF x who n = false then 1
  else if withK n (plusF (mostR x who.toNat) (hasR x who.toNat) (-1)) n.length = false then 2
  else if withK n x.F.2.2 n.length = false then 8
  else if orderF (movedB x who.toNat n 1) = none then 9 else 0
def giveE (x : Bk) (who : Int) (n : List Int) : Int :=
  if fitsF x who n = false then 1
  else if roomK x.F.2.2 n x.F.2.2.length = false then 1
  else if withK n (hasR x who.toNat) n.length = false then 2 else 0
def nilB : Bk := ⟨(none, 0, []), none, 0, [], none, 0, []⟩
theorem nilB_in (w : World) : nilB.In w := ⟨Cells.nil _ _, ⟨Cells.nil _ _, fun i hi => by simp [nilB] at hi⟩, ⟨Cells.nil _ _, fun i hi => by simp [nilB] at hi⟩⟩
def BankP (c : Int) (z : Bk) (w : World) (e : Ending) (w' : World) : Prop :=
  ∃ y : Bk, e = .returned (.tuple #[.agg y.cs, .int .i64 c]) ∧ Below w.heap.size w w' ∧ y.In w' ∧ Eqv y (if c = 0 then z else nilB)
/-- Three cells are stored. -/
theorem stored3 {w wr : World} {b : Nat} {z0 z1 z2 : Value} (hr : Rec wr b 25 #[z0, z1, z2]) (hb : Below w.heap.size w wr) (hbb : w.heap.size ≤ b) (v0 v1 v2 : Value) :
    Rec (((wr.setCell ⟨b, 0, none⟩ v0).setCell ⟨b, 1, none⟩ v1).setCell ⟨b, 2, none⟩ v2) b 25 #[v0, v1, v2] ∧ Below w.heap.size w (((wr.setCell ⟨b, 0, none⟩ v0).setCell ⟨b, 1, none⟩ v1).setCell ⟨b, 2, none⟩ v2) := by
  refine ⟨?_, ((hb.setCell (p := ⟨b, 0, none⟩) hbb _).setCell (p := ⟨b, 1, none⟩) hbb _).setCell (p := ⟨b, 2, none⟩) hbb _⟩
  have := ((hr.set 0 v0).set 1 v1).set 2 v2
  simpa using this
theorem BankP.nil {c : Int} (hc : c ≠ 0) {z : Bk} {w w' : World} (hb : Below w.heap.size w w') : BankP c z w (.returned (.tuple #[.agg #[.slice none 0 0, .slice none 0 0, .slice none 0 0], .int .i64 c])) w' :=
  ⟨nilB, rfl, hb, nilB_in _, by rw [if_neg hc]; exact Eqv.refl _⟩
theorem drewS {w W : World} (h : Below w.heap.size w.drew W) : Below w.heap.size w W := (Below.refl _ w).drew.trans h
/-- A bank's cells are in what a store into another bank's cells leaves. -/
theorem Rows_setB {w : World} {A : Option Addr} {l : List Rw} (h : RowsW w A l) {b : Nat} (hb : w.heap.size ≤ b) {wr : World} (hbel : Below w.heap.size w wr) (o : Nat) (u : Value) : RowsW (wr.setCell ⟨b, o, none⟩ u) A l :=
  h.below (hbel.setCell (p := ⟨b, o, none⟩) hb u)
end Go.Proofs.Ytddngloojacceaa
