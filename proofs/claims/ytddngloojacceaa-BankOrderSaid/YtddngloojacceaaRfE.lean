/-
  Layer 44, the document's: so much from free to a client: where it lies. Plain laws. No condition.
-/
import Derived.Test.YtddngloojacceaaRfD
namespace Go.Proofs.Ytddngloojacceaa
open Go Go.RowKit
/-- The first t of what is free, less so much. -/
def subK (F n : List Int) (s : Int) (t : Nat) : List Int := (List.range t).map fun (i : Nat) => atL F i + -s * atL n i
theorem subK_length (F n : List Int) (s : Int) (t : Nat) : (subK F n s t).length = t := by simp [subK]
theorem subK_succ (F n : List Int) (s : Int) (t : Nat) : subK F n s (t + 1) = subK F n s t ++ [atL F t + -s * atL n t] := by simp [subK, List.range_succ]
theorem subK_all (F n : List Int) (s : Int) : subK F n s F.length = plusF F n (-s) := rfl
structure MoW (w wr : World) (bb br bc : Nat) (cs z : Array Value) (fv hv mv : Value) (F : List Int) (LH : List Rw) : Prop where
  below : Below w.heap.size w wr
  bank : Rec wr bb 25 cs
  res : Rec wr br 25 z
  box : Rec wr bc 25 #[fv, hv, mv]
  fo : wr.ownsRow w.heap.size 3 1 fv F.length (i64s F)
  ho : wr.ownsRow w.heap.size 22 1 hv LH.length (tab rowV LH)
  hr : ∀ i, i < LH.length → RowIs w wr (rAt LH i)
  cb : bc ≠ bb
  cr : bc ≠ br
  hbc : w.heap.size ≤ bc
section
variable {w wr w' : World} {bb br bc : Nat} {cs z : Array Value} {fv hv mv : Value} {F : List Int} {LH : List Rw}
theorem MoW.far (h : MoW w wr bb br bc cs z fv hv mv F LH) (hb : Below wr.heap.size wr w') : MoW w w' bb br bc cs z fv hv mv F LH :=
  ⟨h.below.trans (hb.mono h.below.size), h.bank.below hb (Nat.le_refl _), h.res.below hb (Nat.le_refl _), h.box.below hb (Nat.le_refl _), own_below h.fo hb (Nat.le_refl _), own_below h.ho hb (Nat.le_refl _), fun i hi => (h.hr i hi).far hb, h.cb, h.cr, h.hbc⟩
theorem MoW.drew (h : MoW w wr bb br bc cs z fv hv mv F LH) : MoW w wr.drew bb br bc cs z fv hv mv F LH := h.far (Below.refl _ wr).drew
/-- One more of what is free. -/
theorem MoW.pushF (h : MoW w wr bb br bc cs z fv hv mv F []) {fv' : Value} {v : Int} (ho : w'.ownsRow w.heap.size 3 1 fv' (F.length + 1) (i64s F ++ [.int .i64 v])) (hg : wr.grownBy w' fv.ownBlock) :
    MoW w (w'.setCell ⟨bc, 0, none⟩ fv') bb br bc cs z fv' hv mv (F ++ [v]) [] := by
  have b1 := h.box.grown h.fo hg (by decide)
  have h1 : Below w.heap.size w w' := grown_below h.below hg h.below.size (fun q hq => (h.fo.lt q hq).1)
  refine ⟨h1.setCell (p := ⟨bc, 0, none⟩) h.hbc _, (h.bank.grown h.fo hg (by decide)).set_other (p := ⟨bc, 0, none⟩) h.cb _, (h.res.grown h.fo hg (by decide)).set_other (p := ⟨bc, 0, none⟩) h.cr _, by simpa using b1.set 0 fv', ?_, own_setB (own_apart h.ho hg (apart_types h.ho h.fo (by decide))) b1 (by decide) 0 fv', fun i hi => by simp at hi, h.cb, h.cr, h.hbc⟩
  have := own_setB ho b1 (by decide) 0 fv'
  rw [i64s_snoc] at this
  simpa using this
/-- One more row. -/
theorem MoW.pushH (h : MoW w wr bb br bc cs z fv hv mv F LH) {hv' : Value} {r : Rw} (hr : RowIs w wr r) (ho : w'.ownsRow w.heap.size 22 1 hv' (LH.length + 1) (tab rowV LH ++ [rowC r])) (hg : wr.grownBy w' hv.ownBlock) :
    MoW w (w'.setCell ⟨bc, 1, none⟩ hv') bb br bc cs z fv hv' mv F (LH ++ [r]) := by
  have b1 := h.box.grown h.ho hg (by decide)
  have h1 : Below w.heap.size w w' := grown_below h.below hg h.below.size (fun q hq => (h.ho.lt q hq).1)
  refine ⟨h1.setCell (p := ⟨bc, 1, none⟩) h.hbc _, (h.bank.grown h.ho hg (by decide)).set_other (p := ⟨bc, 1, none⟩) h.cb _, (h.res.grown h.ho hg (by decide)).set_other (p := ⟨bc, 1, none⟩) h.cr _, by simpa using b1.set 1 hv', own_setB (own_apart h.fo hg (apart_types h.fo h.ho (by decide))) b1 (by decide) 1 hv', ?_, fun i hi => ?_, h.cb, h.cr, h.hbc⟩
  · have := own_setB ho b1 (by decide) 1 hv'
    rw [show tab rowV LH ++ [rowC r] = tab rowV (LH ++ [r]) from tab_snoc rowV LH r] at this
    simpa using this
  · by_cases e : i < LH.length
    · have : rAt (LH ++ [r]) i = rAt LH i := by unfold rAt; rw [List.getElem?_append_left e]
      rw [this]
      exact ((h.hr i e).grown h.ho hg).setB b1 1 hv'
    · have e2 : i = LH.length := by simp at hi; omega
      subst e2
      have : rAt (LH ++ [r]) LH.length = r := by simp [rAt]
      rw [this]
      exact (hr.grown h.ho hg).setB b1 1 hv'
theorem MoW.setR (h : MoW w wr bb br bc cs z fv hv mv F LH) (hne : bb ≠ br) (hbr : w.heap.size ≤ br) (i : Nat) (v : Value) : MoW w (wr.setCell ⟨br, i, none⟩ v) bb br bc cs (z.setIfInBounds i v) fv hv mv F LH :=
  ⟨h.below.setCell (p := ⟨br, i, none⟩) hbr _, h.bank.set_other (p := ⟨br, i, none⟩) (fun e => hne e.symm) _, h.res.set i v, h.box.set_other (p := ⟨br, i, none⟩) (fun e => h.cr e.symm) _, own_setB h.fo h.res (by decide) i v, own_setB h.ho h.res (by decide) i v, fun j hj => (h.hr j hj).setB h.res i v, h.cb, h.cr, h.hbc⟩
end
/-- The first t rows, one of them changed. -/
def rowsK (H : List (List Int)) (who : Nat) (r : List Int) (t : Nat) : List (List Int) := (List.range t).map fun i => if i = who then r else atR H i
theorem rowsK_succ (H : List (List Int)) (who : Nat) (r : List Int) (t : Nat) : rowsK H who r (t + 1) = rowsK H who r t ++ [if t = who then r else atR H t] := by simp [rowsK, List.range_succ]
theorem rowsK_length (H : List (List Int)) (who : Nat) (r : List Int) (t : Nat) : (rowsK H who r t).length = t := by simp [rowsK]
theorem rowsK_all (H : List (List Int)) (who : Nat) (r : List Int) : rowsK H who r H.length = H.set who r := by
  apply List.ext_getElem?
  intro i
  rw [List.getElem?_set]
  by_cases h : i < H.length
  · by_cases e : who = i
    · subst e; simp [rowsK, h]
    · rw [if_neg e]
      have e2 : ¬ i = who := fun x => e x.symm
      simp [rowsK, h, e2, atR]
  · by_cases e : who = i
    · subst e; simp [rowsK, h]
    · rw [if_neg e]; simp [rowsK, h]
/-- A bank whose free numbers and clients' rows are of the call's own; the rest is as it was. -/
structure Bk.Own2 (y : Bk) (x : Bk) (w wr : World) : Prop where
  f : wr.ownsRow w.heap.size 3 1 (rowC y.F) y.F.2.2.length (i64s y.F.2.2)
  h : wr.ownsRow w.heap.size 22 1 (.slice y.AH y.H.length y.cH) y.H.length (tab rowV y.H)
  hr : ∀ i, i < y.H.length → RowIs w wr (rAt y.H i)
  am : y.AM = x.AM
  cm : y.cM = x.cM
  m : y.M = x.M
def RMovedP (x : Bk) (who : Nat) (n : List Int) (s : Int) (w : World) (e : Ending) (w' : World) : Prop :=
  ∃ y : Bk, e = .returned (.agg y.cs) ∧ Below w.heap.size w w' ∧ y.Own2 x w w' ∧ Eqv y (movedB x who n s)
end Go.Proofs.Ytddngloojacceaa
