/-
  Layer 44's BankOther: the bank whose clients stand the other way round: where it lies. No condition.
-/
import Derived.Test.YtddngloojacceaaLwD
import Derived.Test.YtddngloojacceaaPlB
import Derived.Test.YtddngloojacceaaRegSplit
namespace Go.Proofs.Ytddngloojacceaa
open Go Go.RowKit
structure OtW (w wr : World) (bb bc : Nat) (cs : Array Value) (fv h0 m0 hv mv : Value) (LH LM : List Rw) : Prop where
  below : Below w.heap.size w wr
  bank : Rec wr bb 25 cs
  box : Rec wr bc 25 #[fv, h0, m0]
  ho : wr.ownsRow w.heap.size 22 1 hv LH.length (tab rowV LH)
  mo : wr.ownsRow w.heap.size 22 1 mv LM.length (tab rowV LM)
  ahm : Apart hv mv
  cb : bc ≠ bb
  hbc : w.heap.size ≤ bc
section
variable {w wr w' : World} {bb bc : Nat} {cs : Array Value} {fv h0 m0 hv mv : Value} {LH LM : List Rw}
theorem OtW.far (h : OtW w wr bb bc cs fv h0 m0 hv mv LH LM) (hb : Below wr.heap.size wr w') : OtW w w' bb bc cs fv h0 m0 hv mv LH LM :=
  ⟨h.below.trans (hb.mono h.below.size), h.bank.below hb (Nat.le_refl _), h.box.below hb (Nat.le_refl _), own_below h.ho hb (Nat.le_refl _), own_below h.mo hb (Nat.le_refl _), h.ahm, h.cb, h.hbc⟩
theorem OtW.pushH (h : OtW w wr bb bc cs fv h0 m0 hv mv LH LM) {hv' : Value} {r : Rw} (ho : w'.ownsRow w.heap.size 22 1 hv' (LH.length + 1) (tab rowV LH ++ [rowC r])) (hg : wr.grownBy w' hv.ownBlock)
    (hap : ∀ v', Apart v' hv → (∀ k, v'.ownBlock = some k → k < wr.heap.size) → Apart v' hv') : OtW w w' bb bc cs fv h0 m0 hv' mv (LH ++ [r]) LM :=
  ⟨grown_below h.below hg h.below.size (fun q hq => (h.ho.lt q hq).1), h.bank.grown h.ho hg (by decide), h.box.grown h.ho hg (by decide), by rw [show tab rowV LH ++ [rowC r] = tab rowV (LH ++ [r]) from tab_snoc rowV LH r] at ho; simpa using ho,
    own_apart h.mo hg h.ahm.symm, (hap _ h.ahm.symm (fun q hq => (h.mo.lt q hq).2)).symm, h.cb, h.hbc⟩
theorem OtW.pushM (h : OtW w wr bb bc cs fv h0 m0 hv mv LH LM) {mv' : Value} {r : Rw} (ho : w'.ownsRow w.heap.size 22 1 mv' (LM.length + 1) (tab rowV LM ++ [rowC r])) (hg : wr.grownBy w' mv.ownBlock)
    (hap : ∀ v', Apart v' mv → (∀ k, v'.ownBlock = some k → k < wr.heap.size) → Apart v' mv') : OtW w w' bb bc cs fv h0 m0 hv mv' LH (LM ++ [r]) :=
  ⟨grown_below h.below hg h.below.size (fun q hq => (h.mo.lt q hq).1), h.bank.grown h.mo hg (by decide), h.box.grown h.mo hg (by decide), own_apart h.ho hg h.ahm, by rw [show tab rowV LM ++ [rowC r] = tab rowV (LM ++ [r]) from tab_snoc rowV LM r] at ho; simpa using ho,
    hap _ h.ahm (fun q hq => (h.ho.lt q hq).2), h.cb, h.hbc⟩
theorem OtW.set1 (h : OtW w wr bb bc cs fv h0 m0 hv mv LH LM) (v : Value) : OtW w (wr.setCell ⟨bc, 1, none⟩ v) bb bc cs fv v m0 hv mv LH LM :=
  ⟨h.below.setCell (p := ⟨bc, 1, none⟩) h.hbc _, h.bank.set_other (p := ⟨bc, 1, none⟩) h.cb _, by simpa using h.box.set 1 v, own_setB h.ho h.box (by decide) 1 v, own_setB h.mo h.box (by decide) 1 v, h.ahm, h.cb, h.hbc⟩
theorem OtW.set2 (h : OtW w wr bb bc cs fv h0 m0 hv mv LH LM) (v : Value) : OtW w (wr.setCell ⟨bc, 2, none⟩ v) bb bc cs fv h0 v hv mv LH LM :=
  ⟨h.below.setCell (p := ⟨bc, 2, none⟩) h.hbc _, h.bank.set_other (p := ⟨bc, 2, none⟩) h.cb _, by simpa using h.box.set 2 v, own_setB h.ho h.box (by decide) 2 v, own_setB h.mo h.box (by decide) 2 v, h.ahm, h.cb, h.hbc⟩
end
theorem cells_1 {w : World} {g : Nat} {v : Value} (h : w.cell? ⟨g, 0, none⟩ = some v) : Cells w (some ⟨g, 0, none⟩) [v] := fun _ => ⟨g, 0, rfl, fun i u hi => by
  match i, hi with
  | 0, hi => simp at hi; subst hi; exact h
  | i + 1, hi => simp at hi⟩
theorem RowsW.cellR {w : World} {A : Option Addr} {l : List Rw} (h : RowsW w A l) {i : Nat} (hi : i < l.length) : ∃ b o : Nat, A = some ⟨b, o, none⟩ ∧ w.cell? ⟨b, o + i, none⟩ = some (rowC (rAt l i)) := by
  obtain ⟨b, o, e, hc⟩ := h.cells.tab_at rowV_length (k := i) (x := rAt l i) (by simp [rAt, hi]) (by omega)
  refine ⟨b, o, e, ?_⟩
  have := hc 0 _ rfl
  simpa [rowC] using this
theorem le_below {B : Nat} {w wr : World} (h : B ≤ w.heap.size) (hb : Below w.heap.size w wr) : B ≤ wr.heap.size := Nat.le_trans h hb.size
theorem grown_new {wo cur w6 : World} {B : Nat} {e : TypeId} {s n : Nat} {v : Value} {xs : List Value} (hg : cur.grownBy w6 v.ownBlock) (ho : wo.ownsRow B e s v n xs) : ∀ (g : Nat) (u : Value), wo.heap.size ≤ g → cur.cell? ⟨g, 0, none⟩ = some u → w6.cell? ⟨g, 0, none⟩ = some u := fun g u hle hc => by
  rw [World.cell?_of_block (hg.block g (World.block_lt_of_cell? cur _ hc) (fun e => by have := (ho.lt g e.symm).2; omega))]
  exact hc
def mI (v : Value) : Nat := match v with | .int _ n => (n + 1).toNat | _ => 0
/-- The first q of them, from the last one on. -/
def revK (l : List Rw) (q : Nat) : List Rw := l.reverse.take q
theorem revK_length {l : List Rw} {q : Nat} (h : q ≤ l.length) : (revK l q).length = q := by simp [revK, h]
theorem revK_succ {l : List Rw} {q : Nat} (h : q < l.length) : revK l (q + 1) = revK l q ++ [rAt l (l.length - 1 - q)] := by
  unfold revK
  rw [List.take_succ_eq_append_getElem (by simpa using h)]
  congr 1
  simp [rAt, show l.length - 1 - q < l.length by omega]
theorem revK_all (l : List Rw) : revK l l.length = l.reverse := by unfold revK; rw [List.take_of_length_le (by simp)]
/-- The other way round. -/
def revBk (x : Bk) (h m : Option Addr) (ch cm : Nat) : Bk := ⟨x.F, h, ch, x.H.reverse, m, cm, x.M.reverse⟩
theorem rAt_rev {l : List Rw} {i : Nat} (h : i < l.length) : rAt l.reverse i = rAt l (l.length - 1 - i) := by
  unfold rAt
  rw [List.getElem?_reverse h]
theorem revBk_is {x : Bk} {nh : Nat} (hl : x.H.length = nh) (ml : x.M.length = nh) (h m : Option Addr) (ch cm : Nat) : RevB x (revBk x h m ch cm) nh := by
  refine ⟨rfl, fun i hi => ?_, fun i hi => ?_, hl, by simp [revBk, hl], ml, by simp [revBk, ml]⟩
  · unfold hasR revBk
    simp only
    rw [rAt_rev (by omega), hl]
  · unfold mostR revBk
    simp only
    rw [rAt_rev (by omega), ml]
theorem rows_rev {w w' : World} {A A' : Option Addr} {l : List Rw} (h : RowsW w A l) (hb : Below w.heap.size w w') (hc : Cells w' A' (tab rowV l.reverse)) : RowsW w' A' l.reverse :=
  ⟨hc, fun i hi => by
    have hi2 : i < l.length := by simpa using hi
    rw [rAt_rev hi2]
    exact (h.each _ (by omega)).below hb⟩
theorem sm_rev {x : Bk} (h : x.Sm) {a m : Option Addr} {ch cm : Nat} : (revBk x a m ch cm).Sm := by
  refine ⟨h.1, by simpa [revBk] using h.2.1, fun i => ⟨?_, ?_⟩⟩
  · by_cases hi : i < x.H.length
    · have := (h.2.2 (x.H.length - 1 - i)).1
      unfold hasR revBk at *
      simp only at *
      rw [rAt_rev hi]; exact this
    · unfold hasR revBk rAt; rw [List.getElem?_eq_none (by simp; omega)]; simp
  · by_cases hi : i < x.M.length
    · have := (h.2.2 (x.M.length - 1 - i)).2
      unfold mostR revBk at *
      simp only at *
      rw [rAt_rev hi]; exact this
    · unfold mostR revBk rAt; rw [List.getElem?_eq_none (by simp; omega)]; simp
end Go.Proofs.Ytddngloojacceaa
