/-
  Layer 44: who is served, one behind the other: what it is, where it lies; an element is taken out of a row; is a number in a row? No condition.
-/
import Derived.Test.YtddngloojacceaaBkG
import Derived.Test.YtddngloojacceaaPushB
import Derived.Test.YtddngloojacceaaOwnCut
import Derived.Test.YtddngloojacceaaShelf
namespace Go.Proofs.Ytddngloojacceaa
open Go Go.RowKit
/-- All that can be served, one behind the other: what is free, who is left, who was served. -/
def serveN (x : Bk) (k : Nat) : Nat → List Int → List Int → List Int → List Int
  | 0, _, _, out => out
  | m + 1, free, left, out => match left.findIdx? (fun i => canK x free i.toNat k) with
    | none => out
    | some j => serveN x k m (plusF free (hasR x (atL left j).toNat) 1) (left.eraseIdx j) (out ++ [atL left j])
def iota (n : Nat) : List Int := (List.range n).map fun (i : Nat) => (i : Int)
def serveF (x : Bk) (k nh : Nat) : List Int := serveN x k nh x.F.2.2 (iota nh) []
theorem iota_length (n : Nat) : (iota n).length = n := by simp [iota]
theorem iota_at {n i : Nat} (h : i < n) : atL (iota n) i = i := by simp [iota, atL, h]
/-- The first k are filled. -/
def iotaK (n k : Nat) : List Int := (List.range n).map fun (i : Nat) => if i < k then (i : Int) else 0
theorem iotaK_length (n k : Nat) : (iotaK n k).length = n := by simp [iotaK]
theorem iotaK_zero (n : Nat) : iotaK n 0 = List.replicate n 0 := by
  apply List.ext_getElem?
  intro i
  simp only [iotaK, List.getElem?_map, List.getElem?_replicate]
  by_cases h : i < n <;> simp [h]
theorem iotaK_all (n : Nat) : iotaK n n = iota n := by
  unfold iotaK iota
  apply List.map_congr_left
  intro i hi
  rw [if_pos (by simpa using hi)]
theorem iotaK_set {n k : Nat} (h : k < n) : (iotaK n k).set k k = iotaK n (k + 1) := by
  apply List.ext_getElem?
  intro i
  rw [List.getElem?_set, iotaK_length]
  by_cases hi : k = i
  · subst hi
    rw [if_pos rfl, if_pos h]
    simp [iotaK, h]
  · rw [if_neg hi]
    by_cases h2 : i < n
    · by_cases h3 : i < k
      · simp [iotaK, h2, h3, show i < k + 1 by omega]
      · simp [iotaK, h2, h3, show ¬ i < k + 1 by omega]
    · simp [iotaK, h2]
/-- Where it lies. -/
structure SvW (w wr : World) (bb bf : Nat) (x : Bk) (k : Nat) (fv lv ov : Value) (free left out : List Int) : Prop where
  below : Below w.heap.size w wr
  bank : Rec wr bb 25 x.cs
  box : Rec wr bf 22 #[fv]
  fo : wr.ownsRow w.heap.size 3 1 fv k (i64s free)
  lo : wr.ownsRow w.heap.size 3 1 lv left.length (i64s left)
  oo : wr.ownsRow w.heap.size 3 1 ov out.length (i64s out)
  afl : Apart fv lv
  afo : Apart fv ov
  alo : Apart lv ov
  hbf : w.heap.size ≤ bf
section
variable {w wr w' : World} {bb bf k : Nat} {x : Bk} {fv lv ov : Value} {free left out : List Int}
theorem SvW.past (h : SvW w wr bb bf x k fv lv ov free left out) (y : Past) : SvW w (wr.past y) bb bf x k fv lv ov free left out :=
  ⟨RowKit.Below.past h.below y, h.bank.past y, h.box.past y, own_past h.fo y, own_past h.lo y, own_past h.oo y, h.afl, h.afo, h.alo, h.hbf⟩
theorem SvW.drew (h : SvW w wr bb bf x k fv lv ov free left out) : SvW w wr.drew bb bf x k fv lv ov free left out :=
  ⟨h.below.drew, h.bank.drew, h.box.drew, h.fo.drew, h.lo.drew, h.oo.drew, h.afl, h.afo, h.alo, h.hbf⟩
/-- A new row of what is free. -/
theorem SvW.fed (h : SvW w wr bb bf x k fv lv ov free left out) {fv' : Value} {free' : List Int} (hb : Below wr.heap.size wr w') (ho : w'.ownsRow wr.heap.size 3 1 fv' k (i64s free')) :
    SvW w (w'.setCell ⟨bf, 0, none⟩ fv') bb bf x k fv' lv ov free' left out := by
  have hbk := h.bank.below hb (Nat.le_refl _)
  have hbx := h.box.below hb (Nat.le_refl _)
  have hsz := h.below.size
  have ap : ∀ {v : Value} {n : Nat} {xs : List Value}, wr.ownsRow w.heap.size 3 1 v n xs → Apart fv' v := fun {v n xs} hv => by
    cases e1 : fv'.ownBlock with
    | none => exact .inl e1
    | some q =>
      cases e2 : v.ownBlock with
      | none => exact .inr (.inl e2)
      | some q2 => exact .inr (.inr (by have a1 := (ho.lt q e1).1; have a2 := (hv.lt q2 e2).2; rw [e1, e2]; simp; omega))
  have hne : bb ≠ bf := fun e => by
    subst e
    have e1 : some (Obj.cells x.cs 25 (0, 0)) = some (Obj.cells #[fv] 22 (0, 0)) := (h.bank : wr.heap[bb]? = _).symm.trans h.box
    simp at e1
  refine ⟨(hb.mono hsz |> h.below.trans).setCell h.hbf _, hbk.set_other (p := ⟨bf, 0, none⟩) (fun e => hne e.symm) _, ?_, ?_, ?_, ?_, ap h.lo, ap h.oo, h.alo, h.hbf⟩
  · simpa using hbx.set 0 fv'
  · exact own_setB (own_base ho hsz) hbx (by decide) 0 fv'
  · exact own_setB (own_below h.lo hb (Nat.le_refl _)) hbx (by decide) 0 fv'
  · exact own_setB (own_below h.oo hb (Nat.le_refl _)) hbx (by decide) 0 fv'
theorem grown_below {B : Nat} {a w1 : World} {row : Option Nat} (h : Below B a w) (hg : w.grownBy w1 row) (hB : B ≤ w.heap.size) (hr : ∀ q, row = some q → B ≤ q) : Below B a w1 := h.grown hg hB hr
/-- One more was served. -/
theorem SvW.served (h : SvW w wr bb bf x k fv lv ov free left out) {ov' : Value} {i : Int} (ho : w'.ownsRow w.heap.size 3 1 ov' (out.length + 1) (i64s out ++ [.int .i64 i])) (hg : wr.grownBy w' ov.ownBlock)
    (hap : ∀ v', Apart v' ov → (∀ k, v'.ownBlock = some k → k < wr.heap.size) → Apart v' ov') : SvW w w' bb bf x k fv lv ov' free left (out ++ [i]) :=
  ⟨grown_below h.below hg h.below.size (fun q hq => (h.oo.lt q hq).1), h.bank.grown h.oo hg (by decide), h.box.grown h.oo hg (by decide), own_apart h.fo hg h.afo, own_apart h.lo hg h.alo,
    by rw [← i64s_snoc]; simpa using ho, h.afl, hap _ h.afo (fun q hq => (h.fo.lt q hq).2), hap _ h.alo (fun q hq => (h.lo.lt q hq).2), h.hbf⟩
/-- One is taken out of those that are left. -/
theorem SvW.gone (h : SvW w wr bb bf x k fv lv ov free left out) {lv' : Value} {left' : List Int} (ho : w'.ownsRow w.heap.size 3 1 lv' left'.length (i64s left')) (hg : wr.grownBy w' lv.ownBlock) (e : lv'.ownBlock = lv.ownBlock) :
    SvW w w' bb bf x k fv lv' ov free left' out :=
  ⟨grown_below h.below hg h.below.size (fun q hq => (h.lo.lt q hq).1), h.bank.grown h.lo hg (by decide), h.box.grown h.lo hg (by decide), own_apart h.fo hg h.afl, ho, own_apart h.oo hg h.alo.symm,
    by unfold Apart at *; rw [e]; exact h.afl, h.afo, by unfold Apart at *; rw [e]; exact h.alo, h.hbf⟩
end
theorem getD_atL (l : List Int) (j : Nat) : l.getD j 0 = atL l j := by simp [atL]
theorem setL_all : ∀ (vs xs : List Value), vs.length = xs.length → setL xs 0 vs = vs := fun vs xs h => by
  apply List.ext_getElem?
  intro j
  rw [setL_get vs xs 0 (by omega)]
  by_cases hj : j < vs.length
  · rw [if_pos ⟨Nat.zero_le _, by omega⟩, Nat.sub_zero]
  · rw [if_neg (by omega), List.getElem?_eq_none (by omega), List.getElem?_eq_none (by omega)]
set_option maxHeartbeats 1000000 in
theorem delete_any (B g n c i : Nat) (l : List Int) (hi : i < n) (w : World) (ho : w.ownsRow B 3 1 (.slice (some ⟨g, 0, none⟩) n c) n (i64s l)) :
    Calls Try.prog 37 #[.slice (some ⟨g, 0, none⟩) n c, .int .i64 i, .int .i64 ((i : Int) + 1)] w fun e w' =>
      e = .returned (.slice (some ⟨g, 0, none⟩) (n - 1) c) ∧ w'.ownsRow B 3 1 (.slice (some ⟨g, 0, none⟩) (l.eraseIdx i).length c) (l.eraseIdx i).length (i64s (l.eraseIdx i)) ∧ w.grownBy w' (some g) := by
  have hl : l.length = n := by have := ho.1; simpa [i64s] using this
  have hcap := own_cap ho
  have hmx : c ≤ 9223372036854775807 := by
    rcases ho.2 with ⟨h0, h1⟩ | ⟨g', cap', cur, hv, _, _, _, hc, _⟩
    · cases h0
    · injection hv with _ _ e3; subst e3; unfold maxLen at hc; exact hc
  have hd := Try.slices_Delete_int_cells g 0 n c i (i + 1) l w (by omega) hcap hmx (by omega) (by omega)
    (fun j hj => by
      rw [getD_atL, Nat.zero_add]
      have := ho.cellAt j (by omega)
      rw [this]
      simp [i64s, atL, show j < l.length from hj])
    (fun j hj => by rw [Nat.zero_add]; exact ho.frozenAt j)
  refine hd.mono ?_
  rintro e w' ⟨he, q, rfl⟩
  have hlen : (((l.take n).take i ++ (l.take n).drop (i + 1) ++ List.replicate (i + 1 - i) (0 : Int)).map (Value.int .i64)).length = (i64s l).length := by
    simp [i64s, hl]
    omega
  have h1 := own_setCells (((l.take n).take i ++ (l.take n).drop (i + 1) ++ List.replicate (i + 1 - i) (0 : Int)).map (Value.int .i64)) (i64s l) 0 (w.drewN q) ho
  rw [setL_all _ _ hlen] at h1
  have h2 := own_cut h1.1 (m := n - 1) (by omega)
  have h3 : ((((l.take n).take i ++ (l.take n).drop (i + 1) ++ List.replicate (i + 1 - i) (0 : Int)).map (Value.int .i64)).take ((n - 1) * 1)) = i64s (l.eraseIdx i) := by
    rw [List.take_of_length_le (show l.length ≤ n by omega), Nat.mul_one, List.eraseIdx_eq_take_drop_succ, ← List.map_take]
    unfold i64s
    rw [List.take_append_of_le_length (by simp; omega), List.take_of_length_le (by simp; omega)]
  have h4 : (l.eraseIdx i).length = n - 1 := by rw [List.length_eraseIdx]; rw [if_pos (by omega)]; omega
  rw [h3] at h2
  have e1 : i + 1 - i = 1 := by omega
  rw [h4]
  exact ⟨by rw [he, e1], h2, ⟨h1.2.os, h1.2.tape, h1.2.output, h1.2.size, h1.2.block⟩⟩
theorem contains_any (A : Option Addr) (ca n : Nat) (l : List Int) (v : Int) (en : l.length = n) (hn : n ≤ 1000000) (w : World) (ha : Cells w A (i64s l)) :
    Calls Try.prog 23 #[.slice A n ca, .int .i64 v] w (Gives (.bool (l.contains v)) w) := by
  cases l with
  | nil =>
    simp at en
    subst en
    refine (Try.slices_Contains_int_empty A ca v w).mono ?_
    rintro e w' ⟨rfl, rfl⟩
    exact Gives.refl (by simp)
  | cons z zs =>
    obtain ⟨b, o, rfl, hc⟩ := ha (by simp [i64s])
    refine (Try.slices_Contains_int b o n ca (z :: zs) v w (by omega) (by omega) (fun j hj => hc j _ ?_)).mono ?_
    · rw [getD_atL]; simp only [i64s, atL, List.getElem?_map, List.getElem?_eq_getElem hj]; rfl
    · rintro e w' ⟨rfl, rfl⟩
      refine Gives.refl ?_
      rw [List.take_of_length_le (by omega)]
end Go.Proofs.Ytddngloojacceaa
