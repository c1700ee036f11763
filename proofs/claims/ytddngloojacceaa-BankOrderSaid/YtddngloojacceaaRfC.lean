/-
  Layer 44, the document's: who is served: what it is, and where it lies. Plain laws. No condition.
-/
import Derived.Test.YtddngloojacceaaRfB
namespace Go.Proofs.Ytddngloojacceaa
open Go Go.RowKit
theorem stuckK_nil (nh : Nat) : stuckK [] nh = iota nh := by
  unfold stuckK
  exact List.filter_eq_self.2 (fun _ _ => rfl)
theorem iota_split {nh i : Nat} (h : i < nh) : iota nh = iota i ++ (i : Int) :: ((List.range (nh - i - 1)).map fun (t : Nat) => ((i + 1 + t : Nat) : Int)) := by
  apply List.ext_getElem?
  intro t
  rw [List.getElem?_append, iota_length]
  by_cases h1 : t < i
  · rw [if_pos h1]
    simp [iota, show t < nh by omega, h1]
  · rw [if_neg h1]
    by_cases h2 : t = i
    · subst h2
      simp [iota, h]
    · obtain ⟨d, hd⟩ : ∃ d, t - i = d + 1 := ⟨t - i - 1, by omega⟩
      rw [hd, List.getElem?_cons_succ]
      by_cases h3 : t < nh
      · simp [iota, h3, show d < nh - i - 1 by omega]
        omega
      · simp [iota, h3, show ¬ d < nh - i - 1 by omega]
theorem mem_iota {n : Nat} {v : Int} : v ∈ iota n ↔ ∃ t : Nat, v = t ∧ t < n := by
  simp only [iota, List.mem_map, List.mem_range]
  exact ⟨fun ⟨t, h, e⟩ => ⟨t, e.symm, h⟩, fun ⟨t, e, h⟩ => ⟨t, h, e.symm⟩⟩
theorem stuck_step {out : List Int} {nh i : Nat} {p : Int → Bool} (hi : i < nh) (hno : out.contains (i : Int) = false) (hp : p i = true) (hb : ∀ t : Nat, t < i → out.contains (t : Int) = false → p t = false) :
    ∃ j, (stuckK out nh).findIdx? p = some j ∧ atL (stuckK out nh) j = i ∧ (stuckK out nh).eraseIdx j = stuckK (out ++ [(i : Int)]) nh := by
  obtain ⟨B, eB⟩ : ∃ B, B = ((List.range (nh - i - 1)).map fun (t : Nat) => ((i + 1 + t : Nat) : Int)) := ⟨_, rfl⟩
  have e := iota_split hi
  rw [← eB] at e
  have e1 : stuckK out nh = stuckK out i ++ (i : Int) :: B.filter (fun v => !out.contains v) := by
    unfold stuckK
    rw [e, List.filter_append, List.filter_cons, if_pos (by rw [hno]; rfl)]
  have hA : ∀ v ∈ stuckK out i, p v = false := fun v hv => by
    unfold stuckK at hv
    obtain ⟨h1, h2⟩ := List.mem_filter.1 hv
    obtain ⟨t, rfl, ht⟩ := mem_iota.1 h1
    exact hb t ht (by simpa using h2)
  refine ⟨(stuckK out i).length, ?_, ?_, ?_⟩
  · rw [e1, List.findIdx?_append]
    rw [List.findIdx?_eq_none_iff.2 (fun v hv => hA v hv)]
    simp [List.findIdx?_cons, hp]
  · rw [e1]; simp [atL]
  · rw [e1, List.eraseIdx_append_of_length_le (Nat.le_refl _), Nat.sub_self, List.eraseIdx_cons_zero]
    unfold stuckK
    rw [e, List.filter_append, List.filter_cons, if_neg (by simp)]
    congr 1
    · apply List.filter_congr
      intro v hv
      obtain ⟨t, rfl, ht⟩ := mem_iota.1 hv
      simp [List.contains_eq_mem]
      intro _
      omega
    · apply List.filter_congr
      intro v hv
      rw [eB] at hv
      simp only [List.mem_map, List.mem_range] at hv
      obtain ⟨t, ht, rfl⟩ := hv
      simp [List.contains_eq_mem]
      intro _
      omega
theorem stuck_no {out : List Int} {nh : Nat} {p : Int → Bool} (hb : ∀ t : Nat, t < nh → out.contains (t : Int) = false → p t = false) : (stuckK out nh).findIdx? p = none := by
  rw [List.findIdx?_eq_none_iff]
  intro v hv
  unfold stuckK at hv
  obtain ⟨h1, h2⟩ := List.mem_filter.1 hv
  obtain ⟨t, rfl, ht⟩ := mem_iota.1 h1
  exact hb t ht (by simpa using h2)
/-- Who is done. -/
def doneL (out : List Int) (nh : Nat) : List Bool := (List.range nh).map fun (i : Nat) => out.contains (i : Int)
def bools (l : List Bool) : List Value := l.map Value.bool
theorem doneL_length (out : List Int) (nh : Nat) : (doneL out nh).length = nh := by simp [doneL]
theorem doneL_nil (nh : Nat) : bools (doneL [] nh) = List.replicate nh (.bool false) := by
  apply List.ext_getElem?
  intro i
  simp only [bools, doneL, List.getElem?_map, List.getElem?_replicate]
  by_cases h : i < nh <;> simp [h]
theorem doneL_at {out : List Int} {nh i : Nat} (h : i < nh) : (bools (doneL out nh))[i]? = some (.bool (out.contains (i : Int))) := by simp [bools, doneL, h]
theorem doneL_set {out : List Int} {nh i : Nat} : (bools (doneL out nh)).set i (.bool true) = bools (doneL (out ++ [(i : Int)]) nh) := by
  apply List.ext_getElem?
  intro t
  rw [List.getElem?_set]
  have hl : (bools (doneL out nh)).length = nh := by simp [bools, doneL]
  by_cases h : i = t
  · subst h
    rw [if_pos rfl, hl]
    by_cases h2 : i < nh
    · rw [if_pos h2, doneL_at h2]; simp
    · rw [if_neg h2]; simp [bools, doneL, h2]
  · rw [if_neg h]
    by_cases h2 : t < nh
    · rw [doneL_at h2, doneL_at h2]
      have : ((t : Int) == (i : Int)) = false := by simp; omega
      simp [List.contains_eq_mem]
      omega
    · simp [bools, doneL, h2]
/-- Where it lies. -/
structure RvW (w wr : World) (bb : Nat) (cs : Array Value) (k nh fg fc dg : Nat) (ov : Value) (free : List Int) (dn : List Value) (out : List Int) : Prop where
  below : Below w.heap.size w wr
  bank : Rec wr bb 25 cs
  fo : wr.ownsRow w.heap.size 3 1 (.slice (some ⟨fg, 0, none⟩) k fc) k (i64s free)
  dno : wr.ownsRow w.heap.size 4 1 (.slice (some ⟨dg, 0, none⟩) nh nh) nh dn
  oo : wr.ownsRow w.heap.size 3 1 ov out.length (i64s out)
  afo : Apart (.slice (some ⟨fg, 0, none⟩) k fc) ov
section
variable {w wr w' : World} {bb k nh fg fc dg : Nat} {cs : Array Value} {ov : Value} {free : List Int} {dn : List Value} {out : List Int}
theorem RvW.far (h : RvW w wr bb cs k nh fg fc dg ov free dn out) (hb : Below wr.heap.size wr w') : RvW w w' bb cs k nh fg fc dg ov free dn out :=
  ⟨h.below.trans (hb.mono h.below.size), h.bank.below hb (Nat.le_refl _), own_below h.fo hb (Nat.le_refl _), own_below h.dno hb (Nat.le_refl _), own_below h.oo hb (Nat.le_refl _), h.afo⟩
theorem RvW.past (h : RvW w wr bb cs k nh fg fc dg ov free dn out) (y : Past) : RvW w (wr.past y) bb cs k nh fg fc dg ov free dn out := h.far (wr.below_past y)
theorem RvW.drew (h : RvW w wr bb cs k nh fg fc dg ov free dn out) : RvW w wr.drew bb cs k nh fg fc dg ov free dn out := h.far (Below.refl _ wr).drew
theorem RvW.setF (h : RvW w wr bb cs k nh fg fc dg ov free dn out) (q : Nat) (v : Int) : RvW w (wr.setCell ⟨fg, q, none⟩ (.int .i64 v)) bb cs k nh fg fc dg ov (free.set q v) dn out := by
  obtain ⟨s1, s2⟩ := h.fo.stored q (.int .i64 v)
  refine ⟨grown_below h.below s2 h.below.size (fun q hq => (h.fo.lt q hq).1), h.bank.grown h.fo s2 (by decide), ?_, own_apart (v := .slice (some ⟨fg, 0, none⟩) k fc) h.dno s2 (apart_types h.dno h.fo (by decide)), own_apart (v := .slice (some ⟨fg, 0, none⟩) k fc) h.oo s2 h.afo.symm, h.afo⟩
  have e : i64s (free.set q v) = (i64s free).set q (.int .i64 v) := by simp [i64s, List.map_set]
  rw [e]
  exact s1
theorem RvW.setD (h : RvW w wr bb cs k nh fg fc dg ov free dn out) (q : Nat) (v : Value) : RvW w (wr.setCell ⟨dg, q, none⟩ v) bb cs k nh fg fc dg ov free (dn.set q v) out := by
  obtain ⟨s1, s2⟩ := h.dno.stored q v
  exact ⟨grown_below h.below s2 h.below.size (fun q hq => (h.dno.lt q hq).1), h.bank.grown h.dno s2 (by decide), own_apart (v := .slice (some ⟨dg, 0, none⟩) nh nh) h.fo s2 (apart_types h.fo h.dno (by decide)), s1, own_apart (v := .slice (some ⟨dg, 0, none⟩) nh nh) h.oo s2 (apart_types h.oo h.dno (by decide)), h.afo⟩
theorem RvW.served (h : RvW w wr bb cs k nh fg fc dg ov free dn out) {ov' : Value} {i : Int} (ho : w'.ownsRow w.heap.size 3 1 ov' (out.length + 1) (i64s out ++ [.int .i64 i])) (hg : wr.grownBy w' ov.ownBlock)
    (hap : ∀ v', Apart v' ov → (∀ k, v'.ownBlock = some k → k < wr.heap.size) → Apart v' ov') : RvW w w' bb cs k nh fg fc dg ov' free dn (out ++ [i]) :=
  ⟨grown_below h.below hg h.below.size (fun q hq => (h.oo.lt q hq).1), h.bank.grown h.oo hg (by decide), own_apart h.fo hg h.afo, own_apart h.dno hg (apart_types h.dno h.oo (by decide)),
    by rw [← i64s_snoc]; simpa using ho, hap _ h.afo (fun q hq => (h.fo.lt q hq).2)⟩
theorem RvW.fc' (h : RvW w wr bb cs k nh fg fc dg ov free dn out) {q : Nat} (hq : q < k) : wr.cell? ⟨fg, q, none⟩ = some (.int .i64 (atL free q)) := by
  rw [h.fo.cellAt q (by omega)]
  have := h.fo.1
  simp only [i64s, List.length_map, Nat.mul_one] at this
  simp [i64s, atL, show q < free.length by omega]
theorem RvW.dc (h : RvW w wr bb cs k nh fg fc dg ov free dn out) {q : Nat} (hq : q < nh) : wr.cell? ⟨dg, q, none⟩ = dn[q]? := h.dno.cellAt q (by omega)
end
/-- What is left, being told. -/
structure EnW (w wr : World) (nh dg : Nat) (ov lv : Value) (dn : List Value) (out left : List Int) : Prop where
  below : Below w.heap.size w wr
  dno : wr.ownsRow w.heap.size 4 1 (.slice (some ⟨dg, 0, none⟩) nh nh) nh dn
  oo : wr.ownsRow w.heap.size 3 1 ov out.length (i64s out)
  lo : wr.ownsRow w.heap.size 3 1 lv left.length (i64s left)
  aol : Apart ov lv
theorem EnW.pushed {w wr w' : World} {nh dg : Nat} {ov lv lv' : Value} {dn : List Value} {out left : List Int} {i : Int} (h : EnW w wr nh dg ov lv dn out left) (ho : w'.ownsRow w.heap.size 3 1 lv' (left.length + 1) (i64s left ++ [.int .i64 i])) (hg : wr.grownBy w' lv.ownBlock)
    (hap : ∀ v', Apart v' lv → (∀ k, v'.ownBlock = some k → k < wr.heap.size) → Apart v' lv') : EnW w w' nh dg ov lv' dn out (left ++ [i]) :=
  ⟨grown_below h.below hg h.below.size (fun q hq => (h.lo.lt q hq).1), own_apart h.dno hg (apart_types h.dno h.lo (by decide)), own_apart h.oo hg h.aol, by rw [← i64s_snoc]; simpa using ho, hap _ h.aol (fun q hq => (h.oo.lt q hq).2)⟩
/-- What the document's Serve hands back. -/
def ServeP (out left : List Int) (w : World) (e : Ending) (w' : World) : Prop :=
  ∃ A c B d, e = .returned (.tuple #[.slice A out.length c, .slice B left.length d]) ∧ Below w.heap.size w w' ∧ w'.ownsRow w.heap.size 3 1 (.slice A out.length c) out.length (i64s out) ∧ w'.ownsRow w.heap.size 3 1 (.slice B left.length d) left.length (i64s left)
end Go.Proofs.Ytddngloojacceaa
