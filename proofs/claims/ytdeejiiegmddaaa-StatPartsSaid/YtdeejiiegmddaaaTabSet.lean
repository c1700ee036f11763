/-
  An element of some cells is stored into a row of the call's own; what keeps all blocks but one, and rows of some types: plain laws for the walk. No condition.
-/
import Derived.Test.YtdeejiiegmddaaaObj
import Derived.Test.YtdeejiiegmddaaaTab
import Derived.Deep.MidRow
import Derived.Laws.OwnMore
import Derived.WalkSmall
namespace Go
open Go.RowKit
def setL : List Value → Nat → List Value → List Value
  | xs, _, [] => xs
  | xs, o, v :: vs => setL (xs.set o v) (o + 1) vs
theorem setL_length : ∀ (vs xs : List Value) (o : Nat), (setL xs o vs).length = xs.length
  | [], _, _ => rfl
  | v :: vs, xs, o => by rw [setL, setL_length vs]; simp
theorem setL_get : ∀ (vs xs : List Value) (o : Nat), o + vs.length ≤ xs.length → ∀ j, (setL xs o vs)[j]? = if o ≤ j ∧ j < o + vs.length then vs[j - o]? else xs[j]?
  | [], xs, o, _, j => by rw [setL, if_neg (by simp)]
  | v :: vs, xs, o, h, j => by
    simp only [List.length_cons] at h ⊢
    rw [setL, setL_get vs _ _ (by simp; omega)]
    by_cases a : o + 1 ≤ j ∧ j < o + 1 + vs.length
    · rw [if_pos a, if_pos (by omega), show j - o = (j - (o + 1)) + 1 by omega]; simp
    · rw [if_neg a]
      by_cases b : j = o
      · subst b
        rw [if_pos (by omega), Nat.sub_self, List.getElem?_set_self (by omega)]; simp
      · rw [if_neg (by omega), List.getElem?_set_ne (by omega)]
theorem tab_set {α : Type} {f : α → List Value} {c : Nat} (hf : ∀ x, (f x).length = c) (hc : 0 < c) (l : List α) (k : Nat) (x : α) (hk : k < l.length) : setL (tab f l) (k * c) (f x) = tab f (l.set k x) := by
  have hkc : (k + 1) * c ≤ l.length * c := Nat.mul_le_mul_right _ hk
  rw [Nat.add_mul] at hkc
  apply List.ext_getElem?
  intro j
  rw [setL_get _ _ _ (by rw [hf, tab_length hf]; omega), hf]
  have hj := Nat.div_add_mod j c
  have hm := Nat.mod_lt j hc
  rw [Nat.mul_comm] at hj
  by_cases hjl : j / c < l.length
  · have e1 := tab_get hf l (j / c) l[j / c] (j % c) (List.getElem?_eq_getElem hjl) hm
    rw [hj] at e1
    by_cases q : j / c = k
    · have e2 := tab_get hf (l.set k x) k x (j % c) (by rw [List.getElem?_set_self hk]) hm
      rw [← q, hj, q] at e2
      rw [q] at hj
      rw [if_pos (by omega), e2, show j - k * c = j % c by omega]
    · have e2 := tab_get hf (l.set k x) (j / c) l[j / c] (j % c) (by rw [List.getElem?_set_ne (fun e => q e.symm), List.getElem?_eq_getElem hjl]) hm
      rw [hj] at e2
      rw [if_neg, e1, e2]
      rintro ⟨h1, h2⟩
      apply q
      have : k = j / c := by
        apply Nat.le_antisymm
        · exact (Nat.le_div_iff_mul_le hc).2 h1
        · have := (Nat.div_lt_iff_lt_mul hc).2 (show j < (k + 1) * c by rw [Nat.add_mul]; omega)
          omega
      exact this.symm
  · have h1 : l.length * c ≤ j := by
      have := Nat.mul_le_mul_right c (show l.length ≤ j / c by omega)
      omega
    rw [if_neg (by omega), List.getElem?_eq_none (by rw [tab_length hf]; exact h1), List.getElem?_eq_none (by rw [tab_length hf]; simpa using h1)]
theorem own_setCells {base g cap n : Nat} {e : TypeId} {size : Nat} : ∀ (vs xs : List Value) (o : Nat) (w : World), w.ownsRow base e size (.slice (some ⟨g, 0, none⟩) n cap) n xs →
    (w.setCells g o vs).ownsRow base e size (.slice (some ⟨g, 0, none⟩) n cap) n (setL xs o vs) ∧ w.grownBy (w.setCells g o vs) (some g)
  | [], _, _, w, h => ⟨h, rfl, rfl, rfl, Nat.le_refl _, fun _ _ _ => rfl⟩
  | v :: vs, xs, o, w, h => by
    obtain ⟨h1, g1⟩ := h.stored o v
    obtain ⟨h2, g2⟩ := own_setCells vs _ (o + 1) _ h1
    exact ⟨h2, g2.os.trans g1.os, g2.tape.trans g1.tape, g2.output.trans g1.output, Nat.le_trans g1.size g2.size, fun k hk hn => (g2.block k (Nat.lt_of_lt_of_le hk g1.size) hn).trans (g1.block k hk hn)⟩
theorem own_there {base g cap n : Nat} {e : TypeId} {size : Nat} {xs : List Value} {w : World} (h : w.ownsRow base e size (.slice (some ⟨g, 0, none⟩) n cap) n xs) {o m : Nat} (hm : o + m ≤ n * size) : w.there g o m := fun j hj => by
  refine ⟨?_, h.frozenAt _⟩
  rw [h.cellAt (o + j) (by omega), List.getElem?_eq_getElem (by rw [h.1]; omega)]
  rfl
/-- An element of some cells is another one. -/
theorem own_put {α : Type} {f : α → List Value} {c : Nat} (hf : ∀ x, (f x).length = c) (hc : 0 < c) {base g cap : Nat} {e : TypeId} {l : List α} {w : World} (h : w.ownsRow base e c (.slice (some ⟨g, 0, none⟩) l.length cap) l.length (tab f l)) {k : Nat} (hk : k < l.length) (x : α) :
    (w.setCells g (k * c) (f x)).ownsRow base e c (.slice (some ⟨g, 0, none⟩) l.length cap) l.length (tab f (l.set k x)) ∧ w.grownBy (w.setCells g (k * c) (f x)) (some g) ∧ w.there g (k * c) (f x).length := by
  have h1 := own_setCells (f x) (tab f l) (k * c) w h
  rw [tab_set hf hc l k x hk] at h1
  refine ⟨h1.1, h1.2, own_there h ?_⟩
  have hkc : (k + 1) * c ≤ l.length * c := Nat.mul_le_mul_right _ hk
  rw [Nat.add_mul] at hkc
  rw [hf]; omega
/-- All blocks are kept but one, and those of some types. -/
structure KeptT (b : Nat) (ts : TypeId → Prop) (w w' : World) : Prop where
  os : w'.os = w.os
  tape : w'.tape = w.tape
  output : w'.output = w.output
  size : w.heap.size ≤ w'.heap.size
  block : ∀ k cs t, w.heap[k]? = some (.cells cs t (0, 0)) → k ≠ b → ¬ ts t → w'.heap[k]? = w.heap[k]?
section
variable {b : Nat} {ts : TypeId → Prop} {w w' w'' : World}
theorem KeptT.refl (b : Nat) (ts : TypeId → Prop) (w : World) : KeptT b ts w w := ⟨rfl, rfl, rfl, Nat.le_refl _, fun _ _ _ _ _ _ => rfl⟩
theorem KeptT.trans (h : KeptT b ts w w') (k : KeptT b ts w' w'') : KeptT b ts w w'' :=
  ⟨k.os.trans h.os, k.tape.trans h.tape, k.output.trans h.output, Nat.le_trans h.size k.size, fun i cs t hi hn ht => by
    have := h.block i cs t hi hn ht
    rw [k.block i cs t (this.trans hi) hn ht, this]⟩
theorem KeptT.of_below (h : Below w.heap.size w w') (b : Nat) (ts : TypeId → Prop) : KeptT b ts w w' := ⟨h.os, h.tape, h.output, h.size, fun k _ _ hk _ _ => h.block k (Array.getElem?_eq_some_iff.1 hk).1⟩
theorem KeptT.setB (w : World) (b o : Nat) (u : Value) (ts : TypeId → Prop) : KeptT b ts w (w.setCell ⟨b, o, none⟩ u) :=
  ⟨rfl, rfl, rfl, by simp [World.setCell], fun k _ _ _ hn _ => heap_setCell_other w ⟨b, o, none⟩ k u hn⟩
theorem KeptT.grown {e : TypeId} {base size n : Nat} {v : Value} {xs : List Value} (h : w.ownsRow base e size v n xs) (hg : w.grownBy w' v.ownBlock) (he : ts e) : KeptT b ts w w' :=
  ⟨hg.os, hg.tape, hg.output, hg.size, fun k cs t hk _ ht => by
    refine hg.block k (Array.getElem?_eq_some_iff.1 hk).1 (fun e2 => ?_)
    rcases h.2 with ⟨rfl, _⟩ | ⟨g, cap, cur, rfl, _, hh, _⟩
    · simp [Value.ownBlock] at e2
    · simp only [Value.ownBlock, Option.some.injEq] at e2
      subst e2
      rw [hk] at hh
      simp only [Option.some.injEq, Obj.cells.injEq] at hh
      exact ht (by rw [hh.2.1]; exact he)⟩
theorem Rec.keptT {g : Nat} {t : TypeId} {cs : Array Value} (h : Rec w g t cs) (hk : KeptT b ts w w') (hn : g ≠ b) (ht : ¬ ts t) : Rec w' g t cs := (hk.block g cs t h hn ht).trans h
theorem own_keptT {e T : TypeId} {base size n : Nat} {v : Value} {xs : List Value} {cs : Array Value} (h : w.ownsRow base e size v n xs) (hk : KeptT b ts w w') (hb : Rec w b T cs) (hT : T ≠ e) (he : ¬ ts e) : w'.ownsRow base e size v n xs := by
  refine ⟨h.1, ?_⟩
  rcases h.2 with h3 | ⟨g, cap, cur, hv, hg, hh, hr⟩
  · exact .inl h3
  · refine .inr ⟨g, cap, cur, hv, hg, ?_, hr⟩
    rw [hk.block g cur e hh ?_ he]
    · exact hh
    · rintro rfl
      have : w.heap[g]? = some (.cells cs T (0, 0)) := hb
      rw [hh] at this
      simp only [Option.some.injEq, Obj.cells.injEq] at this
      exact hT this.2.1.symm
/-- An object's own block is none of its rows'. -/
theorem own_not_rec {B : Nat} {e T : TypeId} {s : Nat} {v : Value} {n : Nat} {xs : List Value} {b : Nat} {cs : Array Value} (hown : w.ownsRow B e s v n xs) (hb : Rec w b T cs) (hTe : T ≠ e) : v.ownBlock ≠ some b := by
  rcases hown.2 with ⟨rfl, _⟩ | ⟨g, cap, cur, rfl, _, hg, _⟩
  · simp [Value.ownBlock]
  · intro h
    simp only [Value.ownBlock, Option.some.injEq] at h
    subst h
    have hb' : w.heap[g]? = some (.cells cs T (0, 0)) := hb
    rw [hg] at hb'
    simp only [Option.some.injEq, Obj.cells.injEq] at hb'
    exact hTe hb'.2.1.symm
/-- One cell of the object's block turns: its rows stay. -/
theorem own_setB {e T : TypeId} {base size n : Nat} {v : Value} {xs : List Value} {cs : Array Value} (h : w.ownsRow base e size v n xs) (hb : Rec w b T cs) (hT : T ≠ e) (o : Nat) (u : Value) : (w.setCell ⟨b, o, none⟩ u).ownsRow base e size v n xs :=
  own_keptT (ts := fun _ => False) h (KeptT.setB w b o u _) hb hT (fun h => h)
theorem Rec.grown {g : Nat} {t e : TypeId} {cs : Array Value} {base size n : Nat} {v : Value} {xs : List Value} (h : Rec w g t cs) (ho : w.ownsRow base e size v n xs) (hg : w.grownBy w' v.ownBlock) (ht : t ≠ e) : Rec w' g t cs :=
  (hg.block g (Rec.lt h) (fun e2 => own_not_rec ho h ht e2.symm)).trans h
end
end Go
