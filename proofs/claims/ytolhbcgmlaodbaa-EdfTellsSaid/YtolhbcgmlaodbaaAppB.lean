/-
  append of any slice onto a row of the call's own, base and world free: what becomes of all other blocks. Plain laws for the walk. No condition.
-/
import Derived.Test.YtolhbcgmlaodbaaAppC
import Derived.Deep.MidRow
import Derived.Laws.OwnMore
import Derived.WalkSmall
namespace Go
open Go.RowKit
def setL : List Value → Nat → List Value → List Value
  | xs, _, [] => xs
  | xs, o, v :: vs => setL (xs.set o v) (o + 1) vs
theorem setL_length : ∀ (vs xs : List Value) (o : Nat), (setL xs o vs).length = xs.length
  | [], _, _ => rfl
  | v :: vs, xs, o => by rw [setL, setL_length vs]; simp
theorem setL_get : ∀ (vs xs : List Value) (o : Nat), o + vs.length ≤ xs.length → ∀ j, (setL xs o vs)[j]? = if o ≤ j ∧ j < o + vs.length then vs[j - o]? else xs[j]?
  | [], xs, o, _, j => by rw [setL, if_neg (by simp)]
  | v :: vs, xs, o, h, j => by
    simp only [List.length_cons] at h ⊢
    rw [setL, setL_get vs _ _ (by simp; omega)]
    by_cases a : o + 1 ≤ j ∧ j < o + 1 + vs.length
    · rw [if_pos a, if_pos (by omega), show j - o = (j - (o + 1)) + 1 by omega]; simp
    · rw [if_neg a]
      by_cases b : j = o
      · subst b
        rw [if_pos (by omega), Nat.sub_self, List.getElem?_set_self (by omega)]; simp
      · rw [if_neg (by omega), List.getElem?_set_ne (by omega)]
theorem tab_set {α : Type} {f : α → List Value} {c : Nat} (hf : ∀ x, (f x).length = c) (hc : 0 < c) (l : List α) (k : Nat) (x : α) (hk : k < l.length) : setL (tab f l) (k * c) (f x) = tab f (l.set k x) := by
  have hkc : (k + 1) * c ≤ l.length * c := Nat.mul_le_mul_right _ hk
  rw [Nat.add_mul] at hkc
  apply List.ext_getElem?
  intro j
  rw [setL_get _ _ _ (by rw [hf, tab_length hf]; omega), hf]
  have hj := Nat.div_add_mod j c
  have hm := Nat.mod_lt j hc
  rw [Nat.mul_comm] at hj
  by_cases hjl : j / c < l.length
  · have e1 := tab_get hf l (j / c) l[j / c] (j % c) (List.getElem?_eq_getElem hjl) hm
    rw [hj] at e1
    by_cases q : j / c = k
    · have e2 := tab_get hf (l.set k x) k x (j % c) (by rw [List.getElem?_set_self hk]) hm
      rw [← q, hj, q] at e2
      rw [q] at hj
      rw [if_pos (by omega), e2, show j - k * c = j % c by omega]
    · have e2 := tab_get hf (l.set k x) (j / c) l[j / c] (j % c) (by rw [List.getElem?_set_ne (fun e => q e.symm), List.getElem?_eq_getElem hjl]) hm
      rw [hj] at e2
      rw [if_neg, e1, e2]
      rintro ⟨h1, h2⟩
      apply q
      have : k = j / c := by
        apply Nat.le_antisymm
        · exact (Nat.le_div_iff_mul_le hc).2 h1
        · have := (Nat.div_lt_iff_lt_mul hc).2 (show j < (k + 1) * c by rw [Nat.add_mul]; omega)
          omega
      exact this.symm
  · have h1 : l.length * c ≤ j := by
      have := Nat.mul_le_mul_right c (show l.length ≤ j / c by omega)
      omega
    rw [if_neg (by omega), List.getElem?_eq_none (by rw [tab_length hf]; exact h1), List.getElem?_eq_none (by rw [tab_length hf]; simpa using h1)]
theorem own_setCells {base g cap n : Nat} {e : TypeId} {size : Nat} : ∀ (vs xs : List Value) (o : Nat) (w : World), w.ownsRow base e size (.slice (some ⟨g, 0, none⟩) n cap) n xs →
    (w.setCells g o vs).ownsRow base e size (.slice (some ⟨g, 0, none⟩) n cap) n (setL xs o vs) ∧ w.grownBy (w.setCells g o vs) (some g)
  | [], _, _, w, h => ⟨h, rfl, rfl, rfl, Nat.le_refl _, fun _ _ _ => rfl⟩
  | v :: vs, xs, o, w, h => by
    obtain ⟨h1, g1⟩ := h.stored o v
    obtain ⟨h2, g2⟩ := own_setCells vs _ (o + 1) _ h1
    exact ⟨h2, g2.os.trans g1.os, g2.tape.trans g1.tape, g2.output.trans g1.output, Nat.le_trans g1.size g2.size, fun k hk hn => (g2.block k (Nat.lt_of_lt_of_le hk g1.size) hn).trans (g1.block k hk hn)⟩
theorem own_there {base g cap n : Nat} {e : TypeId} {size : Nat} {xs : List Value} {w : World} (h : w.ownsRow base e size (.slice (some ⟨g, 0, none⟩) n cap) n xs) {o m : Nat} (hm : o + m ≤ n * size) : w.there g o m := fun j hj => by
  refine ⟨?_, h.frozenAt _⟩
  rw [h.cellAt (o + j) (by omega), List.getElem?_eq_getElem (by rw [h.1]; omega)]
  rfl
/-- An element of some cells is another one. -/
theorem own_put {α : Type} {f : α → List Value} {c : Nat} (hf : ∀ x, (f x).length = c) (hc : 0 < c) {base g cap : Nat} {e : TypeId} {l : List α} {w : World} (h : w.ownsRow base e c (.slice (some ⟨g, 0, none⟩) l.length cap) l.length (tab f l)) {k : Nat} (hk : k < l.length) (x : α) :
    (w.setCells g (k * c) (f x)).ownsRow base e c (.slice (some ⟨g, 0, none⟩) l.length cap) l.length (tab f (l.set k x)) ∧ w.grownBy (w.setCells g (k * c) (f x)) (some g) ∧ w.there g (k * c) (f x).length := by
  have h1 := own_setCells (f x) (tab f l) (k * c) w h
  rw [tab_set hf hc l k x hk] at h1
  refine ⟨h1.1, h1.2, own_there h ?_⟩
  have hkc : (k + 1) * c ≤ l.length * c := Nat.mul_le_mul_right _ hk
  rw [Nat.add_mul] at hkc
  rw [hf]; omega
/-- All blocks are kept but one, and those of some types. -/
structure KeptT (b : Nat) (ts : TypeId → Prop) (w w' : World) : Prop where
  os : w'.os = w.os
  tape : w'.tape = w.tape
  output : w'.output = w.output
  size : w.heap.size ≤ w'.heap.size
  block : ∀ k cs t, w.heap[k]? = some (.cells cs t (0, 0)) → k ≠ b → ¬ ts t → w'.heap[k]? = w.heap[k]?
section
variable {b : Nat} {ts : TypeId → Prop} {w w' w'' : World}
theorem KeptT.refl (b : Nat) (ts : TypeId → Prop) (w : World) : KeptT b ts w w := ⟨rfl, rfl, rfl, Nat.le_refl _, fun _ _ _ _ _ _ => rfl⟩
theorem KeptT.trans (h : KeptT b ts w w') (k : KeptT b ts w' w'') : KeptT b ts w w'' :=
  ⟨k.os.trans h.os, k.tape.trans h.tape, k.output.trans h.output, Nat.le_trans h.size k.size, fun i cs t hi hn ht => by
    have := h.block i cs t hi hn ht
    rw [k.block i cs t (this.trans hi) hn ht, this]⟩
theorem KeptT.of_below (h : Below w.heap.size w w') (b : Nat) (ts : TypeId → Prop) : KeptT b ts w w' := ⟨h.os, h.tape, h.output, h.size, fun k _ _ hk _ _ => h.block k (Array.getElem?_eq_some_iff.1 hk).1⟩
theorem KeptT.setB (w : World) (b o : Nat) (u : Value) (ts : TypeId → Prop) : KeptT b ts w (w.setCell ⟨b, o, none⟩ u) :=
  ⟨rfl, rfl, rfl, by simp [World.setCell], fun k _ _ _ hn _ => heap_setCell_other w ⟨b, o, none⟩ k u hn⟩
theorem KeptT.grown {e : TypeId} {base size n : Nat} {v : Value} {xs : List Value} (h : w.ownsRow base e size v n xs) (hg : w.grownBy w' v.ownBlock) (he : ts e) : KeptT b ts w w' :=
  ⟨hg.os, hg.tape, hg.output, hg.size, fun k cs t hk _ ht => by
    refine hg.block k (Array.getElem?_eq_some_iff.1 hk).1 (fun e2 => ?_)
    rcases h.2 with ⟨rfl, _⟩ | ⟨g, cap, cur, rfl, _, hh, _⟩
    · simp [Value.ownBlock] at e2
    · simp only [Value.ownBlock, Option.some.injEq] at e2
      subst e2
      rw [hk] at hh
      simp only [Option.some.injEq, Obj.cells.injEq] at hh
      exact ht (by rw [hh.2.1]; exact he)⟩
theorem Rec.keptT {g : Nat} {t : TypeId} {cs : Array Value} (h : Rec w g t cs) (hk : KeptT b ts w w') (hn : g ≠ b) (ht : ¬ ts t) : Rec w' g t cs := (hk.block g cs t h hn ht).trans h
theorem own_keptT {e T : TypeId} {base size n : Nat} {v : Value} {xs : List Value} {cs : Array Value} (h : w.ownsRow base e size v n xs) (hk : KeptT b ts w w') (hb : Rec w b T cs) (hT : T ≠ e) (he : ¬ ts e) : w'.ownsRow base e size v n xs := by
  refine ⟨h.1, ?_⟩
  rcases h.2 with h3 | ⟨g, cap, cur, hv, hg, hh, hr⟩
  · exact .inl h3
  · refine .inr ⟨g, cap, cur, hv, hg, ?_, hr⟩
    rw [hk.block g cur e hh ?_ he]
    · exact hh
    · rintro rfl
      have : w.heap[g]? = some (.cells cs T (0, 0)) := hb
      rw [hh] at this
      simp only [Option.some.injEq, Obj.cells.injEq] at this
      exact hT this.2.1.symm
/-- An object's own block is none of its rows'. -/
theorem own_not_rec {B : Nat} {e T : TypeId} {s : Nat} {v : Value} {n : Nat} {xs : List Value} {b : Nat} {cs : Array Value} (hown : w.ownsRow B e s v n xs) (hb : Rec w b T cs) (hTe : T ≠ e) : v.ownBlock ≠ some b := by
  rcases hown.2 with ⟨rfl, _⟩ | ⟨g, cap, cur, rfl, _, hg, _⟩
  · simp [Value.ownBlock]
  · intro h
    simp only [Value.ownBlock, Option.some.injEq] at h
    subst h
    have hb' : w.heap[g]? = some (.cells cs T (0, 0)) := hb
    rw [hg] at hb'
    simp only [Option.some.injEq, Obj.cells.injEq] at hb'
    exact hTe hb'.2.1.symm
/-- One cell of the object's block turns: its rows stay. -/
theorem own_setB {e T : TypeId} {base size n : Nat} {v : Value} {xs : List Value} {cs : Array Value} (h : w.ownsRow base e size v n xs) (hb : Rec w b T cs) (hT : T ≠ e) (o : Nat) (u : Value) : (w.setCell ⟨b, o, none⟩ u).ownsRow base e size v n xs :=
  own_keptT (ts := fun _ => False) h (KeptT.setB w b o u _) hb hT (fun h => h)
theorem Rec.grown {g : Nat} {t e : TypeId} {cs : Array Value} {base size n : Nat} {v : Value} {xs : List Value} (h : Rec w g t cs) (ho : w.ownsRow base e size v n xs) (hg : w.grownBy w' v.ownBlock) (ht : t ≠ e) : Rec w' g t cs :=
  (hg.block g (Rec.lt h) (fun e2 => own_not_rec ho h ht e2.symm)).trans h
end
end Go
namespace Go
open Go.RowKit
section
variable {α : Type} {f : α → List Value} {c : Nat} {B g cap : Nat} {e T : TypeId} {l : List α} {w : World} {b : Nat} {cs : Array Value} {k j : Nat} {x y : α} {u : Value}
theorem tab_set1 (hf : ∀ x, (f x).length = c) (hc : 0 < c) (hk : l[k]? = some x) (hj : j < c) (hy : f y = (f x).set j u) : (tab f l).set (k * c + j) u = tab f (l.set k y) := by
  have hkl : k < l.length := (List.getElem?_eq_some_iff.1 hk).1
  rw [← tab_set hf hc l k y hkl]
  have hkc : (k + 1) * c ≤ l.length * c := Nat.mul_le_mul_right _ hkl
  rw [Nat.add_mul] at hkc
  apply List.ext_getElem?
  intro m
  rw [setL_get _ _ _ (by rw [hf, tab_length hf]; omega), hf]
  by_cases hm : k * c ≤ m ∧ m < k * c + c
  · rw [if_pos hm, hy]
    have e1 := tab_get hf l k x (m - k * c) hk (by omega)
    rw [show k * c + (m - k * c) = m by omega] at e1
    by_cases hq : m = k * c + j
    · subst hq
      rw [List.getElem?_set_self (by rw [tab_length hf]; omega), show k * c + j - k * c = j by omega, List.getElem?_set_self (by rw [hf]; exact hj)]
    · rw [List.getElem?_set_ne (by omega), List.getElem?_set_ne (by omega), e1]
  · rw [if_neg hm, List.getElem?_set_ne (by omega)]
theorem own_cell (hf : ∀ x, (f x).length = c) (hown : w.ownsRow B e c (.slice (some ⟨g, 0, none⟩) l.length cap) l.length (tab f l)) (hk : l[k]? = some x) (hj : j < c) : w.cell? ⟨g, k * c + j, none⟩ = (f x)[j]? := by
  have hkl : k < l.length := (List.getElem?_eq_some_iff.1 hk).1
  have hkc : (k + 1) * c ≤ l.length * c := Nat.mul_le_mul_right _ hkl
  rw [Nat.add_mul] at hkc
  rw [hown.cellAt (k * c + j) (by omega), tab_get hf l k x j hk hj]
theorem own_put1 (hf : ∀ x, (f x).length = c) (hc : 0 < c) (hrec : Rec w b T cs) (hT : T ≠ e) (hown : w.ownsRow B e c (.slice (some ⟨g, 0, none⟩) l.length cap) l.length (tab f l)) (hk : l[k]? = some x) (hj : j < c) (hy : f y = (f x).set j u) :
    Rec (w.setCell ⟨g, k * c + j, none⟩ u) b T cs ∧ (w.setCell ⟨g, k * c + j, none⟩ u).ownsRow B e c (.slice (some ⟨g, 0, none⟩) (l.set k y).length cap) (l.set k y).length (tab f (l.set k y)) ∧
      Below B w (w.setCell ⟨g, k * c + j, none⟩ u) ∧ KeptT b (fun t => t = e) w (w.setCell ⟨g, k * c + j, none⟩ u) := by
  have hst := hown.stored (k * c + j) u
  rw [tab_set1 hf hc hk hj hy] at hst
  refine ⟨Rec.grown hrec hown hst.2 hT, by rw [List.length_set]; exact hst.1, (Below.refl B w).setCell (p := ⟨g, k * c + j, none⟩) (hown.lt g rfl).1 _, KeptT.grown hown hst.2 rfl⟩
end
end Go
namespace Go
open Go.RowKit
section
variable {P : Program}
theorem wp_pushB {o : Oper} {a : Act} {K : Act → World → Prop} {Q : Exit → Act → World → Prop} (s x : Operand) (t : TypeId)
    (ho : o.op = .call { callee := .builtin .append, args := #[s, x], argTypes := #[t, t] })
    (e : TypeId) (i : TypeInfo) (z : Value) (size bytes : Nat) (ht : P.underlying t = some (.slice e)) (hi : P.info? e = some i) (hz : i.zero = some z)
    (hsize : i.size = size) (hby : i.bytes = bytes) (hzs : z.cells.size = size) (hsz : 0 < size)
    (B : Nat) {w : World} (hB : B ≤ w.heap.size) (v : Value) (n : Nat) (xs : List Value) (hs : a.eval s = v) (hown : w.ownsRow B e size v n xs)
    (g0 : Nat) (news : Array Value) (hg0 : g0 = w.heap.size) (hx : a.eval x = .slice (some ⟨g0, 0, none⟩) 1 1) (hl : news.size = size) (h1 : ∀ u ∈ news.toList, u.oneCell' = true)
    (hbytes : (n + 1) * bytes ≤ 140737488355328) (hn : n + 1 ≤ maxLen)
    (h : ∀ (w1 : World) (g cap : Nat), w1.ownsRow B e size (.slice (some ⟨g, 0, none⟩) (n + 1) cap) (n + 1) (xs ++ news.toList) → w.grownBy w1 v.ownBlock →
      (∀ v', Apart v' v → (∀ k, v'.ownBlock = some k → k < w.heap.size) → Apart v' (.slice (some ⟨g, 0, none⟩) (n + 1) cap)) →
      K (a.put o.dst (.slice (some ⟨g, 0, none⟩) (n + 1) cap)) w1) :
    o.wp P a (w.alloc (.cells news e)) K Q := by
  subst hg0
  have hnews : ∀ j u, news.toList[j]? = some u → (w.alloc (.cells news e)).cell? ((⟨w.heap.size, 0, none⟩ : Addr).add j) = some u := by
    intro j u hj
    have : (⟨w.heap.size, 0, none⟩ : Addr).add j = ⟨w.heap.size, j, none⟩ := by unfold Addr.add; split <;> simp_all
    rw [this, World.cell?_alloc_new]
    simpa using hj
  obtain ⟨v', w', hrun, hown', hg, _, hat⟩ := run_append_own_at (P := P) (w := w.alloc (.cells news e)) B t o.type e i z size bytes ht hi hz hsize hby hzs hsz v n xs (hown.alloc _) ⟨w.heap.size, 0, none⟩ 1 1 news.toList (by simpa using hl) hnews h1 hn hbytes (by simp; omega)
  obtain ⟨g, cap, rfl, hge⟩ := own_succ hown' (by omega)
  unfold Oper.wp execOp
  simp only [ho, resolve, invoke, builtin, Sem.run_bind, Sem.run_pure, Result.andThen_ok, List.map_toArray, List.map_cons, List.map_nil, hs, hx, hrun]
  refine h w' g cap hown' ⟨hg.os, hg.tape, hg.output, Nat.le_trans (by simp) hg.size, fun k hk hn => (hg.block k (by simp; omega) hn).trans (heap_alloc_old w _ hk)⟩ fun v2 hap hlt => ?_
  rcases hap with h0 | h0 | h0
  · exact .inl h0
  · rcases hat with h2 | h2
    · exact .inr (.inl (h2.trans h0))
    · cases hv : v2.ownBlock with
      | none => exact .inl hv
      | some k =>
        refine .inr (.inr ?_)
        rw [h2, hv]
        intro he
        have := hlt k hv
        rw [World.size_alloc] at he
        simp only [Option.some.injEq] at he
        omega
  · rcases hat with h2 | h2
    · exact .inr (.inr (by rw [h2]; exact h0))
    · cases hv : v2.ownBlock with
      | none => exact .inl hv
      | some k =>
        refine .inr (.inr ?_)
        rw [h2, hv]
        intro he
        have := hlt k hv
        rw [World.size_alloc] at he
        simp only [Option.some.injEq] at he
        omega
theorem wpList_pushB {ops : Array Oper} {rest : List Oper} {o : Oper} {a : Act} {Q : Exit → Act → World → Prop} (hgd : o.guard = none) (s x : Operand) (t : TypeId)
    (ho : o.op = .call { callee := .builtin .append, args := #[s, x], argTypes := #[t, t] })
    (e : TypeId) (i : TypeInfo) (z : Value) (size bytes : Nat) (ht : P.underlying t = some (.slice e)) (hi : P.info? e = some i) (hz : i.zero = some z)
    (hsize : i.size = size) (hby : i.bytes = bytes) (hzs : z.cells.size = size) (hsz : 0 < size)
    (B : Nat) {w : World} (hB : B ≤ w.heap.size) (v : Value) (n : Nat) (xs : List Value) (hs : a.eval s = v) (hown : w.ownsRow B e size v n xs)
    (g0 : Nat) (news : Array Value) (hg0 : g0 = w.heap.size) (hx : a.eval x = .slice (some ⟨g0, 0, none⟩) 1 1) (hl : news.size = size) (h1 : ∀ u ∈ news.toList, u.oneCell' = true)
    (hbytes : (n + 1) * bytes ≤ 140737488355328) (hn : n + 1 ≤ maxLen)
    (h : ∀ (w1 : World) (g cap : Nat), w1.ownsRow B e size (.slice (some ⟨g, 0, none⟩) (n + 1) cap) (n + 1) (xs ++ news.toList) → w.grownBy w1 v.ownBlock →
      (∀ v', Apart v' v → (∀ k, v'.ownBlock = some k → k < w.heap.size) → Apart v' (.slice (some ⟨g, 0, none⟩) (n + 1) cap)) →
      wpList P ops Q rest (a.put o.dst (.slice (some ⟨g, 0, none⟩) (n + 1) cap)) w1) :
    wpList P ops Q (o :: rest) a (w.alloc (.cells news e)) :=
  wpList_plain hgd fun _ hK => wp_pushB s x t ho e i z size bytes ht hi hz hsize hby hzs hsz B hB v n xs hs hown g0 news hg0 hx hl h1 hbytes hn fun w1 g cap h2 h3 h4 => hK _ _ (h w1 g cap h2 h3 h4)
theorem step_pushB {ops : Array Oper} {o : Oper} {a : Act} {K : Act → World → Prop} {E : Prop} {Q : Exit → Act → World → Prop} (hgd : o.guard = none) (s x : Operand) (t : TypeId)
    (ho : o.op = .call { callee := .builtin .append, args := #[s, x], argTypes := #[t, t] })
    (e : TypeId) (i : TypeInfo) (z : Value) (size bytes : Nat) (ht : P.underlying t = some (.slice e)) (hi : P.info? e = some i) (hz : i.zero = some z)
    (hsize : i.size = size) (hby : i.bytes = bytes) (hzs : z.cells.size = size) (hsz : 0 < size)
    (B : Nat) {w : World} (hB : B ≤ w.heap.size) (v : Value) (n : Nat) (xs : List Value) (hs : a.eval s = v) (hown : w.ownsRow B e size v n xs)
    (g0 : Nat) (news : Array Value) (hg0 : g0 = w.heap.size) (hx : a.eval x = .slice (some ⟨g0, 0, none⟩) 1 1) (hl : news.size = size) (h1 : ∀ u ∈ news.toList, u.oneCell' = true)
    (hbytes : (n + 1) * bytes ≤ 140737488355328) (hn : n + 1 ≤ maxLen)
    (h : ∀ (w1 : World) (g cap : Nat), w1.ownsRow B e size (.slice (some ⟨g, 0, none⟩) (n + 1) cap) (n + 1) (xs ++ news.toList) → w.grownBy w1 v.ownBlock →
      (∀ v', Apart v' v → (∀ k, v'.ownBlock = some k → k < w.heap.size) → Apart v' (.slice (some ⟨g, 0, none⟩) (n + 1) cap)) →
      K (a.put o.dst (.slice (some ⟨g, 0, none⟩) (n + 1) cap)) w1) :
    if Region.wanted o (yielded ops a.tmps) = true then Oper.wp P o a (w.alloc (.cells news e)) K Q else E := by
  have hw : Region.wanted o (yielded ops a.tmps) = true := by simp [Region.wanted, hgd]
  rw [if_pos hw]
  exact wp_pushB s x t ho e i z size bytes ht hi hz hsize hby hzs hsz B hB v n xs hs hown g0 news hg0 hx hl h1 hbytes hn h
end
/-- Another row stays. -/
theorem own_apart {w w' : World} {b' : Nat} {e' : TypeId} {s' n' : Nat} {v v' : Value} {xs' : List Value} (h : w.ownsRow b' e' s' v' n' xs') (hg : w.grownBy w' v.ownBlock) (hap : Apart v' v) : w'.ownsRow b' e' s' v' n' xs' := by
  refine h.kept hg ?_
  rcases hap with h0 | h0 | h0
  · exact .inl h0
  · cases hv : v'.ownBlock with
    | none => exact .inl rfl
    | some k => rw [h0]; exact .inr (by simp)
  · exact .inr h0
/-- Rows of different types lie apart. -/
theorem apart_types {w : World} {B b' : Nat} {e e' : TypeId} {s s' n n' : Nat} {v v' : Value} {xs xs' : List Value} (h : w.ownsRow b' e' s' v' n' xs') (k : w.ownsRow B e s v n xs) (hne : e' ≠ e) : Apart v' v := by
  rcases h.2 with ⟨rfl, _⟩ | ⟨g, cap, cur, rfl, _, hg, _⟩
  · exact .inl rfl
  · rcases k.2 with ⟨rfl, _⟩ | ⟨g2, cap2, cur2, rfl, _, hg2, _⟩
    · exact .inr (.inl rfl)
    · refine .inr (.inr fun he => hne ?_)
      simp only [Value.ownBlock, Option.some.injEq] at he
      subst he
      rw [hg] at hg2
      simp only [Option.some.injEq, Obj.cells.injEq] at hg2
      exact hg2.2.1
end Go
namespace Go
open Go.RowKit
section
variable {P : Program}
theorem wp_appB {o : Oper} {a : Act} {K : Act → World → Prop} {Q : Exit → Act → World → Prop} (s x : Operand) (t : TypeId)
    (ho : o.op = .call { callee := .builtin .append, args := #[s, x], argTypes := #[t, t] })
    (e : TypeId) (i : TypeInfo) (z : Value) (size bytes : Nat) (ht : P.underlying t = some (.slice e)) (hi : P.info? e = some i) (hz : i.zero = some z)
    (hsize : i.size = size) (hby : i.bytes = bytes) (hzs : z.cells.size = size) (hsz : 0 < size)
    (B : Nat) {w : World} (hB : B ≤ w.heap.size) (v : Value) (n : Nat) (xs : List Value) (hs : a.eval s = v) (hown : w.ownsRow B e size v n xs)
    (X : Option Addr) (m c : Nat) (news : List Value) (hx : a.eval x = .slice X m c) (hl : news.length = m * size) (hnews : Cells w X news) (h1 : ∀ u ∈ news, u.oneCell' = true)
    (hn : n + m ≤ maxLen) (hbytes : (n + m) * bytes ≤ 140737488355328)
    (h : ∀ (w1 : World) (A : Option Addr) (cap : Nat), w1.ownsRow B e size (.slice A (n + m) cap) (n + m) (xs ++ news) → w.grownBy w1 v.ownBlock →
      (∀ v', Apart v' v → (∀ k, v'.ownBlock = some k → k < w.heap.size) → Apart v' (.slice A (n + m) cap)) →
      K (a.put o.dst (.slice A (n + m) cap)) w1) :
    o.wp P a w K Q := by
  unfold Oper.wp execOp
  by_cases hm : m = 0
  · subst hm
    have hne : news = [] := List.eq_nil_of_length_eq_zero (by simpa using hl)
    subst hne
    have hr := run_append_none (P := P) w B t o.type e i size ht hi v n xs hown X c
    simp only [ho, resolve, invoke, builtin, Sem.run_bind, Sem.run_pure, Result.andThen_ok, List.map_toArray, List.map_cons, List.map_nil, hs, hx, hr]
    obtain ⟨A, cap, rfl⟩ := own_shape hown
    exact h w A cap (by simpa using hown) ⟨rfl, rfl, rfl, Nat.le_refl _, fun _ _ _ => rfl⟩ (fun v' hap _ => hap)
  · have hne : news ≠ [] := by
      intro e
      subst e
      have h0 : 0 < m * size := Nat.mul_pos (by omega) hsz
      rw [List.length_nil] at hl
      omega
    obtain ⟨b, off, rfl, hc⟩ := hnews hne
    have hnews' : ∀ j u, news[j]? = some u → w.cell? ((⟨b, off, none⟩ : Addr).add j) = some u := by
      intro j u hj
      rw [add_flat rfl]
      exact hc j u hj
    obtain ⟨v', w', hr, h2, h3, _, hat⟩ := run_append_own_at (P := P) w B t o.type e i z size bytes ht hi hz hsize hby hzs hsz v n xs hown ⟨b, off, none⟩ m c news hl hnews' h1 hn hbytes hB
    simp only [ho, resolve, invoke, builtin, Sem.run_bind, Sem.run_pure, Result.andThen_ok, List.map_toArray, List.map_cons, List.map_nil, hs, hx, hr]
    obtain ⟨A, cap, rfl⟩ := own_shape h2
    refine h w' A cap h2 h3 fun v2 hap hlt => ?_
    have new : ∀ q, Value.ownBlock (.slice A (n + m) cap) = some q → w.heap.size ≤ q → Apart v2 (.slice A (n + m) cap) := fun q hq hle => by
      cases hv : v2.ownBlock with
      | none => exact .inl hv
      | some k =>
        refine .inr (.inr ?_)
        rw [hq, hv]
        intro he
        have := hlt k hv
        simp only [Option.some.injEq] at he
        omega
    rcases hat with h4 | h4
    · rcases hap with h0 | h0 | h0
      · exact .inl h0
      · exact .inr (.inl (h4.trans h0))
      · exact .inr (.inr (by rw [h4]; exact h0))
    · exact new _ h4 (Nat.le_refl _)
theorem wpList_appB {ops : Array Oper} {rest : List Oper} {o : Oper} {a : Act} {Q : Exit → Act → World → Prop} (hgd : o.guard = none) (s x : Operand) (t : TypeId)
    (ho : o.op = .call { callee := .builtin .append, args := #[s, x], argTypes := #[t, t] })
    (e : TypeId) (i : TypeInfo) (z : Value) (size bytes : Nat) (ht : P.underlying t = some (.slice e)) (hi : P.info? e = some i) (hz : i.zero = some z)
    (hsize : i.size = size) (hby : i.bytes = bytes) (hzs : z.cells.size = size) (hsz : 0 < size)
    (B : Nat) {w : World} (hB : B ≤ w.heap.size) (v : Value) (n : Nat) (xs : List Value) (hs : a.eval s = v) (hown : w.ownsRow B e size v n xs)
    (X : Option Addr) (m c : Nat) (news : List Value) (hx : a.eval x = .slice X m c) (hl : news.length = m * size) (hnews : Cells w X news) (h1 : ∀ u ∈ news, u.oneCell' = true)
    (hn : n + m ≤ maxLen) (hbytes : (n + m) * bytes ≤ 140737488355328)
    (h : ∀ (w1 : World) (A : Option Addr) (cap : Nat), w1.ownsRow B e size (.slice A (n + m) cap) (n + m) (xs ++ news) → w.grownBy w1 v.ownBlock →
      (∀ v', Apart v' v → (∀ k, v'.ownBlock = some k → k < w.heap.size) → Apart v' (.slice A (n + m) cap)) →
      wpList P ops Q rest (a.put o.dst (.slice A (n + m) cap)) w1) :
    wpList P ops Q (o :: rest) a w :=
  wpList_plain hgd fun _ hK => wp_appB s x t ho e i z size bytes ht hi hz hsize hby hzs hsz B hB v n xs hs hown X m c news hx hl hnews h1 hn hbytes fun w1 A cap h2 h3 h4 => hK _ _ (h w1 A cap h2 h3 h4)
theorem step_appB {ops : Array Oper} {o : Oper} {a : Act} {K : Act → World → Prop} {E : Prop} {Q : Exit → Act → World → Prop} (hgd : o.guard = none) (s x : Operand) (t : TypeId)
    (ho : o.op = .call { callee := .builtin .append, args := #[s, x], argTypes := #[t, t] })
    (e : TypeId) (i : TypeInfo) (z : Value) (size bytes : Nat) (ht : P.underlying t = some (.slice e)) (hi : P.info? e = some i) (hz : i.zero = some z)
    (hsize : i.size = size) (hby : i.bytes = bytes) (hzs : z.cells.size = size) (hsz : 0 < size)
    (B : Nat) {w : World} (hB : B ≤ w.heap.size) (v : Value) (n : Nat) (xs : List Value) (hs : a.eval s = v) (hown : w.ownsRow B e size v n xs)
    (X : Option Addr) (m c : Nat) (news : List Value) (hx : a.eval x = .slice X m c) (hl : news.length = m * size) (hnews : Cells w X news) (h1 : ∀ u ∈ news, u.oneCell' = true)
    (hn : n + m ≤ maxLen) (hbytes : (n + m) * bytes ≤ 140737488355328)
    (h : ∀ (w1 : World) (A : Option Addr) (cap : Nat), w1.ownsRow B e size (.slice A (n + m) cap) (n + m) (xs ++ news) → w.grownBy w1 v.ownBlock →
      (∀ v', Apart v' v → (∀ k, v'.ownBlock = some k → k < w.heap.size) → Apart v' (.slice A (n + m) cap)) →
      K (a.put o.dst (.slice A (n + m) cap)) w1) :
    if Region.wanted o (yielded ops a.tmps) = true then Oper.wp P o a w K Q else E := by
  have hw : Region.wanted o (yielded ops a.tmps) = true := by simp [Region.wanted, hgd]
  rw [if_pos hw]
  exact wp_appB s x t ho e i z size bytes ht hi hz hsize hby hzs hsz B hB v n xs hs hown X m c news hx hl hnews h1 hn hbytes h
end
end Go
