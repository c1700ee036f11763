/-
  A row of the call's own that begins anywhere in its block (s = s[1:]): read, appended to, cut at both ends; what keeps it. Plain laws. No condition.
-/
import Derived.Test.YtplkekmegonenaaPushB
import Derived.ArgAppend
import Derived.Deep.Upon
namespace Go
open Go.RowKit
def RowAt (w : World) (B : Nat) (e : TypeId) (size : Nat) (v : Value) (n : Nat) (xs : List Value) : Prop :=
  xs.length = n * size ∧ ((v = .slice none 0 0 ∧ n = 0) ∨ ∃ g off cap cur, v = .slice (some ⟨g, off, none⟩) n cap ∧ B ≤ g ∧ w.heap[g]? = some (.cells cur e (0, 0)) ∧ n ≤ cap ∧ cap ≤ maxLen ∧ off + cap * size ≤ cur.size ∧ ∀ j, j < n * size → cur[off + j]? = xs[j]?)
section
variable {w w' : World} {B : Nat} {e : TypeId} {size n : Nat} {v : Value} {xs : List Value}
theorem RowAt.nil (w : World) (B : Nat) (e : TypeId) (size : Nat) : RowAt w B e size (.slice none 0 0) 0 [] := ⟨by simp, .inl ⟨rfl, rfl⟩⟩
theorem RowAt.of_own (h : w.ownsRow B e size v n xs) : RowAt w B e size v n xs := by
  refine ⟨h.1, ?_⟩
  rcases h.2 with h1 | ⟨g, cap, cur, hv, hg, hh, hn, hc, hcs, ht⟩
  · exact .inl h1
  · refine .inr ⟨g, 0, cap, cur, hv, hg, hh, hn, hc, by omega, fun j hj => ?_⟩
    rw [← ht, List.getElem?_take, if_pos hj, Nat.zero_add]
    simp
theorem RowAt.succ (h : RowAt w B e size v n xs) (hn : 0 < n) : ∃ g off cap, v = .slice (some ⟨g, off, none⟩) n cap ∧ B ≤ g ∧ g < w.heap.size := by
  rcases h.2 with ⟨_, h0⟩ | ⟨g, off, cap, cur, hv, hg, hh, _⟩
  · omega
  · exact ⟨g, off, cap, hv, hg, (Array.getElem?_eq_some_iff.1 hh).1⟩
theorem RowAt.shape (h : RowAt w B e size v n xs) : ∃ A cap, v = .slice A n cap := by
  rcases h.2 with ⟨rfl, rfl⟩ | ⟨g, off, cap, cur, hv, _⟩
  · exact ⟨none, 0, rfl⟩
  · exact ⟨_, _, hv⟩
theorem RowAt.lt (h : RowAt w B e size v n xs) {k : Nat} (hk : v.ownBlock = some k) : B ≤ k ∧ k < w.heap.size := by
  rcases h.2 with ⟨rfl, _⟩ | ⟨g, off, cap, cur, hv, hg, hh, _⟩
  · cases hk
  · subst hv
    simp only [Value.ownBlock, Option.some.injEq] at hk
    subst hk
    exact ⟨hg, (Array.getElem?_eq_some_iff.1 hh).1⟩
theorem RowAt.at {g off cap : Nat} (h : RowAt w B e size (.slice (some ⟨g, off, none⟩) n cap) n xs) {j : Nat} (hj : j < n * size) : w.cell? ⟨g, off + j, none⟩ = xs[j]? := by
  rcases h.2 with ⟨h0, _⟩ | ⟨g', off', cap', cur, hv, _, hh, _, _, _, hx⟩
  · cases h0
  · cases hv
    rw [cell_of_row w g (off + j) cur e (0, 0) hh]
    exact hx j hj
theorem RowAt.frozen {g off cap : Nat} (h : RowAt w B e size (.slice (some ⟨g, off, none⟩) n cap) n xs) (j : Nat) : w.frozen? ⟨g, j, none⟩ = false := by
  rcases h.2 with ⟨h0, _⟩ | ⟨g', off', cap', cur, hv, _, hh, _⟩
  · cases h0
  · cases hv
    exact frozen_of_row w g j cur e hh
theorem RowAt.cells {A : Option Addr} {cap : Nat} (h : RowAt w B e size (.slice A n cap) n xs) : Cells w A xs := fun hne => by
  rcases h.2 with ⟨h0, h1⟩ | ⟨g, off, cap', cur, hv, _, hh, _, _, _, hx⟩
  · subst h1
    exact absurd (List.eq_nil_of_length_eq_zero (by simpa using h.1)) hne
  · cases hv
    refine ⟨g, off, rfl, fun i u hi => ?_⟩
    have hlt : i < n * size := by rw [← h.1]; exact (List.getElem?_eq_some_iff.1 hi).1
    rw [cell_of_row w g (off + i) cur e (0, 0) hh, hx i hlt, hi]
theorem RowAt.move (h : RowAt w B e size v n xs) (hk : ∀ k, v.ownBlock = some k → w'.heap[k]? = w.heap[k]?) : RowAt w' B e size v n xs := by
  refine ⟨h.1, ?_⟩
  rcases h.2 with h1 | ⟨g, off, cap, cur, hv, hg, hh, hr⟩
  · exact .inl h1
  · exact .inr ⟨g, off, cap, cur, hv, hg, (hk g (by rw [hv]; rfl)).trans hh, hr⟩
theorem RowAt.below (h : RowAt w B e size v n xs) (hb : Below w.heap.size w w') : RowAt w' B e size v n xs := h.move fun k hk => hb.block k (h.lt hk).2
theorem RowAt.grown (h : RowAt w B e size v n xs) {row : Option Nat} (hg : w.grownBy w' row) (hne : v.ownBlock = none ∨ v.ownBlock ≠ row) : RowAt w' B e size v n xs := h.move fun k hk => hg.block k (h.lt hk).2 (fun e => by rcases hne with h | h; rw [h] at hk; cases hk; exact h (by rw [hk, e]))
theorem RowAt.not_rec {T : TypeId} {b : Nat} {cs : Array Value} (h : RowAt w B e size v n xs) (hb : Rec w b T cs) (hT : T ≠ e) : v.ownBlock ≠ some b := by
  rcases h.2 with ⟨rfl, _⟩ | ⟨g, off, cap, cur, hv, _, hh, _⟩
  · simp [Value.ownBlock]
  · subst hv
    intro he
    simp only [Value.ownBlock, Option.some.injEq] at he
    subst he
    have hb' : w.heap[g]? = some (.cells cs T (0, 0)) := hb
    rw [hh] at hb'
    simp only [Option.some.injEq, Obj.cells.injEq] at hb'
    exact hT hb'.2.1.symm
theorem RowAt.setB {T : TypeId} {b : Nat} {cs : Array Value} (h : RowAt w B e size v n xs) (hb : Rec w b T cs) (hT : T ≠ e) (o : Nat) (u : Value) : RowAt (w.setCell ⟨b, o, none⟩ u) B e size v n xs :=
  h.move fun k hk => heap_setCell_other w ⟨b, o, none⟩ k u (fun e2 => h.not_rec hb hT (by rw [hk, e2]))
theorem RowAt.keptT {T : TypeId} {b : Nat} {ts : TypeId → Prop} {cs : Array Value} (h : RowAt w B e size v n xs) (hk : KeptT b ts w w') (hb : Rec w b T cs) (hT : T ≠ e) (he : ¬ ts e) : RowAt w' B e size v n xs := by
  have hnr := h.not_rec hb hT
  refine ⟨h.1, ?_⟩
  rcases h.2 with h1 | ⟨g, off, cap, cur, hv, hg, hh, hr⟩
  · exact .inl h1
  · exact .inr ⟨g, off, cap, cur, hv, hg, (hk.block g cur e hh (fun e2 => hnr (by rw [hv, e2]; rfl)) he).trans hh, hr⟩
theorem Rec.grownAt {g : Nat} {t : TypeId} {cs : Array Value} (h : Rec w g t cs) (ho : RowAt w B e size v n xs) (hg : w.grownBy w' v.ownBlock) (ht : t ≠ e) : Rec w' g t cs :=
  (hg.block g (Rec.lt h) (fun e2 => ho.not_rec h ht e2.symm)).trans h
theorem KeptT.grownAt {b : Nat} {ts : TypeId → Prop} (h : RowAt w B e size v n xs) (hg : w.grownBy w' v.ownBlock) (he : ts e) : KeptT b ts w w' :=
  ⟨hg.os, hg.tape, hg.output, hg.size, fun k cs t hk _ ht => by
    refine hg.block k (Array.getElem?_eq_some_iff.1 hk).1 (fun e2 => ?_)
    rcases h.2 with ⟨rfl, _⟩ | ⟨g, off, cap, cur, rfl, _, hh, _⟩
    · simp [Value.ownBlock] at e2
    · simp only [Value.ownBlock, Option.some.injEq] at e2
      subst e2
      rw [hk] at hh
      simp only [Option.some.injEq, Obj.cells.injEq] at hh
      exact ht (by rw [hh.2.1]; exact he)⟩
theorem RowAt.apart {B' : Nat} {e' : TypeId} {s' n' : Nat} {v' : Value} {xs' : List Value} (h : RowAt w B' e' s' v' n' xs') (hg : w.grownBy w' v.ownBlock) (hap : Apart v' v) : RowAt w' B' e' s' v' n' xs' := by
  refine h.grown hg ?_
  rcases hap with h0 | h0 | h0
  · exact .inl h0
  · cases hv : v'.ownBlock with
    | none => exact .inl rfl
    | some k => rw [h0]; exact .inr (by simp)
  · exact .inr h0
theorem RowAt.apart_types {B' : Nat} {e' : TypeId} {s' n' : Nat} {v' : Value} {xs' : List Value} (h : RowAt w B' e' s' v' n' xs') (k : RowAt w B e size v n xs) (hne : e' ≠ e) : Apart v' v := by
  rcases h.2 with ⟨rfl, _⟩ | ⟨g, off, cap, cur, rfl, _, hg, _⟩
  · exact .inl rfl
  · rcases k.2 with ⟨rfl, _⟩ | ⟨g2, off2, cap2, cur2, rfl, _, hg2, _⟩
    · exact .inr (.inl rfl)
    · refine .inr (.inr fun he => hne ?_)
      simp only [Value.ownBlock, Option.some.injEq] at he
      subst he
      rw [hg] at hg2
      simp only [Option.some.injEq, Obj.cells.injEq] at hg2
      exact hg2.2.1
/-- s[:len(s)-1] -/
theorem RowAt.popEnd {g off cap : Nat} {last : List Value} (h : RowAt w B e size (.slice (some ⟨g, off, none⟩) (n + 1) cap) (n + 1) (xs ++ last)) (hx : xs.length = n * size) : RowAt w B e size (.slice (some ⟨g, off, none⟩) n cap) n xs := by
  rcases h.2 with ⟨h0, _⟩ | ⟨g', off', cap', cur, hv, hg, hh, hn, hc, hcs, hr⟩
  · cases h0
  · cases hv
    refine ⟨hx, .inr ⟨g, off, cap, cur, rfl, hg, hh, by omega, hc, hcs, fun j hj => ?_⟩⟩
    rw [hr j (by rw [Nat.add_mul]; omega), List.getElem?_append_left (by omega)]
/-- s[1:] -/
theorem RowAt.popFront {g off cap : Nat} {first : List Value} (h : RowAt w B e size (.slice (some ⟨g, off, none⟩) (n + 1) cap) (n + 1) (first ++ xs)) (hf : first.length = size) : RowAt w B e size (.slice (if cap = 1 then some ⟨g, off, none⟩ else some ⟨g, off + size, none⟩) n (cap - 1)) n xs := by
  rcases h.2 with ⟨h0, _⟩ | ⟨g', off', cap', cur, hv, hg, hh, hn, hc, hcs, hr⟩
  · cases h0
  · cases hv
    have hx : xs.length = n * size := by have := h.1; rw [List.length_append, hf, Nat.add_mul] at this; omega
    have hms : (cap - 1) * size + size = cap * size := by
      obtain ⟨c, rfl⟩ : ∃ c, cap = c + 1 := ⟨cap - 1, by omega⟩
      rw [Nat.add_sub_cancel, Nat.add_mul, Nat.one_mul]
    by_cases hc1 : cap = 1
    · rw [if_pos hc1]
      obtain rfl : n = 0 := by omega
      refine ⟨hx, .inr ⟨g, off, cap - 1, cur, rfl, hg, hh, by omega, by omega, by omega, fun j hj => by omega⟩⟩
    · rw [if_neg hc1]
      refine ⟨hx, .inr ⟨g, off + size, cap - 1, cur, rfl, hg, hh, by omega, by omega, by omega, fun j hj => ?_⟩⟩
      rw [Nat.add_assoc, hr (size + j) (by rw [Nat.add_mul]; omega), List.getElem?_append_right (by omega)]
      congr 1
      omega
end
section
variable {P : Program}
theorem setCells_frame (g : Nat) : ∀ (vs : List Value) (o : Nat) (w : World), w.grownBy (w.setCells g o vs) (some g) ∧ (∀ cur e, w.heap[g]? = some (.cells cur e (0, 0)) → ∃ cur', (w.setCells g o vs).heap[g]? = some (.cells cur' e (0, 0)) ∧ cur'.size = cur.size)
  | [], _, w => ⟨⟨rfl, rfl, rfl, Nat.le_refl _, fun _ _ _ => rfl⟩, fun cur e h => ⟨cur, h, rfl⟩⟩
  | v :: vs, o, w => by
    obtain ⟨h1, h2⟩ := setCells_frame g vs (o + 1) (w.setCell ⟨g, o, none⟩ v)
    refine ⟨⟨h1.os, h1.tape, h1.output, Nat.le_trans (Nat.le_of_eq (by simp [World.setCell])) h1.size, fun k hk hn => (h1.block k (by simpa [World.setCell] using hk) hn).trans (heap_setCell_other w ⟨g, o, none⟩ k v (fun e => hn (by rw [e])))⟩, fun cur e h => ?_⟩
    obtain ⟨cur', h3, h4⟩ := h2 (cur.setIfInBounds o v) e (heap_setCell_same w g o cur e v h)
    exact ⟨cur', h3, by rw [h4]; simp⟩
theorem run_push_at (w : World) (t ty : TypeId) (e : TypeId) (i : TypeInfo) (z : Value) (size bytes : Nat) (ht : P.underlying t = some (.slice e)) (hi : P.info? e = some i) (hz : i.zero = some z)
    (hsize : i.size = size) (hby : i.bytes = bytes) (hzs : z.cells.size = size) (hsz : 0 < size)
    (B : Nat) (hB : B ≤ w.heap.size) (v : Value) (n : Nat) (xs : List Value) (hown : RowAt w B e size v n xs)
    (ad : Addr) (c : Nat) (news : List Value) (hl : news.length = size) (hnews : ∀ j u, news[j]? = some u → w.cell? (ad.add j) = some u) (h1 : ∀ u ∈ news, u.oneCell' = true)
    (hbytes : (n + 1) * bytes ≤ 140737488355328) (hn : n + 1 ≤ maxLen) :
    ∃ v' w', (Builtin.append_ #[t, t] ty #[v, .slice (some ad) 1 c]).run P w = .ok v' w' ∧ RowAt w' B e size v' (n + 1) (xs ++ news) ∧ w.grownBy w' v.ownBlock ∧ (v'.ownBlock = v.ownBlock ∨ ∃ k, v'.ownBlock = some k ∧ w.heap.size ≤ k) := by
  rcases hown.2 with ⟨rfl, rfl⟩ | ⟨g, off, cap, cur, rfl, hg, hh, hnc, hcm, hcs, hr⟩
  · have hx : xs = [] := List.eq_nil_of_length_eq_zero (by simpa using hown.1)
    subst hx
    obtain ⟨v', w', hrun, hown', hgr, _, hat⟩ := run_append_own_at (P := P) (w := w) B t ty e i z size bytes ht hi hz hsize hby hzs hsz (.slice none 0 0) 0 [] ⟨by simp, .inl ⟨rfl, rfl⟩⟩ ad 1 c news (by omega) hnews h1 (by omega) (by omega) hB
    exact ⟨v', w', hrun, RowAt.of_own (by simpa using hown'), hgr, hat.imp id fun h => ⟨_, h, Nat.le_refl _⟩⟩
  · by_cases hroom : n + 1 ≤ cap
    · have hcell : ∀ j, j < (n + 1) * size → (w.cell? ⟨g, off + j, none⟩).isSome = true := fun j hj => by
        have : (n + 1) * size ≤ cap * size := Nat.mul_le_mul_right _ hroom
        rw [cell_of_row w g (off + j) cur e (0, 0) hh, Array.getElem?_eq_getElem (by omega)]
        rfl
      have hfz : ∀ j, w.frozen? ⟨g, j, none⟩ = false := fun j => frozen_of_row w g j cur e hh
      have hrun := run_append_room_cells (P := P) w t ty e i ht hi g off n cap ad 1 c news (by rw [hsize]; omega) hnews h1 hroom
        (fun j hj => by rw [hsize, Nat.add_assoc]; exact hcell _ (by rw [Nat.add_mul]; omega)) (fun j _ => hfz _)
      obtain ⟨hgr, hblk⟩ := setCells_frame g news (off + n * i.size) w
      obtain ⟨cur', hh', hsz'⟩ := hblk cur e hh
      refine ⟨_, _, hrun, ⟨by rw [List.length_append, hown.1, hl, Nat.add_mul]; omega, .inr ⟨g, off, cap, cur', rfl, hg, hh', hroom, hcm, by omega, fun j hj => ?_⟩⟩, hgr, .inl rfl⟩
      have hc1 := cell_of_row (w.setCells g (off + n * i.size) news) g (off + j) cur' e (0, 0) hh'
      rw [← hc1]
      rw [Nat.add_mul, Nat.one_mul] at hj
      by_cases hjn : j < n * size
      · rw [World.cell?_setCells_out g news _ w ⟨g, off + j, none⟩ (fun _ _ => .inl (by simp only; rw [hsize]; omega)), cell_of_row w g (off + j) cur e (0, 0) hh, hr j hjn, List.getElem?_append_left (by rw [hown.1]; exact hjn)]
      · have h3 := World.cell?_setCells_in g news (off + n * i.size) w (fun k hk => by rw [hsize, Nat.add_assoc]; exact hcell _ (by rw [Nat.add_mul]; omega)) (j - n * size) (by omega)
        rw [List.getElem?_append_right (by rw [hown.1]; omega), hown.1]
        rw [show off + j = off + n * i.size + (j - n * size) by rw [hsize]; omega]
        exact h3.trans (List.getElem?_eq_getElem _).symm
    · obtain ⟨v', w', hrun, ho, hgr⟩ := run_append_arg_grows (P := P) w t ty e i z size bytes ht hi hz hsize hby hzs hsz ⟨g, off, none⟩ n cap xs hown.1
        (fun j u hj => by
          have hlt : j < n * size := by rw [← hown.1]; exact (List.getElem?_eq_some_iff.1 hj).1
          have : (⟨g, off, none⟩ : Addr).add j = ⟨g, off + j, none⟩ := by unfold Addr.add; split <;> simp_all
          rw [this, cell_of_row w g (off + j) cur e (0, 0) hh, hr j hlt, hj]) ad 1 c news (by omega) hnews (by omega) hn hbytes
      obtain ⟨g2, cap2, e2, hge⟩ := own_succ ho (by omega)
      refine ⟨v', w', hrun, RowAt.of_own (own_base ho hB), ⟨hgr.os, hgr.tape, hgr.output, hgr.size, fun k hk _ => hgr.block k hk (by simp)⟩, ?_⟩
      exact .inr ⟨g2, by rw [e2]; rfl, hge⟩
theorem wp_pushAt {o : Oper} {a : Act} {K : Act → World → Prop} {Q : Exit → Act → World → Prop} (s x : Operand) (t : TypeId)
    (ho : o.op = .call { callee := .builtin .append, args := #[s, x], argTypes := #[t, t] })
    (e : TypeId) (i : TypeInfo) (z : Value) (size bytes : Nat) (ht : P.underlying t = some (.slice e)) (hi : P.info? e = some i) (hz : i.zero = some z)
    (hsize : i.size = size) (hby : i.bytes = bytes) (hzs : z.cells.size = size) (hsz : 0 < size)
    (B : Nat) {w : World} (hB : B ≤ w.heap.size) (v : Value) (n : Nat) (xs : List Value) (hs : a.eval s = v) (hown : RowAt w B e size v n xs)
    (g0 : Nat) (news : Array Value) (hg0 : g0 = w.heap.size) (hx : a.eval x = .slice (some ⟨g0, 0, none⟩) 1 1) (hl : news.size = size) (h1 : ∀ u ∈ news.toList, u.oneCell' = true)
    (hbytes : (n + 1) * bytes ≤ 140737488355328) (hn : n + 1 ≤ maxLen)
    (h : ∀ (w1 : World) (g off cap : Nat), RowAt w1 B e size (.slice (some ⟨g, off, none⟩) (n + 1) cap) (n + 1) (xs ++ news.toList) → w.grownBy w1 v.ownBlock →
      (∀ v', Apart v' v → (∀ k, v'.ownBlock = some k → k < w.heap.size) → Apart v' (.slice (some ⟨g, off, none⟩) (n + 1) cap)) →
      K (a.put o.dst (.slice (some ⟨g, off, none⟩) (n + 1) cap)) w1) :
    o.wp P a (w.alloc (.cells news e)) K Q := by
  subst hg0
  have hnews : ∀ j u, news.toList[j]? = some u → (w.alloc (.cells news e)).cell? ((⟨w.heap.size, 0, none⟩ : Addr).add j) = some u := by
    intro j u hj
    have : (⟨w.heap.size, 0, none⟩ : Addr).add j = ⟨w.heap.size, j, none⟩ := by unfold Addr.add; split <;> simp_all
    rw [this, World.cell?_alloc_new]
    simpa using hj
  obtain ⟨v', w', hrun, hown', hg, hat⟩ := run_push_at (P := P) (w.alloc (.cells news e)) t o.type e i z size bytes ht hi hz hsize hby hzs hsz B (by simp; omega) v n xs (hown.below ((Below.refl _ w).alloc (Nat.le_refl _) _)) ⟨w.heap.size, 0, none⟩ 1 news.toList (by simpa using hl) hnews h1 hbytes hn
  obtain ⟨g, off, cap, rfl, hge, _⟩ := hown'.succ (by omega)
  unfold Oper.wp execOp
  simp only [ho, resolve, invoke, builtin, Sem.run_bind, Sem.run_pure, Result.andThen_ok, List.map_toArray, List.map_cons, List.map_nil, hs, hx, hrun]
  refine h w' g off cap hown' ⟨hg.os, hg.tape, hg.output, Nat.le_trans (by simp) hg.size, fun k hk hn => (hg.block k (by simp; omega) hn).trans (heap_alloc_old w _ hk)⟩ fun v2 hap hlt => ?_
  have key : ∀ k, v2.ownBlock = some k → (Value.slice (some ⟨g, off, none⟩) (n + 1) cap).ownBlock ≠ v.ownBlock → v2.ownBlock ≠ (Value.slice (some ⟨g, off, none⟩) (n + 1) cap).ownBlock := by
    intro k hk hne
    rcases hat with h2 | ⟨q, h2, h3⟩
    · exact absurd h2 hne
    · rw [h2, hk]
      intro he
      have := hlt k hk
      rw [World.size_alloc] at h3
      simp only [Option.some.injEq] at he
      omega
  rcases hap with h0 | h0 | h0
  · exact .inl h0
  · cases hv : v2.ownBlock with
    | none => exact .inl hv
    | some k => exact .inr (.inr (key k hv (by rw [h0]; simp [Value.ownBlock])))
  · rcases hat with h2 | h2
    · exact .inr (.inr (by rw [h2]; exact h0))
    · cases hv : v2.ownBlock with
      | none => exact .inl hv
      | some k =>
        by_cases he : (Value.slice (some ⟨g, off, none⟩) (n + 1) cap).ownBlock = v.ownBlock
        · exact .inr (.inr (by rw [he]; exact h0))
        · exact .inr (.inr (key k hv he))
theorem wpList_pushAt {ops : Array Oper} {rest : List Oper} {o : Oper} {a : Act} {Q : Exit → Act → World → Prop} (hgd : o.guard = none) (s x : Operand) (t : TypeId)
    (ho : o.op = .call { callee := .builtin .append, args := #[s, x], argTypes := #[t, t] })
    (e : TypeId) (i : TypeInfo) (z : Value) (size bytes : Nat) (ht : P.underlying t = some (.slice e)) (hi : P.info? e = some i) (hz : i.zero = some z)
    (hsize : i.size = size) (hby : i.bytes = bytes) (hzs : z.cells.size = size) (hsz : 0 < size)
    (B : Nat) {w : World} (hB : B ≤ w.heap.size) (v : Value) (n : Nat) (xs : List Value) (hs : a.eval s = v) (hown : RowAt w B e size v n xs)
    (g0 : Nat) (news : Array Value) (hg0 : g0 = w.heap.size) (hx : a.eval x = .slice (some ⟨g0, 0, none⟩) 1 1) (hl : news.size = size) (h1 : ∀ u ∈ news.toList, u.oneCell' = true)
    (hbytes : (n + 1) * bytes ≤ 140737488355328) (hn : n + 1 ≤ maxLen)
    (h : ∀ (w1 : World) (g off cap : Nat), RowAt w1 B e size (.slice (some ⟨g, off, none⟩) (n + 1) cap) (n + 1) (xs ++ news.toList) → w.grownBy w1 v.ownBlock →
      (∀ v', Apart v' v → (∀ k, v'.ownBlock = some k → k < w.heap.size) → Apart v' (.slice (some ⟨g, off, none⟩) (n + 1) cap)) →
      wpList P ops Q rest (a.put o.dst (.slice (some ⟨g, off, none⟩) (n + 1) cap)) w1) :
    wpList P ops Q (o :: rest) a (w.alloc (.cells news e)) :=
  wpList_plain hgd fun _ hK => wp_pushAt s x t ho e i z size bytes ht hi hz hsize hby hzs hsz B hB v n xs hs hown g0 news hg0 hx hl h1 hbytes hn fun w1 g off cap h2 h3 h4 => hK _ _ (h w1 g off cap h2 h3 h4)
theorem step_pushAt {ops : Array Oper} {o : Oper} {a : Act} {K : Act → World → Prop} {E : Prop} {Q : Exit → Act → World → Prop} (hgd : o.guard = none) (s x : Operand) (t : TypeId)
    (ho : o.op = .call { callee := .builtin .append, args := #[s, x], argTypes := #[t, t] })
    (e : TypeId) (i : TypeInfo) (z : Value) (size bytes : Nat) (ht : P.underlying t = some (.slice e)) (hi : P.info? e = some i) (hz : i.zero = some z)
    (hsize : i.size = size) (hby : i.bytes = bytes) (hzs : z.cells.size = size) (hsz : 0 < size)
    (B : Nat) {w : World} (hB : B ≤ w.heap.size) (v : Value) (n : Nat) (xs : List Value) (hs : a.eval s = v) (hown : RowAt w B e size v n xs)
    (g0 : Nat) (news : Array Value) (hg0 : g0 = w.heap.size) (hx : a.eval x = .slice (some ⟨g0, 0, none⟩) 1 1) (hl : news.size = size) (h1 : ∀ u ∈ news.toList, u.oneCell' = true)
    (hbytes : (n + 1) * bytes ≤ 140737488355328) (hn : n + 1 ≤ maxLen)
    (h : ∀ (w1 : World) (g off cap : Nat), RowAt w1 B e size (.slice (some ⟨g, off, none⟩) (n + 1) cap) (n + 1) (xs ++ news.toList) → w.grownBy w1 v.ownBlock →
      (∀ v', Apart v' v → (∀ k, v'.ownBlock = some k → k < w.heap.size) → Apart v' (.slice (some ⟨g, off, none⟩) (n + 1) cap)) →
      K (a.put o.dst (.slice (some ⟨g, off, none⟩) (n + 1) cap)) w1) :
    if Region.wanted o (yielded ops a.tmps) = true then Oper.wp P o a (w.alloc (.cells news e)) K Q else E := by
  have hw : Region.wanted o (yielded ops a.tmps) = true := by simp [Region.wanted, hgd]
  rw [if_pos hw]
  exact wp_pushAt s x t ho e i z size bytes ht hi hz hsize hby hzs hsz B hB v n xs hs hown g0 news hg0 hx hl h1 hbytes hn h
end
end Go
