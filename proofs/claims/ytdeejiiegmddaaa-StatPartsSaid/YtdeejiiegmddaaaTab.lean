/-
  Slices of elements of some cells each, as lists: plain laws for the walk. No condition.
-/
import Derived.Test.YtdeejiiegmddaaaOwn
namespace Go
open Go.RowKit
/-- The cells of a list, an element's behind the other's. -/
def tab {α : Type} (f : α → List Value) (l : List α) : List Value := l.flatMap f
theorem tab_snoc {α : Type} (f : α → List Value) (l : List α) (x : α) : tab f l ++ f x = tab f (l ++ [x]) := by simp [tab]
theorem tab_nil {α : Type} (f : α → List Value) : tab f [] = [] := rfl
theorem tab_length {α : Type} {f : α → List Value} {c : Nat} (hf : ∀ x, (f x).length = c) : ∀ l : List α, (tab f l).length = l.length * c := by
  intro l
  induction l with
  | nil => simp [tab]
  | cons x l ih =>
    have : tab f (x :: l) = f x ++ tab f l := by simp [tab]
    rw [this, List.length_append, ih, hf, List.length_cons, Nat.add_mul]
    omega
theorem tab_get {α : Type} {f : α → List Value} {c : Nat} (hf : ∀ x, (f x).length = c) : ∀ (l : List α) (k : Nat) (x : α) (j : Nat), l[k]? = some x → j < c → (tab f l)[k * c + j]? = (f x)[j]? := by
  intro l
  induction l with
  | nil => intro k x j h; simp at h
  | cons y l ih =>
    intro k x j h hj
    have e : tab f (y :: l) = f y ++ tab f l := by simp [tab]
    rw [e]
    cases k with
    | zero =>
      simp at h
      subst h
      rw [List.getElem?_append_left (by rw [hf]; omega)]
      simp
    | succ k =>
      rw [List.getElem?_append_right (by rw [hf, Nat.add_mul]; omega), hf]
      have := ih k x j (by simpa using h) hj
      rw [show (k + 1) * c + j - c = k * c + j by rw [Nat.add_mul]; omega]
      exact this
theorem Cells.tab_at {α : Type} {f : α → List Value} {c : Nat} (hf : ∀ x, (f x).length = c) {w : World} {A : Option Addr} {l : List α} (h : Cells w A (tab f l)) {k : Nat} {x : α} (hk : l[k]? = some x) (hc : 0 < c) :
    ∃ b off : Nat, A = some ⟨b, off, none⟩ ∧ ∀ j v, (f x)[j]? = some v → w.cell? ⟨b, off + k * c + j, none⟩ = some v := by
  have hlt := (List.getElem?_eq_some_iff.1 hk).1
  have hl := tab_length hf l
  have h2 : (k + 1) * c ≤ l.length * c := Nat.mul_le_mul_right _ hlt
  obtain ⟨b, off, e, hcell⟩ := h (by intro e; rw [e] at hl; simp at hl; rw [← hl] at h2; rw [Nat.add_mul] at h2; omega)
  refine ⟨b, off, e, fun j v hj => ?_⟩
  have hjc : j < c := by rw [← hf x]; exact (List.getElem?_eq_some_iff.1 hj).1
  have := hcell (k * c + j) v (by rw [tab_get hf l k x j hk hjc]; exact hj)
  rw [← Nat.add_assoc] at this
  exact this
section
variable {H : Type} {enc : TypeId × Value → H} {P : Program} {W : World}
theorem rd_tabC {α : Type} {f : α → List Value} {c : Nat} {K : α → Prop} (hf : ∀ x, (f x).length = c) (hc0 : 0 < c) {t e : TypeId} {v : Value} (h : Rd enc P W t [v]) (ht : P.underlying t = some (.slice e)) (hc : P.cellsOf e = c)
    (hdec : ∀ cs : List Value, Rd enc P W e cs → ∃ x, cs = f x ∧ K x) : ∃ (A : Option Addr) (cap : Nat) (l : List α), v = .slice A l.length cap ∧ Cells W A (tab f l) ∧ (∀ x ∈ l, K x) ∧ l.length ≤ maxLen ∧ l.length ≤ cap := by
  rcases h.slice ht with h | ⟨a, len, cap, hv, hl, hm, hi⟩
  · injection h with h _
    exact ⟨none, 0, [], h, Cells.nil _ _, (fun _ hx => by cases hx), Nat.zero_le _, Nat.le_refl _⟩
  · injection hv with hv _
    have hx : ∀ i, i < len → ∃ x, K x ∧ ∀ j u, (f x)[j]? = some u → W.cell? ((a.add (i * c)).add j) = some u := by
      intro i hlt
      obtain ⟨ds, hd, hcell, hr⟩ := hi i (by omega)
      obtain ⟨x, ex, kx⟩ := hdec ds hr
      subst ex
      rw [hc] at hcell
      exact ⟨x, kx, hcell⟩
    have hl2 : ∃ l : List α, l.length = len ∧ ∀ i x, l[i]? = some x → K x ∧ ∀ j u, (f x)[j]? = some u → W.cell? ((a.add (i * c)).add j) = some u := by
      clear hv hl hm hi
      induction len with
      | zero => exact ⟨[], rfl, fun i x h => by simp at h⟩
      | succ len ih =>
        obtain ⟨l, hl, h2⟩ := ih (fun i h => hx i (by omega))
        obtain ⟨x, h3, h4⟩ := hx len (by omega)
        refine ⟨l ++ [x], by simp [hl], fun i y hy => ?_⟩
        rw [List.getElem?_append] at hy
        split at hy
        · exact h2 i y hy
        · rename_i hge
          have : i = len := by
            have := (List.getElem?_eq_some_iff.1 hy).1
            simp at this
            omega
          subst this
          rw [hl, Nat.sub_self] at hy
          simp at hy
          subst hy
          exact ⟨h3, h4⟩
    obtain ⟨l, hll, h2⟩ := hl2
    refine ⟨some a, cap, l, by rw [hll]; exact hv, fun hne => ?_, fun x hx => ?_, by omega, by omega⟩
    · have h0 : 0 < l.length := by
        cases l with
        | nil => exact (hne rfl).elim
        | cons _ _ => simp
      obtain ⟨x0, hx0⟩ : ∃ x0, l[0]? = some x0 := ⟨_, List.getElem?_eq_getElem h0⟩
      obtain ⟨u, hu⟩ : ∃ u, (f x0)[0]? = some u := ⟨_, List.getElem?_eq_getElem (by rw [hf]; exact hc0)⟩
      have h00 := (h2 0 x0 hx0).2 0 u hu
      rw [Nat.zero_mul] at h00
      have hs := add_spot h00
      refine ⟨a.block, a.off, ?_, fun i v hi => ?_⟩
      · obtain ⟨b, o, s⟩ := a; simp only at hs; subst hs; rfl
      · have hilt := (List.getElem?_eq_some_iff.1 hi).1
        rw [tab_length hf] at hilt
        have hk : i / c < l.length := by rw [Nat.div_lt_iff_lt_mul hc0]; exact hilt
        have hx2 := h2 (i / c) _ (List.getElem?_eq_getElem hk)
        have hg := tab_get hf l (i / c) _ (i % c) (List.getElem?_eq_getElem hk) (Nat.mod_lt _ hc0)
        have ei : i / c * c + i % c = i := by rw [Nat.mul_comm]; exact Nat.div_add_mod i c
        rw [ei, hi] at hg
        have := hx2.2 (i % c) v hg.symm
        rw [add_flat hs, add_flat rfl] at this
        simp only at this
        rw [Nat.add_assoc, ei] at this
        exact this
    · obtain ⟨i, hi⟩ := List.mem_iff_getElem?.1 hx
      exact (h2 i x hi).1
theorem rd_tab {α : Type} {f : α → List Value} {c : Nat} {K : α → Prop} (hf : ∀ x, (f x).length = c) (hc0 : 0 < c) {t e : TypeId} {v : Value} (h : Rd enc P W t [v]) (ht : P.underlying t = some (.slice e)) (hc : P.cellsOf e = c)
    (hdec : ∀ cs : List Value, Rd enc P W e cs → ∃ x, cs = f x ∧ K x) : ∃ (A : Option Addr) (cap : Nat) (l : List α), v = .slice A l.length cap ∧ Cells W A (tab f l) ∧ (∀ x ∈ l, K x) ∧ l.length ≤ maxLen := by
  obtain ⟨A, cap, l, h1, h2, h3, h4, _⟩ := rd_tabC hf hc0 h ht hc hdec
  exact ⟨A, cap, l, h1, h2, h3, h4⟩
end
/-- Pairs of ints. -/
def pairI (x : Int × Int) : List Value := [.int .i64 x.1, .int .i64 x.2]
theorem pairI_length (x : Int × Int) : (pairI x).length = 2 := rfl
end Go
