/-
  Layer 02: places that hold values, and a chain of free ones; the document's three lists. No program in sight.
-/
import Derived.Test.YtgaenonggnkknaaObj
import Derived.Test.YtgaenonggnkknaaTab
namespace Go.Proofs.Ytgaenonggnkknaa
open Go.RowKit
/-- A place: its value, whether there is one, and what was dropped ahead of it. -/
abbrev Slot (α : Type) := α × Bool × Nat
structure Ar (α : Type) where
  l : List (Slot α)
  free : Nat
  n : Int
section
variable {α : Type} (z : α)
def slotA (l : List (Slot α)) (k : Nat) : Slot α := l[k]?.getD (z, false, 0)
def isA (l : List (Slot α)) (i : Int) : Bool := decide (0 ≤ i) && decide (i < l.length) && (slotA z l i.toNat).2.1
def putA (most : Int) (S : Ar α) (v : α) : Ar α × Nat × Nat :=
  if most ≤ S.n then (S, 0, 3) else
  if S.free = 0 then (⟨S.l ++ [(v, true, 0)], 0, S.n + 1⟩, S.l.length, 0) else
  (⟨S.l.set (S.free - 1) (v, true, 0), (slotA z S.l (S.free - 1)).2.2, S.n + 1⟩, S.free - 1, 0)
def getA (S : Ar α) (i : Int) : α × Bool := if isA z S.l i then ((slotA z S.l i.toNat).1, true) else (z, false)
def setA (S : Ar α) (i : Int) (v : α) : Ar α := if isA z S.l i then ⟨S.l.set i.toNat (v, true, (slotA z S.l i.toNat).2.2), S.free, S.n⟩ else S
def dropA (S : Ar α) (i : Int) : Ar α := if isA z S.l i then ⟨S.l.set i.toNat (z, false, S.free), i.toNat + 1, S.n - 1⟩ else S
/-- All that is small. -/
structure OkA (c : Nat) (S : Ar α) : Prop where
  len : S.l.length ≤ c
  free : S.free ≤ S.l.length
  next : ∀ s ∈ S.l, s.2.2 ≤ S.l.length
  n0 : -(c : Int) ≤ S.n
  n1 : S.n ≤ c
variable {z}
theorem slot_at {l : List (Slot α)} {k : Nat} (h : k < l.length) : l[k]? = some (slotA z l k) := by simp [slotA, h]
theorem slot_mem {l : List (Slot α)} {k : Nat} (h : k < l.length) : slotA z l k ∈ l := by
  have e : slotA z l k = l[k] := by simp [slotA, h]
  rw [e]; exact List.getElem_mem h
theorem isA_iff {l : List (Slot α)} {i : Int} : isA z l i = true ↔ 0 ≤ i ∧ i < l.length ∧ (slotA z l i.toNat).2.1 = true := by simp [isA, and_assoc]
theorem slot_set {l : List (Slot α)} {k j : Nat} {s : Slot α} (h : k < l.length) : slotA z (l.set k s) j = if j = k then s else slotA z l j := by
  unfold slotA
  by_cases e : j = k
  · subst e; simp [h]
  · rw [if_neg e, List.getElem?_set_ne (by omega)]
theorem slot_snoc {l : List (Slot α)} {s : Slot α} (j : Nat) : slotA z (l ++ [s]) j = if j = l.length then s else slotA z l j := by
  unfold slotA
  by_cases e : j = l.length
  · subst e; simp
  · rw [if_neg e]
    by_cases h : j < l.length
    · rw [List.getElem?_append_left h]
    · rw [List.getElem?_append_right (by omega), List.getElem?_eq_none (l := l) (by omega), List.getElem?_eq_none (by simp; omega)]
theorem OkA.mono {c d : Nat} {S : Ar α} (h : OkA c S) (hd : c ≤ d) : OkA d S := ⟨by have := h.len; omega, h.free, h.next, by have := h.n0; omega, by have := h.n1; omega⟩
theorem OkA.nil : OkA 0 (⟨[], 0, 0⟩ : Ar α) := ⟨Nat.le_refl _, Nat.le_refl _, fun s h => (by cases h), Int.le_refl _, Int.le_refl _⟩
theorem mem_set {β : Type} {l : List β} {k : Nat} {s x : β} (h : x ∈ l.set k s) : x ∈ l ∨ x = s := List.mem_or_eq_of_mem_set h
theorem OkA.put {c : Nat} {S : Ar α} (h : OkA c S) (most : Int) (v : α) : OkA (c + 1) (putA z most S v).1 := by
  have h0 := h.n0
  have h1 := h.n1
  have h2 := h.len
  have h3 := h.free
  unfold putA
  split
  · exact h.mono (by omega)
  · split
    · refine ⟨by simp; omega, by simp, fun s hs => ?_, by simp; omega, by simp; omega⟩
      simp at hs
      rcases hs with hs | rfl
      · have := h.next s hs; simp; omega
      · simp
    · rename_i hf
      refine ⟨by simp; omega, ?_, fun s hs => ?_, by simp; omega, by simp; omega⟩
      · have := h.next _ (slot_mem (z := z) (l := S.l) (k := S.free - 1) (by omega))
        simpa using this
      · rcases mem_set hs with hs | rfl
        · simpa using h.next s hs
        · simp
theorem OkA.set {c : Nat} {S : Ar α} (h : OkA c S) (i : Int) (v : α) : OkA c (setA z S i v) := by
  unfold setA
  split
  · rename_i hi
    obtain ⟨a, b, _⟩ := isA_iff.1 hi
    refine ⟨by simpa using h.len, by simpa using h.free, fun s hs => ?_, h.n0, h.n1⟩
    rcases mem_set hs with hs | rfl
    · simpa using h.next s hs
    · simpa using h.next _ (slot_mem (z := z) (by omega))
  · exact h
theorem OkA.drop {c : Nat} {S : Ar α} (h : OkA c S) (i : Int) : OkA (c + 1) (dropA z S i) := by
  have h0 := h.n0
  have h1 := h.n1
  unfold dropA
  split
  · rename_i hi
    obtain ⟨a, b, _⟩ := isA_iff.1 hi
    refine ⟨by have := h.len; simp; omega, by simp; omega, fun s hs => ?_, by simp; omega, by simp; omega⟩
    rcases mem_set hs with hs | rfl
    · simpa using h.next s hs
    · simpa using h.free
  · exact h.mono (by omega)
/-- Of the first m places those with values. -/
def allA (l : List (Slot α)) : Nat → List (Int × α)
  | 0 => []
  | k + 1 => allA l k ++ (if (slotA z l k).2.1 then [((k : Int), (slotA z l k).1)] else [])
end
/-- The document's lists. -/
structure Dc where
  l : List Int
  on : List Bool
  free : List Nat
def onD (D : Dc) (k : Nat) : Bool := D.on[k]?.getD false
def isD (D : Dc) (i : Int) : Bool := decide (0 ≤ i) && decide (i < D.l.length) && onD D i.toNat
def putD (most : Int) (D : Dc) (v : Int) : Dc × Nat × Nat :=
  if most ≤ (D.l.length : Int) - D.free.length then (D, 0, 3) else
  match D.free.getLast? with
  | none => (⟨D.l ++ [v], D.on ++ [true], D.free⟩, D.l.length, 0)
  | some k => (⟨D.l.set k v, D.on.set k true, D.free.dropLast⟩, k, 0)
def getD (D : Dc) (i : Int) : Int × Bool := if isD D i then (atL D.l i.toNat, true) else (0, false)
def setD (D : Dc) (i : Int) (v : Int) : Dc := if isD D i then ⟨D.l.set i.toNat v, D.on, D.free⟩ else D
def dropD (D : Dc) (i : Int) : Dc := if isD D i then ⟨D.l, D.on.set i.toNat false, D.free ++ [i.toNat]⟩ else D
/-- The chain from a place on goes over these. -/
def Chain (l : List (Slot Int)) : Nat → List Nat → Prop
  | f, [] => f = 0
  | f, k :: ks => f = k + 1 ∧ k < l.length ∧ (slotA 0 l k).2.1 = false ∧ Chain l (slotA 0 l k).2.2 ks
theorem Chain.congr {l l' : List (Slot Int)} (hl : l.length ≤ l'.length) : ∀ {f : Nat} {ks : List Nat}, Chain l f ks → (∀ k ∈ ks, slotA 0 l' k = slotA 0 l k) → Chain l' f ks
  | _, [], h, _ => h
  | _, k :: ks, ⟨h1, h2, h3, h4⟩, he => ⟨h1, by omega, by rw [he k (by simp)]; exact h3, by rw [he k (by simp)]; exact h4.congr hl (fun j hj => he j (by simp [hj]))⟩
theorem Chain.off {l : List (Slot Int)} : ∀ {f : Nat} {ks : List Nat}, Chain l f ks → ∀ k ∈ ks, k < l.length ∧ (slotA 0 l k).2.1 = false
  | _, [], _, _, h => by cases h
  | _, k :: ks, ⟨_, h2, h3, h4⟩, j, hj => by
    rcases List.mem_cons.1 hj with rfl | hj
    · exact ⟨h2, h3⟩
    · exact h4.off j hj
/-- Both hold the same. -/
structure Lk (S : Ar Int) (D : Dc) : Prop where
  len : D.l.length = S.l.length
  lon : D.on.length = S.l.length
  n : S.n = (D.l.length : Int) - D.free.length
  on : ∀ k, k < S.l.length → (slotA 0 S.l k).2.1 = onD D k
  v : ∀ k, k < S.l.length → (slotA 0 S.l k).2.1 = true → (slotA 0 S.l k).1 = atL D.l k
  chain : Chain S.l S.free D.free.reverse
  nodup : D.free.Nodup
theorem Lk.nil : Lk ⟨[], 0, 0⟩ ⟨[], [], []⟩ := ⟨rfl, rfl, rfl, fun k h => by simp at h, fun k h => by simp at h, rfl, by simp⟩
theorem Lk.is {S : Ar Int} {D : Dc} (h : Lk S D) (i : Int) : isA 0 S.l i = isD D i := by
  unfold isA isD
  rw [h.len]
  by_cases a : 0 ≤ i
  · by_cases b : i < S.l.length
    · rw [h.on i.toNat (by omega)]
    · simp [b]
  · simp [a]
theorem Lk.get {S : Ar Int} {D : Dc} (h : Lk S D) (i : Int) : getA 0 S i = getD D i := by
  unfold getA getD
  rw [← h.is i]
  by_cases c : isA 0 S.l i = true
  · obtain ⟨a, b, e⟩ := isA_iff.1 c
    rw [if_pos c, if_pos c, h.v i.toNat (by omega) e]
  · rw [if_neg c, if_neg c]
theorem onD_set {D : Dc} {k j : Nat} {b : Bool} (h : k < D.on.length) (l : List Int) (f : List Nat) : onD ⟨l, D.on.set k b, f⟩ j = if j = k then b else onD D j := by
  unfold onD
  by_cases e : j = k
  · subst e; simp [h]
  · rw [if_neg e]; simp only; rw [List.getElem?_set_ne (by omega)]
theorem atL_set {l : List Int} {k j : Nat} {b : Int} (h : k < l.length) : atL (l.set k b) j = if j = k then b else atL l j := by
  unfold atL
  by_cases e : j = k
  · subst e; simp [h]
  · rw [if_neg e, List.getElem?_set_ne (by omega)]
theorem Lk.set {S : Ar Int} {D : Dc} (h : Lk S D) (i v : Int) : Lk (setA 0 S i v) (setD D i v) := by
  unfold setA setD
  rw [← h.is i]
  by_cases c : isA 0 S.l i = true
  · obtain ⟨a, b, e⟩ := isA_iff.1 c
    rw [if_pos c, if_pos c]
    obtain ⟨k, rfl⟩ := Int.eq_ofNat_of_zero_le a
    simp only [Int.toNat_natCast] at e ⊢
    have hk : k < S.l.length := by omega
    refine ⟨by simpa using h.len, by simpa using h.lon, by simpa using h.n, fun j hj => ?_, fun j hj => ?_, ?_, h.nodup⟩
    · rw [slot_set hk]
      by_cases q : j = k
      · subst q; rw [if_pos rfl]; show true = onD D j; rw [← h.on j hk, e]
      · rw [if_neg q]; exact h.on j (by simpa using hj)
    · rw [slot_set hk, atL_set (by rw [h.len]; exact hk)]
      by_cases q : j = k
      · rw [if_pos q, if_pos q]; intro _; rfl
      · rw [if_neg q, if_neg q]; exact h.v j (by simpa using hj)
    · refine h.chain.congr (by simp) (fun j hj => ?_)
      rw [slot_set hk, if_neg]
      rintro rfl
      have := (h.chain.off j hj).2
      rw [e] at this; cases this
  · rw [if_neg c, if_neg c]; exact h
theorem Lk.drop {S : Ar Int} {D : Dc} (h : Lk S D) (i : Int) : Lk (dropA 0 S i) (dropD D i) := by
  unfold dropA dropD
  rw [← h.is i]
  by_cases c : isA 0 S.l i = true
  · obtain ⟨a, b, e⟩ := isA_iff.1 c
    rw [if_pos c, if_pos c]
    obtain ⟨k, rfl⟩ := Int.eq_ofNat_of_zero_le a
    simp only [Int.toNat_natCast] at e ⊢
    have hk : k < S.l.length := by omega
    have hnot : ∀ j ∈ D.free.reverse, j ≠ k := by
      rintro j hj rfl
      have := (h.chain.off j hj).2
      rw [e] at this; cases this
    refine ⟨by simpa using h.len, by simpa using h.lon, by have := h.n; simp; omega, fun j hj => ?_, fun j hj => ?_, ?_, ?_⟩
    · rw [slot_set hk, onD_set (by rw [h.lon]; exact hk)]
      by_cases q : j = k
      · rw [if_pos q, if_pos q]
      · rw [if_neg q, if_neg q]; exact h.on j (by simpa using hj)
    · rw [slot_set hk]
      by_cases q : j = k
      · rw [if_pos q]; intro q2; cases q2
      · rw [if_neg q]; exact h.v j (by simpa using hj)
    · simp only [List.reverse_append, List.reverse_cons, List.reverse_nil, List.nil_append, List.cons_append]
      refine ⟨rfl, by simpa using hk, by rw [slot_set hk, if_pos rfl], ?_⟩
      rw [slot_set hk, if_pos rfl]
      refine h.chain.congr (by simp) (fun j hj => ?_)
      rw [slot_set hk, if_neg (hnot j hj)]
    · rw [List.nodup_append]
      refine ⟨h.nodup, by simp, fun x hx y hy => ?_⟩
      simp at hy
      subst hy
      exact hnot x (by simpa using hx)
  · rw [if_neg c, if_neg c]; exact h
theorem Lk.put {S : Ar Int} {D : Dc} (h : Lk S D) (most v : Int) : Lk (putA 0 most S v).1 (putD most D v).1 ∧ (putA 0 most S v).2 = (putD most D v).2 := by
  unfold putA putD
  rw [← h.n]
  by_cases c : most ≤ S.n
  · rw [if_pos c, if_pos c]; exact ⟨h, rfl⟩
  · rw [if_neg c, if_neg c]
    have hch := h.chain
    rcases List.eq_nil_or_concat D.free with hf | ⟨fr, k, hf⟩
    · rw [hf] at hch
      have h0 : S.free = 0 := hch
      rw [if_pos h0, hf]
      show Lk ⟨S.l ++ [(v, true, 0)], 0, S.n + 1⟩ ⟨D.l ++ [v], D.on ++ [true], []⟩ ∧ (S.l.length, 0) = (D.l.length, 0)
      refine ⟨⟨by simp [h.len], by simp [h.lon], by have := h.n; rw [hf] at this; simp at this; simp; omega, fun j hj => ?_, fun j hj => ?_, rfl, by simp⟩, by simp [h.len]⟩
      · simp at hj
        rw [slot_snoc]
        unfold onD
        simp only
        by_cases q : j = S.l.length
        · rw [if_pos q, q, ← h.lon]; simp
        · rw [if_neg q, List.getElem?_append_left (by rw [h.lon]; omega)]; exact h.on j (by omega)
      · simp at hj
        rw [slot_snoc]
        unfold atL
        simp only
        by_cases q : j = S.l.length
        · rw [if_pos q, q, ← h.len]; simp
        · rw [if_neg q, List.getElem?_append_left (by rw [h.len]; omega)]; exact h.v j (by omega)
    · rw [List.concat_eq_append] at hf
      rw [hf] at hch
      simp only [List.reverse_append, List.reverse_cons, List.reverse_nil, List.nil_append, List.cons_append] at hch
      obtain ⟨h1, hk, h3, h4⟩ := hch
      have hn := h.n
      have hnd := h.nodup
      rw [hf] at hn hnd
      rw [List.nodup_append] at hnd
      obtain ⟨hnd1, _, hnd2⟩ := hnd
      rw [if_neg (by omega), hf, h1]
      simp only [List.getLast?_append, List.getLast?_singleton, Option.some_or, List.dropLast_concat, Nat.add_sub_cancel]
      refine ⟨⟨by simpa using h.len, by simpa using h.lon, by simp at hn; simp; omega, fun j hj => ?_, fun j hj => ?_, ?_, hnd1⟩, by simp⟩
      · rw [slot_set hk, onD_set (by rw [h.lon]; exact hk)]
        by_cases q : j = k
        · rw [if_pos q, if_pos q]
        · rw [if_neg q, if_neg q]; exact h.on j (by simpa using hj)
      · rw [slot_set hk, atL_set (by rw [h.len]; exact hk)]
        by_cases q : j = k
        · rw [if_pos q, if_pos q]; intro _; rfl
        · rw [if_neg q, if_neg q]; exact h.v j (by simpa using hj)
      · refine h4.congr (by simp) (fun j hj => ?_)
        rw [slot_set hk, if_neg]
        rintro rfl
        exact hnd2 j (by simpa using hj) j (by simp) rfl
end Go.Proofs.Ytgaenonggnkknaa
