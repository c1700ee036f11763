/-
  Layer 18: the document's ledger in memory, and what its functions do. No condition.
-/
import Derived.Test.YtookaodcdglhfaaDoorLedB
import Derived.Deep.RegionWith
import Derived.Deep.CutRange
import Derived.Deep.Cut
namespace Go.Proofs.YtookaodcdglhfaaDoor
open Go.RowKit
/-- The document's parties: with what is active. -/
abbrev Pq := Pt × Bool
abbrev qV (x : Pq) : List Value := [.int .i64 x.1.w, .int .u64 x.1.v, .int .i64 x.1.h, .bool x.2]
theorem qV_length (x : Pq) : (qV x).length = 4 := rfl
def ql (l : List Pt) (has : Nat → Bool) : List Pq := l.mapIdx fun i x => (x, has i)
theorem ql_length (l : List Pt) (has : Nat → Bool) : (ql l has).length = l.length := by simp [ql]
theorem ql_at {l : List Pt} {has : Nat → Bool} {k : Nat} (h : k < l.length) : (ql l has)[k]? = some (pt l k, has k) := by
  unfold ql; rw [List.getElem?_mapIdx, pt_at h]; rfl
theorem ql_set {l : List Pt} {has : Nat → Bool} {k : Nat} (y : Pt) (b : Bool) : (ql l has).set k (y, b) = ql (l.set k y) (fun i => if i = k then b else has i) := by
  apply List.ext_getElem?
  intro j
  unfold ql
  rw [List.getElem?_mapIdx]
  by_cases hj : j = k
  · subst hj
    by_cases hl : j < l.length
    · rw [List.getElem?_set_self (by simpa using hl), List.getElem?_set_self hl]; simp
    · rw [List.getElem?_eq_none (by simp; omega), List.getElem?_eq_none (by simp; omega)]; rfl
  · rw [List.getElem?_set_ne (fun e => hj e.symm), List.getElem?_set_ne (fun e => hj e.symm), List.getElem?_mapIdx]; simp only [if_neg hj]
theorem ql_ext {l : List Pt} {h1 h2 : Nat → Bool} (h : ∀ i, i < l.length → h1 i = h2 i) : ql l h1 = ql l h2 := by
  unfold ql
  apply List.ext_getElem?
  intro j
  rw [List.getElem?_mapIdx, List.getElem?_mapIdx]
  by_cases hl : j < l.length
  · rw [h j hl]
  · rw [List.getElem?_eq_none (by omega)]; rfl
abbrev tR : TypeId := 43
abbrev tQ : TypeId := 46
structure RfAt (B : Nat) (w : World) (b : Nat) (l : List Pt) (sl cr fl : Int) (has : Nat → Bool) : Prop where
  big : B ≤ b
  ex : ∃ A c, Rec w b tR #[.slice A l.length c, .int .i64 sl, .int .i64 cr, .int .u64 fl] ∧ w.ownsRow B tQ 4 (.slice A l.length c) l.length (tab qV (ql l has))
section
variable {B : Nat} {w w' : World} {b : Nat} {l : List Pt} {sl cr fl : Int} {has : Nat → Bool}
theorem RfAt.far (h : RfAt B w b l sl cr fl has) (hb : Below w.heap.size w w') : RfAt B w' b l sl cr fl has := by
  obtain ⟨A, c, h1, h2⟩ := h.ex
  exact ⟨h.big, A, c, h1.below hb (Nat.le_refl _), own_below h2 hb (Nat.le_refl _)⟩
theorem RfAt.past (h : RfAt B w b l sl cr fl has) (x : Past) : RfAt B (w.past x) b l sl cr fl has := h.far (w.below_past x)
theorem RfAt.lt (h : RfAt B w b l sl cr fl has) : b < w.heap.size := by
  obtain ⟨A, c, h1, h2⟩ := h.ex
  exact Rec.lt h1
theorem RfAt.rest (h : RfAt B w b l sl cr fl has) : w.cell? ⟨b, 1, none⟩ = some (.int .i64 sl) ∧ w.cell? ⟨b, 2, none⟩ = some (.int .i64 cr) ∧ w.cell? ⟨b, 3, none⟩ = some (.int .u64 fl) := by
  obtain ⟨A, c, h1, h2⟩ := h.ex
  exact ⟨by rw [Rec.cell h1 1]; rfl, by rw [Rec.cell h1 2]; rfl, by rw [Rec.cell h1 3]; rfl⟩
theorem RfAt.len (h : RfAt B w b l sl cr fl has) : ∃ A c, w.cell? ⟨b, 0, none⟩ = some (.slice A l.length c) := by
  obtain ⟨A, c, h1, h2⟩ := h.ex
  exact ⟨A, c, by rw [Rec.cell h1 0]; rfl⟩
/-- The cells of a party. -/
theorem RfAt.party (h : RfAt B w b l sl cr fl has) {k : Nat} (hk : k < l.length) : ∃ g cap, w.cell? ⟨b, 0, none⟩ = some (.slice (some ⟨g, 0, none⟩) l.length cap) ∧ w.cell? ⟨g, k * 4, none⟩ = some (.int .i64 (pt l k).w) ∧ w.cell? ⟨g, k * 4 + 1, none⟩ = some (.int .u64 (pt l k).v) ∧ w.cell? ⟨g, k * 4 + 2, none⟩ = some (.int .i64 (pt l k).h) ∧ w.cell? ⟨g, k * 4 + 3, none⟩ = some (.bool (has k)) := by
  obtain ⟨A, c, h1, h2⟩ := h.ex
  obtain ⟨g, cap, eA, _⟩ := own_succ h2 (by omega)
  cases eA
  have q0 := Rec.cell h1 0
  simp at q0
  have h2' := h2
  rw [← ql_length l has] at h2'
  refine ⟨g, _, q0, ?_, ?_, ?_, ?_⟩
  · have := own_cell (j := 0) qV_length h2' (ql_at hk) (by omega); exact this
  · have := own_cell (j := 1) qV_length h2' (ql_at hk) (by omega); exact this
  · have := own_cell (j := 2) qV_length h2' (ql_at hk) (by omega); exact this
  · have := own_cell (j := 3) qV_length h2' (ql_at hk) (by omega); exact this
theorem RfAt.pty (h : RfAt B w b l sl cr fl has) {g n cap k : Nat} (hq : w.cell? ⟨b, 0, none⟩ = some (.slice (some ⟨g, 0, none⟩) n cap)) (hk : k < l.length) : w.cell? ⟨g, k * 4, none⟩ = some (.int .i64 (pt l k).w) ∧ w.cell? ⟨g, k * 4 + 1, none⟩ = some (.int .u64 (pt l k).v) ∧ w.cell? ⟨g, k * 4 + 2, none⟩ = some (.int .i64 (pt l k).h) ∧ w.cell? ⟨g, k * 4 + 3, none⟩ = some (.bool (has k)) := by
  obtain ⟨g2, cap2, r0, r1⟩ := h.party hk
  rw [hq] at r0
  simp only [Option.some.injEq, Value.slice.injEq, Addr.mk.injEq] at r0
  obtain ⟨⟨rfl, _⟩, _⟩ := r0
  exact r1
theorem RfAt.soft (h : RfAt B w b l sl cr fl has) {g n cap : Nat} (hq : w.cell? ⟨b, 0, none⟩ = some (.slice (some ⟨g, 0, none⟩) n cap)) : (∀ j, w.frozen? ⟨g, j, none⟩ = false) ∧ B ≤ g ∧ g < w.heap.size ∧ b ≠ g := by
  obtain ⟨A, c, h1, h2⟩ := h.ex
  have q0 := Rec.cell h1 0
  rw [hq] at q0
  simp at q0
  obtain ⟨rfl, rfl, rfl⟩ := q0
  exact ⟨fun j => h2.frozenAt j, (h2.lt g rfl).1, (h2.lt g rfl).2, fun e => own_not_rec h2 h1 (by decide) (by rw [e]; rfl)⟩
/-- One cell of a party turns. -/
theorem RfAt.put (h : RfAt B w b l sl cr fl has) {g n cap k j : Nat} {y : Pt} {c : Bool} {u : Value} (hq : w.cell? ⟨b, 0, none⟩ = some (.slice (some ⟨g, 0, none⟩) n cap)) (hk : k < l.length) (hj : j < 4) (hy : qV (y, c) = (qV (pt l k, has k)).set j u) :
    RfAt B (w.setCell ⟨g, k * 4 + j, none⟩ u) b (l.set k y) sl cr fl (fun i => if i = k then c else has i) ∧ Below B w (w.setCell ⟨g, k * 4 + j, none⟩ u) ∧ KeptT b (fun t => t = tQ) w (w.setCell ⟨g, k * 4 + j, none⟩ u) ∧ (w.setCell ⟨g, k * 4 + j, none⟩ u).cell? ⟨b, 0, none⟩ = some (.slice (some ⟨g, 0, none⟩) n cap) := by
  have hne := (h.soft hq).2.2.2
  obtain ⟨A, cc, h1, h2⟩ := h.ex
  have q0 := Rec.cell h1 0
  rw [hq] at q0
  simp at q0
  obtain ⟨rfl, rfl, rfl⟩ := q0
  have h2' := h2
  rw [← ql_length l has] at h2'
  obtain ⟨r1, r2, r3, r4⟩ := own_put1 (y := (y, c)) qV_length (by omega) h1 (by decide) h2' (ql_at hk) hj hy
  rw [ql_set] at r2
  rw [ql_length, List.length_set] at r2
  refine ⟨⟨h.big, _, _, by rw [List.length_set]; exact r1, by rw [List.length_set]; exact r2⟩, r3, r4, ?_⟩
  have hne2 : (⟨g, k * 4 + j, none⟩ : Addr) ≠ ⟨b, 0, none⟩ := by intro e; injection e with e; exact hne e.symm
  exact (World.cell?_setCell_other _ _ _ _ hne2).trans hq
theorem RfAt.same (h : RfAt B w b l sl cr fl has) {h2 : Nat → Bool} (he : ∀ i, i < l.length → has i = h2 i) : RfAt B w b l sl cr fl h2 := by
  obtain ⟨A, c, r1, r2⟩ := h.ex
  exact ⟨h.big, A, c, r1, by rw [← ql_ext he]; exact r2⟩
theorem if_self_has (has : Nat → Bool) (k : Nat) : (fun i => if i = k then has k else has i) = has := by
  funext i; split
  · rename_i e; rw [e]
  · rfl
theorem RIs_any (h : RfAt B w b l sl cr fl has) (p : Int) : Calls Tryd.prog 24 #[.pointer (some ⟨b, 0, none⟩), .int .i64 p] w (Gives (.bool (isP l p)) w) := by
  obtain ⟨A, c, q0⟩ := h.len
  obtain ⟨n, en⟩ : ∃ n, l.length = n := ⟨_, rfl⟩
  have HE := hid (show isP l p = (decide (0 ≤ p) && decide (p < (n : Int))) by unfold isP; rw [en])
  rw [en] at q0
  clear h en
  rcases dec_cases (0 ≤ p) with g1 | g1 <;> rcases dec_cases (p < (n : Int)) with g2 | g2
  all_goals
    rw [g1, g2] at HE
    go_enter Tryd.func24, Tryd.ntmps24
    go_wp2
    go_ret
    exact Gives.refl (by rw [HE.out]; simp_all)
/-- What a function that turns the document's ledger leaves. -/
def RfP (B b : Nat) (l : List Pt) (sl cr fl : Int) (has : Nat → Bool) (r : Value) (w : World) (e : Ending) (w' : World) : Prop := e = .returned r ∧ RfAt B w' b l sl cr fl has ∧ Below B w w' ∧ KeptT b (fun t => t = tQ) w w'
end
end Go.Proofs.YtookaodcdglhfaaDoor
