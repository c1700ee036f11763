/-
  Layer 04 (heaps), at this dump: heaps of ints: in memory, and what their functions do. No condition.
-/
import Derived.Test.YtjhjkchcjpijaaaHeapS
import Derived.Test.YtjhjkchcjpijaaaMapE
import Derived.Test.YtjhjkchcjpijaaaCmpU
import Derived.Test.YtjhjkchcjpijaaaRegFrom
import Derived.Test.YtjhjkchcjpijaaaRowPut
import Derived.Test.YtjhjkchcjpijaaaPushB
import Derived.BigRegion
import Derived.Deep.RegionHeld3
namespace Go.Proofs.Ytjhjkchcjpijaaa.HpI
open Go Go.RowKit Go.Proofs.Ytjhjkchcjpijaaa
abbrev A := Int
abbrev val (x : A) : Value := .int .i64 x
abbrev itV (x : Hp.It A) : List Value := [.int .u64 x.v, .int .i64 x.id, val x.x]
theorem itV_length (x : Hp.It A) : (itV x).length = 3 := rfl
abbrev tH : TypeId := 65
abbrev tI : TypeId := 68
/-- Where an id stands. -/
def idx (l : List (Hp.It A)) (x : Int) : Option Int := (l.findIdx? (fun y => y.id == x)).map fun k => (k : Int)
structure HAt (B : Nat) (w : World) (b mb : Nat) (most : Int) (l : List (Hp.It A)) : Prop where
  big : B ≤ b
  mbig : B ≤ mb
  ex : ∃ a c, Rec w b tH #[.int .i64 most, .slice a l.length c, .map (some mb)] ∧ w.ownsRow B tI 3 (.slice a l.length c) l.length (tab itV l)
  mp : MapI Try.prog 3 w mb (idx l) l.length
section
variable {B : Nat} {w w' : World} {b mb : Nat} {most : Int} {l : List (Hp.It A)}
theorem HAt.far (h : HAt B w b mb most l) (hb : Below w.heap.size w w') : HAt B w' b mb most l := by
  obtain ⟨a, c, h1, h2⟩ := h.ex
  exact ⟨h.big, h.mbig, ⟨a, c, h1.below hb (Nat.le_refl _), own_below h2 hb (Nat.le_refl _)⟩, h.mp.below hb h.mp.lt⟩
theorem HAt.past (h : HAt B w b mb most l) (x : Past) : HAt B (w.past x) b mb most l := h.far (w.below_past x)
theorem HAt.lt (h : HAt B w b mb most l) : b < w.heap.size := by
  obtain ⟨a, c, h1, _⟩ := h.ex
  exact Rec.lt h1
theorem HAt.cells (h : HAt B w b mb most l) : ∃ a c, w.cell? ⟨b, 0, none⟩ = some (.int .i64 most) ∧ w.cell? ⟨b, 1, none⟩ = some (.slice a l.length c) ∧ w.cell? ⟨b, 2, none⟩ = some (.map (some mb)) ∧
    ∀ k (hk : k < l.length), ∃ g, a = some ⟨g, 0, none⟩ ∧ w.cell? ⟨g, k * 3, none⟩ = some (.int .u64 l[k].v) ∧ w.cell? ⟨g, k * 3 + 1, none⟩ = some (.int .i64 l[k].id) ∧ w.cell? ⟨g, k * 3 + 2, none⟩ = some (val l[k].x) := by
  obtain ⟨a, c, h1, h2⟩ := h.ex
  refine ⟨a, c, by rw [Rec.cell h1 0]; rfl, by rw [Rec.cell h1 1]; rfl, by rw [Rec.cell h1 2]; rfl, fun k hk => ?_⟩
  obtain ⟨g, cap, eA, _⟩ := own_succ h2 (by omega)
  cases eA
  exact ⟨g, rfl, own_cell (j := 0) itV_length h2 (List.getElem?_eq_getElem hk) (by omega), own_cell (j := 1) itV_length h2 (List.getElem?_eq_getElem hk) (by omega), own_cell (j := 2) itV_length h2 (List.getElem?_eq_getElem hk) (by omega)⟩
theorem less_eq (x y : Hp.It A) : decide (orI (cmpI x.v y.v) (cmpI x.id y.id) < 0) = decide (Hp.lt x y) := by
  rw [Bool.eq_iff_iff, decide_eq_true_iff, decide_eq_true_iff]
  unfold orI cmpI Hp.lt
  split <;> split <;> (try split) <;> (try split) <;> omega
set_option maxRecDepth 100000 in
set_option maxHeartbeats 4000000 in
theorem less_any (h : HAt B w b mb most l) (i k : Nat) (hi : i < l.length) (hk : k < l.length) : Calls Try.prog 45 #[.pointer (some ⟨b, 0, none⟩), .int .i64 i, .int .i64 k] w (Gives (.bool (decide (Hp.lt l[i] l[k]))) w) := by
  obtain ⟨a, c, q0, q1, q2, qs⟩ := h.cells
  obtain ⟨g, rfl, i0, i1, i2⟩ := qs i hi
  obtain ⟨g', eg, k0, k1, k2⟩ := qs k hk
  cases eg
  have HE := hid (less_eq l[i] l[k])
  obtain ⟨x, ex⟩ : ∃ x, l[i] = x := ⟨_, rfl⟩
  obtain ⟨y, ey⟩ : ∃ y, l[k] = y := ⟨_, rfl⟩
  rw [ex] at i0 i1 i2 HE ⊢
  rw [ey] at k0 k1 k2 HE ⊢
  obtain ⟨n, en⟩ : ∃ n, l.length = n := ⟨_, rfl⟩
  rw [en] at q1 hi hk
  have hlt := h.lt
  have hglt : g < w.heap.size := World.block_lt_of_cell? w _ i0
  clear h qs ex ey en
  go_enter Try.func45, Try.ntmps45
  go_wp2
  go_region
  · obtain ⟨W8, eW8⟩ : ∃ W8, W8 = ((w.alloc (.cells #[.int .u64 x.v, .int .i64 x.id] 47)).alloc (.cells #[.int .u64 y.v, .int .i64 y.id] 47)).drew := ⟨_, rfl⟩
    have p0 : W8.cell? ⟨w.heap.size, 0, none⟩ = some (.int .u64 x.v) := by rw [eW8]; simp [go_sem]
    have p1 : W8.cell? ⟨w.heap.size, 1, none⟩ = some (.int .i64 x.id) := by rw [eW8]; simp [go_sem]
    have r0 : W8.cell? ⟨w.heap.size + 1, 0, none⟩ = some (.int .u64 y.v) := by rw [eW8]; simp [go_sem]
    have r1 : W8.cell? ⟨w.heap.size + 1, 1, none⟩ = some (.int .i64 y.id) := by rw [eW8]; simp [go_sem]
    have HB := hid (show Below w.heap.size w W8 by rw [eW8]; exact (((Below.refl _ w).alloc (Nat.le_refl _) _).alloc (by simp) _).drew)
    have z1 : w.heap.size < W8.heap.size := by rw [eW8]; simp; omega
    have z2 : w.heap.size + 1 < W8.heap.size := by rw [eW8]; simp
    rw [← eW8]
    clear eW8 i0 i1 i2 k0 k1 k2 q0 q1 q2 hlt hglt
    go_wp2_with fail
    go_region_held3 (fun w' => w'.cell? ⟨w.heap.size, 0, none⟩ = some (.int .u64 x.v) ∧ w'.cell? ⟨w.heap.size, 1, none⟩ = some (.int .i64 x.id) ∧ w'.cell? ⟨w.heap.size + 1, 0, none⟩ = some (.int .u64 y.v) ∧ w'.cell? ⟨w.heap.size + 1, 1, none⟩ = some (.int .i64 y.id)) (simp [go_sem, *]) (first | (go_at_call 50; refine (compareU_any _ _ _).mono ?_; rintro _ w9 ⟨rfl, h9⟩; rw [h9]; clear h9 w9) | (go_at_call 51; refine (compare_any _ _ _).mono ?_; rintro _ w9 ⟨rfl, h9⟩; rw [h9]; clear h9 w9) | (go_at_call 49; refine (or_any _ (cmpI x.v y.v) (cmpI x.id y.id) _ (by simp [go_sem]) (by simp [go_sem])).mono ?_; rintro _ w9 ⟨rfl, h9⟩; rw [h9]; clear h9 w9))
    go_wp2_with fail
    go_ret
    refine Gives.mk (by rw [← HE.out]; rfl) ?_
    exact (HB.out.drew.alloc (by have := HB.out.size; simpa using this) _)
  · obtain ⟨W8, eW8⟩ : ∃ W8, W8 = ((w.alloc (.cells #[.int .u64 y.v, .int .i64 y.id] 47)).alloc (.cells #[.int .u64 x.v, .int .i64 x.id] 47)).drew := ⟨_, rfl⟩
    have p0 : W8.cell? ⟨w.heap.size + 1, 0, none⟩ = some (.int .u64 x.v) := by rw [eW8]; simp [go_sem]
    have p1 : W8.cell? ⟨w.heap.size + 1, 1, none⟩ = some (.int .i64 x.id) := by rw [eW8]; simp [go_sem]
    have r0 : W8.cell? ⟨w.heap.size, 0, none⟩ = some (.int .u64 y.v) := by rw [eW8]; simp [go_sem]
    have r1 : W8.cell? ⟨w.heap.size, 1, none⟩ = some (.int .i64 y.id) := by rw [eW8]; simp [go_sem]
    have HB := hid (show Below w.heap.size w W8 by rw [eW8]; exact (((Below.refl _ w).alloc (Nat.le_refl _) _).alloc (by simp) _).drew)
    have z1 : w.heap.size < W8.heap.size := by rw [eW8]; simp; omega
    have z2 : w.heap.size + 1 < W8.heap.size := by rw [eW8]; simp
    rw [← eW8]
    clear eW8 i0 i1 i2 k0 k1 k2 q0 q1 q2 hlt hglt
    go_wp2_with fail
    go_region_held3 (fun w' => w'.cell? ⟨w.heap.size + 1, 0, none⟩ = some (.int .u64 x.v) ∧ w'.cell? ⟨w.heap.size + 1, 1, none⟩ = some (.int .i64 x.id) ∧ w'.cell? ⟨w.heap.size, 0, none⟩ = some (.int .u64 y.v) ∧ w'.cell? ⟨w.heap.size, 1, none⟩ = some (.int .i64 y.id)) (simp [go_sem, *]) (first | (go_at_call 50; refine (compareU_any _ _ _).mono ?_; rintro _ w9 ⟨rfl, h9⟩; rw [h9]; clear h9 w9) | (go_at_call 51; refine (compare_any _ _ _).mono ?_; rintro _ w9 ⟨rfl, h9⟩; rw [h9]; clear h9 w9) | (go_at_call 49; refine (or_any _ (cmpI x.v y.v) (cmpI x.id y.id) _ (by simp [go_sem]) (by simp [go_sem])).mono ?_; rintro _ w9 ⟨rfl, h9⟩; rw [h9]; clear h9 w9))
    go_wp2_with fail
    go_ret
    refine Gives.mk (by rw [← HE.out]; rfl) ?_
    exact (HB.out.drew.alloc (by have := HB.out.size; simpa using this) _)
end

end Go.Proofs.Ytjhjkchcjpijaaa.HpI
