/-
  Layer 04 (heaps), at this dump: heaps of pointers to ints: up and down. No condition.
-/
import Derived.Test.YtolhbcgmlaodbaaHeapS
import Derived.Test.YtolhbcgmlaodbaaMapE
import Derived.Test.YtolhbcgmlaodbaaCmpU
import Derived.Test.YtolhbcgmlaodbaaRegFrom
import Derived.Test.YtolhbcgmlaodbaaAppB
import Derived.BigRegion
import Derived.Deep.RegionHeld3
namespace Go.Proofs.Ytolhbcgmlaodbaa.HpI
open Go Go.RowKit Go.Proofs.Ytolhbcgmlaodbaa
abbrev A := Nat
abbrev val (x : A) : Value := .pointer (some ⟨x, 0, none⟩)
abbrev itV (x : Hp.It A) : List Value := [.int .u64 x.v, .int .i64 x.id, val x.x]
theorem itV_length (x : Hp.It A) : (itV x).length = 3 := rfl
abbrev tH : TypeId := 64
abbrev tI : TypeId := 77
/-- Where an id stands. -/
def idx (l : List (Hp.It A)) (x : Int) : Option Int := (l.findIdx? (fun y => y.id == x)).map fun k => (k : Int)
structure HAt (B : Nat) (w : World) (b mb : Nat) (most : Int) (l : List (Hp.It A)) : Prop where
  big : B ≤ b
  mbig : B ≤ mb
  ex : ∃ a c, Rec w b tH #[.int .i64 most, .slice a l.length c, .map (some mb)] ∧ w.ownsRow B tI 3 (.slice a l.length c) l.length (tab itV l)
  mp : MapI Try.prog 3 w mb (idx l) l.length
section
variable {B : Nat} {w w' : World} {b mb : Nat} {most : Int} {l : List (Hp.It A)}
theorem HAt.far (h : HAt B w b mb most l) (hb : Below w.heap.size w w') : HAt B w' b mb most l := by
  obtain ⟨a, c, h1, h2⟩ := h.ex
  exact ⟨h.big, h.mbig, ⟨a, c, h1.below hb (Nat.le_refl _), own_below h2 hb (Nat.le_refl _)⟩, h.mp.below hb h.mp.lt⟩
theorem HAt.past (h : HAt B w b mb most l) (x : Past) : HAt B (w.past x) b mb most l := h.far (w.below_past x)
theorem HAt.lt (h : HAt B w b mb most l) : b < w.heap.size := by
  obtain ⟨a, c, h1, _⟩ := h.ex
  exact Rec.lt h1
theorem HAt.cells (h : HAt B w b mb most l) : ∃ a c, w.cell? ⟨b, 0, none⟩ = some (.int .i64 most) ∧ w.cell? ⟨b, 1, none⟩ = some (.slice a l.length c) ∧ w.cell? ⟨b, 2, none⟩ = some (.map (some mb)) ∧
    ∀ k (hk : k < l.length), ∃ g, a = some ⟨g, 0, none⟩ ∧ w.cell? ⟨g, k * 3, none⟩ = some (.int .u64 l[k].v) ∧ w.cell? ⟨g, k * 3 + 1, none⟩ = some (.int .i64 l[k].id) ∧ w.cell? ⟨g, k * 3 + 2, none⟩ = some (val l[k].x) := by
  obtain ⟨a, c, h1, h2⟩ := h.ex
  refine ⟨a, c, by rw [Rec.cell h1 0]; rfl, by rw [Rec.cell h1 1]; rfl, by rw [Rec.cell h1 2]; rfl, fun k hk => ?_⟩
  obtain ⟨g, cap, eA, _⟩ := own_succ h2 (by omega)
  cases eA
  exact ⟨g, rfl, own_cell (j := 0) itV_length h2 (List.getElem?_eq_getElem hk) (by omega), own_cell (j := 1) itV_length h2 (List.getElem?_eq_getElem hk) (by omega), own_cell (j := 2) itV_length h2 (List.getElem?_eq_getElem hk) (by omega)⟩
theorem less_eq (x y : Hp.It A) : decide (orI (cmpI x.v y.v) (cmpI x.id y.id) < 0) = decide (Hp.lt x y) := by
  rw [Bool.eq_iff_iff, decide_eq_true_iff, decide_eq_true_iff]
  unfold orI cmpI Hp.lt
  split <;> split <;> (try split) <;> (try split) <;> omega
set_option maxRecDepth 100000 in
set_option maxHeartbeats 4000000 in
theorem less_any (h : HAt B w b mb most l) (i k : Nat) (hi : i < l.length) (hk : k < l.length) : Calls Try.prog 40 #[.pointer (some ⟨b, 0, none⟩), .int .i64 i, .int .i64 k] w (Gives (.bool (decide (Hp.lt l[i] l[k]))) w) := by
  obtain ⟨a, c, q0, q1, q2, qs⟩ := h.cells
  obtain ⟨g, rfl, i0, i1, i2⟩ := qs i hi
  obtain ⟨g', eg, k0, k1, k2⟩ := qs k hk
  cases eg
  have HE := hid (less_eq l[i] l[k])
  obtain ⟨x, ex⟩ : ∃ x, l[i] = x := ⟨_, rfl⟩
  obtain ⟨y, ey⟩ : ∃ y, l[k] = y := ⟨_, rfl⟩
  rw [ex] at i0 i1 i2 HE ⊢
  rw [ey] at k0 k1 k2 HE ⊢
  obtain ⟨n, en⟩ : ∃ n, l.length = n := ⟨_, rfl⟩
  rw [en] at q1 hi hk
  have hlt := h.lt
  have hglt : g < w.heap.size := World.block_lt_of_cell? w _ i0
  clear h qs ex ey en
  go_enter Try.func40, Try.ntmps40
  go_wp2
  go_region
  · obtain ⟨W8, eW8⟩ : ∃ W8, W8 = ((w.alloc (.cells #[.int .u64 x.v, .int .i64 x.id] 71)).alloc (.cells #[.int .u64 y.v, .int .i64 y.id] 71)).drew := ⟨_, rfl⟩
    have p0 : W8.cell? ⟨w.heap.size, 0, none⟩ = some (.int .u64 x.v) := by rw [eW8]; simp [go_sem]
    have p1 : W8.cell? ⟨w.heap.size, 1, none⟩ = some (.int .i64 x.id) := by rw [eW8]; simp [go_sem]
    have r0 : W8.cell? ⟨w.heap.size + 1, 0, none⟩ = some (.int .u64 y.v) := by rw [eW8]; simp [go_sem]
    have r1 : W8.cell? ⟨w.heap.size + 1, 1, none⟩ = some (.int .i64 y.id) := by rw [eW8]; simp [go_sem]
    have HB := hid (show Below w.heap.size w W8 by rw [eW8]; exact (((Below.refl _ w).alloc (Nat.le_refl _) _).alloc (by simp) _).drew)
    have z1 : w.heap.size < W8.heap.size := by rw [eW8]; simp; omega
    have z2 : w.heap.size + 1 < W8.heap.size := by rw [eW8]; simp
    rw [← eW8]
    clear eW8 i0 i1 i2 k0 k1 k2 q0 q1 q2 hlt hglt
    go_wp2_with fail
    go_region_held3 (fun w' => w'.cell? ⟨w.heap.size, 0, none⟩ = some (.int .u64 x.v) ∧ w'.cell? ⟨w.heap.size, 1, none⟩ = some (.int .i64 x.id) ∧ w'.cell? ⟨w.heap.size + 1, 0, none⟩ = some (.int .u64 y.v) ∧ w'.cell? ⟨w.heap.size + 1, 1, none⟩ = some (.int .i64 y.id)) (simp [go_sem, *]) (first | (go_at_call 44; refine (compareU_any _ _ _).mono ?_; rintro _ w9 ⟨rfl, h9⟩; rw [h9]; clear h9 w9) | (go_at_call 45; refine (compare_any _ _ _).mono ?_; rintro _ w9 ⟨rfl, h9⟩; rw [h9]; clear h9 w9) | (go_at_call 43; refine (or_any _ (cmpI x.v y.v) (cmpI x.id y.id) _ (by simp [go_sem]) (by simp [go_sem])).mono ?_; rintro _ w9 ⟨rfl, h9⟩; rw [h9]; clear h9 w9))
    go_wp2_with fail
    go_ret
    refine Gives.mk (by rw [← HE.out]; rfl) ?_
    exact (HB.out.drew.alloc (by have := HB.out.size; simpa using this) _)
  · obtain ⟨W8, eW8⟩ : ∃ W8, W8 = ((w.alloc (.cells #[.int .u64 y.v, .int .i64 y.id] 71)).alloc (.cells #[.int .u64 x.v, .int .i64 x.id] 71)).drew := ⟨_, rfl⟩
    have p0 : W8.cell? ⟨w.heap.size + 1, 0, none⟩ = some (.int .u64 x.v) := by rw [eW8]; simp [go_sem]
    have p1 : W8.cell? ⟨w.heap.size + 1, 1, none⟩ = some (.int .i64 x.id) := by rw [eW8]; simp [go_sem]
    have r0 : W8.cell? ⟨w.heap.size, 0, none⟩ = some (.int .u64 y.v) := by rw [eW8]; simp [go_sem]
    have r1 : W8.cell? ⟨w.heap.size, 1, none⟩ = some (.int .i64 y.id) := by rw [eW8]; simp [go_sem]
    have HB := hid (show Below w.heap.size w W8 by rw [eW8]; exact (((Below.refl _ w).alloc (Nat.le_refl _) _).alloc (by simp) _).drew)
    have z1 : w.heap.size < W8.heap.size := by rw [eW8]; simp; omega
    have z2 : w.heap.size + 1 < W8.heap.size := by rw [eW8]; simp
    rw [← eW8]
    clear eW8 i0 i1 i2 k0 k1 k2 q0 q1 q2 hlt hglt
    go_wp2_with fail
    go_region_held3 (fun w' => w'.cell? ⟨w.heap.size + 1, 0, none⟩ = some (.int .u64 x.v) ∧ w'.cell? ⟨w.heap.size + 1, 1, none⟩ = some (.int .i64 x.id) ∧ w'.cell? ⟨w.heap.size, 0, none⟩ = some (.int .u64 y.v) ∧ w'.cell? ⟨w.heap.size, 1, none⟩ = some (.int .i64 y.id)) (simp [go_sem, *]) (first | (go_at_call 44; refine (compareU_any _ _ _).mono ?_; rintro _ w9 ⟨rfl, h9⟩; rw [h9]; clear h9 w9) | (go_at_call 45; refine (compare_any _ _ _).mono ?_; rintro _ w9 ⟨rfl, h9⟩; rw [h9]; clear h9 w9) | (go_at_call 43; refine (or_any _ (cmpI x.v y.v) (cmpI x.id y.id) _ (by simp [go_sem]) (by simp [go_sem])).mono ?_; rintro _ w9 ⟨rfl, h9⟩; rw [h9]; clear h9 w9))
    go_wp2_with fail
    go_ret
    refine Gives.mk (by rw [← HE.out]; rfl) ?_
    exact (HB.out.drew.alloc (by have := HB.out.size; simpa using this) _)
end

end Go.Proofs.Ytolhbcgmlaodbaa.HpI
namespace Go.Proofs.Ytolhbcgmlaodbaa.HpI
open Go Go.RowKit Go.Proofs.Ytolhbcgmlaodbaa
/-- The row that the heap at b holds. -/
def rowOf (b : Nat) (w : World) (g : Nat) : Prop := ∃ n c, w.cell? ⟨b, 1, none⟩ = some (.slice (some ⟨g, 0, none⟩) n c)
/-- What the heap's functions may write to. -/
def hF (b mb : Nat) (w : World) (k : Nat) : Prop := k = b ∨ k = mb ∨ rowOf b w k
structure HKept (b mb : Nat) (w w' : World) : Prop where
  kept : Kept (hF b mb w) w w'
  row : ∀ g, rowOf b w' g → rowOf b w g
/-- The row may be a new one. -/
structure HGrew (b mb : Nat) (w w' : World) : Prop where
  kept : Kept (hF b mb w) w w'
  row : ∀ g, rowOf b w' g → rowOf b w g ∨ w.heap.size ≤ g
section
variable {B : Nat} {w w' : World} {b mb : Nat} {most : Int} {l : List (Hp.It A)}
theorem HKept.grew (h : HKept b mb w w') : HGrew b mb w w' := ⟨h.kept, fun g hg => .inl (h.row g hg)⟩
theorem HGrew.trans {w'' : World} (h : HGrew b mb w w') (k : HGrew b mb w' w'') : HGrew b mb w w'' :=
  ⟨Kept.trans' h.kept k.kept fun i hi hg => by
    rcases hg with hg | hg | hg
    · exact .inl hg
    · exact .inr (.inl hg)
    · rcases h.row i hg with h1 | h1
      · exact .inr (.inr h1)
      · omega, fun g hg => by
    rcases k.row g hg with h1 | h1
    · exact h.row g h1
    · exact .inr (Nat.le_trans h.kept.size h1)⟩
theorem HKept.refl (b mb : Nat) (w : World) : HKept b mb w w := ⟨Kept.refl _ _, fun _ h => h⟩
theorem HKept.trans {w'' : World} (h : HKept b mb w w') (k : HKept b mb w' w'') : HKept b mb w w'' :=
  ⟨Kept.trans' h.kept k.kept fun i hi hg => by
    rcases hg with hg | hg | hg
    · exact .inl hg
    · exact .inr (.inl hg)
    · exact .inr (.inr (h.row i hg)), fun g hg => h.row g (k.row g hg)⟩
theorem row_same (hb : w'.heap[b]? = w.heap[b]?) {g : Nat} (h : rowOf b w' g) : rowOf b w g := by
  obtain ⟨n, c, h⟩ := h
  refine ⟨n, c, ?_⟩
  unfold World.cell? at h ⊢
  rw [← hb]
  exact h
theorem HKept.of_below (hb : Below w.heap.size w w') (hlt : b < w.heap.size) : HKept b mb w w' :=
  ⟨Kept.of_below hb _, fun _ h => row_same (hb.block b hlt) h⟩
theorem own_not_map {v : Value} {n : Nat} {xs : List Value} {f : Int → Option Int} {c : Nat} (ho : w.ownsRow B tI 3 v n xs) (hm : MapI Try.prog 3 w mb f c) : some mb ≠ v.ownBlock := by
  obtain ⟨D, ⟨es, clock, hb, _⟩, _⟩ := hm
  rcases ho.2 with ⟨rfl, _⟩ | ⟨g, cap, cur, rfl, _, hg, _⟩
  · simp [Value.ownBlock]
  · intro h
    simp only [Value.ownBlock, Option.some.injEq] at h
    subst h
    rw [hg] at hb
    cases hb
theorem rec_not_map {t : TypeId} {cs : Array Value} {f : Int → Option Int} {c : Nat} (ho : Rec w b t cs) (hm : MapI Try.prog 3 w mb f c) : b ≠ mb := by
  obtain ⟨D, ⟨es, clock, hb, _⟩, _⟩ := hm
  rintro rfl
  have hb' : w.heap[b]? = some (.cells cs t (0, 0)) := ho
  rw [hb'] at hb
  cases hb
theorem HKept.row' {a : Option Addr} {n c : Nat} {m0 m1 : Value} {xs : List Value} (hR : Rec w b tH #[m0, .slice a n c, m1]) (h : w.ownsRow B tI 3 (.slice a n c) n xs) (hg : w.grownBy w' (Value.slice a n c).ownBlock) : HKept b mb w w' := by
  have hne : some b ≠ (Value.slice a n c).ownBlock := fun e => own_not_rec h hR (by decide) e.symm
  refine ⟨⟨hg.os, hg.tape, hg.output, hg.size, fun k hk hn => hg.block k hk (fun e => hn ?_)⟩, fun _ h => row_same (hg.block b hR.lt hne) h⟩
  rcases h.2 with ⟨e0, _⟩ | ⟨g, cap, cur, e0, _, hh, _⟩
  · rw [e0] at e; simp [Value.ownBlock] at e
  · rw [e0] at e
    simp only [Value.ownBlock, Option.some.injEq] at e
    subst e
    injection e0 with ea
    refine .inr (.inr ⟨n, c, ?_⟩)
    rw [Rec.cell hR 1, ← ea]
    rfl
theorem HKept.map (hg : w.grownBy w' (some mb)) (hlt : b < w.heap.size) (hne : b ≠ mb) : HKept b mb w w' :=
  ⟨⟨hg.os, hg.tape, hg.output, hg.size, fun k hk hn => hg.block k hk (fun e => hn (by injection e with e; exact .inr (.inl e)))⟩, fun _ h => row_same (hg.block b hlt (fun e => hne (by injection e))) h⟩
theorem nodup_at (hnd : (l.map (·.id)).Nodup) {i j : Nat} (hi : i < l.length) (hj : j < l.length) (e : l[i].id = l[j].id) : i = j := by
  have h := List.pairwise_iff_getElem.1 hnd
  rcases Nat.lt_trichotomy i j with h1 | h1 | h1
  · exact absurd (by rw [List.getElem_map, List.getElem_map]; exact e) (h i j (by simpa using hi) (by simpa using hj) h1)
  · exact h1
  · exact absurd (by rw [List.getElem_map, List.getElem_map]; exact e.symm) (h j i (by simpa using hj) (by simpa using hi) h1)
theorem idx_at (hnd : (l.map (·.id)).Nodup) {j : Nat} (hj : j < l.length) : idx l l[j].id = some (j : Int) := by
  unfold idx
  rw [(List.findIdx?_eq_some_iff_getElem).2 ⟨hj, by simp, fun q hq => by
    have : q < l.length := by omega
    simp only [beq_iff_eq]
    intro e
    have := nodup_at hnd this hj e
    omega⟩]
  rfl
theorem idx_none {z : Int} (h : ∀ x ∈ l, x.id ≠ z) : idx l z = none := by
  unfold idx
  rw [List.findIdx?_eq_none_iff.2 (fun x hx => by simpa using h x hx)]
  rfl
theorem swp_nodup (i k : Nat) (hi : i < l.length) (hk : k < l.length) (hnd : (l.map (·.id)).Nodup) : ((Hp.swp l i k hi hk).map (·.id)).Nodup :=
  (List.Perm.nodup_iff ((Hp.swp_perm l i k hi hk).map _)).2 hnd
theorem idx_swp (l : List (Hp.It A)) (i k : Nat) (hi : i < l.length) (hk : k < l.length) (hnd : (l.map (·.id)).Nodup) : ∀ z, upd (upd (idx l) l[k].id (some (i : Int))) l[i].id (some (k : Int)) z = idx (Hp.swp l i k hi hk) z := by
  intro z
  have hn' := swp_nodup i k hi hk hnd
  have hl := Hp.swp_length l i k hi hk
  by_cases hz : ∃ (j : Nat) (hj : j < l.length), l[j].id = z
  · obtain ⟨j, hj, rfl⟩ := hz
    unfold upd
    by_cases e1 : j = i
    · subst e1
      rw [if_pos rfl]
      have h1 := idx_at hn' (j := k) (by omega)
      rw [Hp.swp_get l j k hi hk k hk, if_pos rfl] at h1
      exact h1.symm
    · rw [if_neg (fun e => e1 (nodup_at hnd hj hi e))]
      by_cases e2 : j = k
      · subst e2
        rw [if_pos rfl]
        have h1 := idx_at hn' (j := i) (by omega)
        rw [Hp.swp_get l i j hi hk i hi, if_neg (fun e => e1 e.symm), if_pos rfl] at h1
        exact h1.symm
      · rw [if_neg (fun e => e2 (nodup_at hnd hj hk e)), idx_at hnd hj]
        have h1 := idx_at hn' (j := j) (by omega)
        rw [Hp.swp_get l i k hi hk j hj, if_neg e2, if_neg e1] at h1
        exact h1.symm
  · have hz' : ∀ x ∈ l, x.id ≠ z := fun x hx e => by
      obtain ⟨j, hj, ej⟩ := List.getElem_of_mem hx
      exact hz ⟨j, hj, by rw [ej]; exact e⟩
    unfold upd
    rw [if_neg (fun e => hz' _ (List.getElem_mem hi) e.symm), if_neg (fun e => hz' _ (List.getElem_mem hk) e.symm), idx_none hz', idx_none (fun x hx => hz' x ((Hp.swp_perm l i k hi hk).mem_iff.1 hx))]
set_option maxRecDepth 100000 in
set_option maxHeartbeats 4000000 in
theorem swap_any (h : HAt B w b mb most l) (hnd : (l.map (·.id)).Nodup) (hI : ∀ x ∈ l, I64 x.id) (hB : B ≤ w.heap.size) (hm : l.length < maxLen) (i k : Nat) (hi : i < l.length) (hk : k < l.length) :
    Calls Try.prog 41 #[.pointer (some ⟨b, 0, none⟩), .int .i64 i, .int .i64 k] w (fun e w' => e = .returned (.tuple #[]) ∧ HAt B w' b mb most (Hp.swp l i k hi hk) ∧ Below B w w' ∧ HKept b mb w w') := by
  have H0 := hid h
  obtain ⟨L, eL⟩ : ∃ L, Hp.swp l i k hi hk = L := ⟨_, rfl⟩
  have HL := hid (show ∃ (hi : i < l.length) (hk : k < l.length), Hp.swp l i k hi hk = L from ⟨hi, hk, eL⟩)
  rw [eL]
  obtain ⟨a, c, hrec, hown⟩ := h.ex
  obtain ⟨g, cap, eA, hg⟩ := own_succ hown (by omega)
  cases eA
  have HR := hid hrec
  have HO := hid hown
  have q0 := Rec.cell hrec 0
  have q1 := Rec.cell hrec 1
  have q2 := Rec.cell hrec 2
  simp at q0 q1 q2
  obtain ⟨x, ex⟩ : ∃ x, l[i] = x := ⟨_, rfl⟩
  obtain ⟨y, ey⟩ : ∃ y, l[k] = y := ⟨_, rfl⟩
  have i0 := own_cell (j := 0) itV_length hown (List.getElem?_eq_getElem hi) (by omega)
  have i1 := own_cell (j := 1) itV_length hown (List.getElem?_eq_getElem hi) (by omega)
  have i2 := own_cell (j := 2) itV_length hown (List.getElem?_eq_getElem hi) (by omega)
  have k0 := own_cell (j := 0) itV_length hown (List.getElem?_eq_getElem hk) (by omega)
  have k1 := own_cell (j := 1) itV_length hown (List.getElem?_eq_getElem hk) (by omega)
  have k2 := own_cell (j := 2) itV_length hown (List.getElem?_eq_getElem hk) (by omega)
  rw [ex] at i0 i1 i2
  rw [ey] at k0 k1 k2
  simp [itV] at i0 i1 i2 k0 k1 k2
  obtain ⟨n, en⟩ : ∃ n, l.length = n := ⟨_, rfl⟩
  have EN := hid en
  have hi' := hi
  have hk' := hk
  rw [en] at q1 hi' hk'
  have EX := hid (show ∃ (hi : i < l.length) (hk : k < l.length), l[i] = x ∧ l[k] = y from ⟨hi, hk, ex, ey⟩)
  have HN := hid hnd
  have HM := hid (And.intro hI hm)
  clear hrec hown h en ex ey eL hi hk hnd hI hm
  go_enter Try.func41, Try.ntmps41
  go_wp2_with fail
  refine wp_region_from (C := fun w' => ∃ x : Past, w' = w.past x) 24 4 [9] (by kernel_rfl) (by kernel_rfl) (by kernel_rfl) rfl (by kernel_rfl) (.inr fun _ _ d _ _ h => by cases d <;> exact h) (past_of ⟨rfl, rfl, rfl, Nat.le_refl _, fun _ _ => rfl⟩) ?_
  simp only [List.take_succ_cons, List.take_zero]
  repeat (go_big_quiet_step ((fail)))
  refine wpQuiet_nil ?_
  rintro _ ⟨xq, rfl⟩
  have hb1 := w.below_past xq
  have hrec := HR.out.below hb1 (Nat.le_refl _)
  have hown := own_below HO.out hb1 (Nat.le_refl _)
  have hmp := H0.out.mp.below hb1 H0.out.mp.lt
  obtain ⟨w1, ew1⟩ : ∃ w1, w1 = w.past xq := ⟨_, rfl⟩
  rw [← ew1] at hb1 hrec hown hmp ⊢
  have hs := own_there hown (o := i * 3) (m := 3) (by rw [EN.out]; omega)
  have hput1 := own_put itV_length (by omega) hown (k := i) (by rw [EN.out]; omega) y
  have hown1 := hput1.1
  rw [show l.length = (l.set i y).length by simp] at hown1
  have ht := own_there hown1 (o := k * 3) (m := 3) (by simp; rw [EN.out]; omega)
  have hput2 := own_put itV_length (by omega) hown1 (k := k) (by simp; rw [EN.out]; omega) x
  simp only [itV] at hput1 hput2 ht
  obtain ⟨w2, ew2⟩ : ∃ w2, w2 = w1.setCells g (i * 3) [.int .u64 y.v, .int .i64 y.id, val y.x] := ⟨_, rfl⟩
  obtain ⟨w3, ew3⟩ : ∃ w3, w3 = w2.setCells g (k * 3) [.int .u64 x.v, .int .i64 x.id, val x.x] := ⟨_, rfl⟩
  rw [← ew2] at hput1 hput2 ht
  rw [← ew3] at hput2
  obtain ⟨u0, t0⟩ := Option.isSome_iff_exists.1 (hs 0 (by omega)).1
  obtain ⟨u1, t1⟩ := Option.isSome_iff_exists.1 (hs 1 (by omega)).1
  obtain ⟨u2, t2⟩ := Option.isSome_iff_exists.1 (hs 2 (by omega)).1
  have p0 := (hs 0 (by omega)).2
  have p1 := (hs 1 (by omega)).2
  have p2 := (hs 2 (by omega)).2
  rw [Nat.add_zero] at t0 p0
  obtain ⟨s0, r0⟩ := Option.isSome_iff_exists.1 (ht 0 (by omega)).1
  obtain ⟨s1, r1⟩ := Option.isSome_iff_exists.1 (ht 1 (by omega)).1
  obtain ⟨s2, r2⟩ := Option.isSome_iff_exists.1 (ht 2 (by omega)).1
  have v0 := (ht 0 (by omega)).2
  have v1 := (ht 1 (by omega)).2
  have v2 := (ht 2 (by omega)).2
  rw [Nat.add_zero] at r0 v0
  have P1 := hid hput1
  have P2 := hid hput2
  have HB1 := hid hb1
  have HR1 := hid hrec
  have HM1 := hid hmp
  have HO1 := hid hown
  have e2 : ((w1.setCell ⟨g, i * 3, none⟩ (.int .u64 y.v)).setCell ⟨g, i * 3 + 1, none⟩ (.int .i64 y.id)).setCell ⟨g, i * 3 + 2, none⟩ (val y.x) = w2 := by rw [ew2]; rfl
  have e3 : ((w2.setCell ⟨g, k * 3, none⟩ (.int .u64 x.v)).setCell ⟨g, k * 3 + 1, none⟩ (.int .i64 x.id)).setCell ⟨g, k * 3 + 2, none⟩ (val x.x) = w3 := by rw [ew3]; rfl
  have E2 := hid e2
  have E3 := hid e3
  clear hown hown1 hb1 hrec hmp hs ht hput1 hput2
  clear ew1 xq ew2 ew3 e2 e3
  refine wpAny_take (i := 24) (v := ?_) rfl (by kernel_rfl) (by kernel_rfl) (by kernel_rfl) (fun _ _ _ h => h) (Or.inl ⟨by rfl, ?_⟩) ?_
  rotate_left
  · intro w; go_simp; try with_reducible rfl
  refine wpAny_ready (rs := [25]) (by kernel_rfl) (by simp) ?_
  refine AllReady.cons rfl (fun K hK => ?_) AllReady.nil
  go_simp
  refine hK _ _ ?_
  clear hK K
  rw [E2.out]
  refine wpAny_take (i := 26) (v := ?_) rfl (by kernel_rfl) (by kernel_rfl) (by kernel_rfl) (fun _ _ _ h => h) (Or.inl ⟨by rfl, ?_⟩) ?_
  rotate_left
  · intro w; go_simp; try with_reducible rfl
  refine wpAny_ready (rs := [27]) (by kernel_rfl) (by simp) ?_
  refine AllReady.cons rfl (fun K hK => ?_) AllReady.nil
  go_simp
  refine hK _ _ ?_
  clear hK K
  rw [E3.out]
  refine wpAny_done (by kernel_rfl) ?_ _
  have hg1 := P1.out.2.1
  have hg2 := P2.out.2.1
  have hrec2 := Rec.grown HR1.out HO1.out hg1 (by decide)
  have hown2 := P1.out.1
  rw [show l.length = (l.set i y).length by simp] at hown2
  have hrec3 := Rec.grown hrec2 hown2 hg2 (by decide)
  have hmb := own_not_map HO1.out HM1.out
  have hm3 := (HM1.out.grown hg1 hmb).grown hg2 hmb
  have hL : (l.set i y).set k x = L := by
    obtain ⟨_, _, z1, z2⟩ := EX.out
    obtain ⟨_, _, z3⟩ := HL.out
    rw [← z3, ← z1, ← z2]; rfl
  have hown3 := P2.out.1
  rw [hL] at hown3
  have hLn : L.length = n := by rw [← hL]; simp; exact EN.out
  have hLi : L[i]? = some y := by
    obtain ⟨h1, h2, z1, z2⟩ := EX.out
    rw [← hL, List.getElem?_set]
    by_cases e : k = i
    · subst e
      rw [if_pos rfl, if_pos (by simpa using h1), ← z1, ← z2]
    · rw [if_neg e, List.getElem?_set, if_pos rfl, if_pos h1]
  have hLk : L[k]? = some x := by
    obtain ⟨h1, h2, z1, z2⟩ := EX.out
    rw [← hL, List.getElem?_set, if_pos rfl, if_pos (by simpa using h2)]
  rw [show (l.set i y).length = L.length by rw [hLn]; simp; exact EN.out] at hown3
  have q1' := Rec.cell hrec3 1
  have q2' := Rec.cell hrec3 2
  have i1' := own_cell (j := 1) itV_length hown3 hLi (by omega)
  have k1' := own_cell (j := 1) itV_length hown3 hLk (by omega)
  simp [itV] at q1' q2' i1' k1'
  rw [EN.out] at q1'
  have HR3 := hid hrec3
  have HO3 := hid hown3
  have HM3 := hid hm3
  have HL3 := hid hLn
  clear hrec2 hown2 hrec3 hown3 hm3 hmb hL hLi hLk hLn hg1 hg2 q0 q1 q2 i0 i1 i2 k0 k1 k2 t0 t1 t2 p0 p1 p2 r0 r1 r2 v0 v1 v2 E2 E3
  go_wp2_with fail
  refine wp_region_from (C := fun w' => ∃ x : Past, w' = w3.past x) 28 6 [26,27] (by kernel_rfl) (by kernel_rfl) (by kernel_rfl) rfl (by kernel_rfl) (.inr fun _ _ d _ _ h => by cases d <;> exact h) (past_of ⟨rfl, rfl, rfl, Nat.le_refl _, fun _ _ => rfl⟩) ?_
  simp only [List.take_succ_cons, List.take_zero]
  repeat (go_big_quiet_step ((fail)))
  refine wpQuiet_nil ?_
  rintro _ ⟨xq, rfl⟩
  have hb3 := w3.below_past xq
  obtain ⟨wr, ewr⟩ : ∃ wr, wr = w3.past xq := ⟨_, rfl⟩
  rw [← ewr] at hb3 ⊢
  clear ewr xq
  have hmr := HM3.out.below hb3 HM3.out.lt
  obtain ⟨cI, cM⟩ := HM.out
  have iy : I64 y.id := by
    obtain ⟨_, _, z1, z2⟩ := EX.out
    exact cI y (by rw [← z2]; exact List.getElem_mem _)
  have ix : I64 x.id := by
    obtain ⟨_, _, z1, z2⟩ := EX.out
    exact cI x (by rw [← z1]; exact List.getElem_mem _)
  have ii : I64 (i : Int) := by unfold I64; unfold maxLen at cM; rw [EN.out] at cM; omega
  have ik : I64 (k : Int) := by unfold I64; unfold maxLen at cM; rw [EN.out] at cM; omega
  have sy : (idx l y.id).isSome = true := by
    obtain ⟨_, h2, _, z2⟩ := EX.out
    rw [← z2, idx_at HN.out h2]; rfl
  have sx : (upd (idx l) y.id (some (i : Int)) x.id).isSome = true := by
    obtain ⟨h1, _, z1, _⟩ := EX.out
    unfold upd
    split
    · rfl
    · rw [← z1, idx_at HN.out h1]; rfl
  obtain ⟨v0, n0, w4, r4, g4, S4⟩ := hmr.entry (m := 61) (by kernel_rfl) (by kernel_rfl) (by go_simp) iy cM
  obtain ⟨w5, r5, g5, m5⟩ := S4 w4 i rfl ii
  rw [if_pos sy] at m5
  obtain ⟨v1, n1, w6, r6, g6, S6⟩ := m5.entry (m := 61) (by kernel_rfl) (by kernel_rfl) (by go_simp) ix cM
  obtain ⟨w7, r7, g7, m7⟩ := S6 w6 k rfl ik
  rw [if_pos sx] at m7
  have HB3 := hid hb3
  have G4 := hid g4
  have G5 := hid g5
  have G6 := hid g6
  have G7 := hid g7
  have M7 := hid m7
  clear hb3 hmr cI iy ix ii ik sy sx S4 S6 g4 g5 g6 g7 m5 m7 cM
  refine wpAny_ready (rs := [28]) (by kernel_rfl) (by simp) ?_
  refine AllReady.cons rfl (fun K hK => ?_) AllReady.nil
  go_simp
  refine hK _ _ ?_
  clear hK K
  refine wpAny_take (i := 29) (v := ?_) rfl (by kernel_rfl) (by kernel_rfl) (by kernel_rfl) (fun _ _ _ h => h) (Or.inl ⟨by rfl, ?_⟩) ?_
  rotate_left
  · intro w; go_simp; try with_reducible rfl
  refine wpAny_ready (rs := [30]) (by kernel_rfl) (by simp) ?_
  refine AllReady.cons rfl (fun K hK => ?_) AllReady.nil
  go_simp
  refine hK _ _ ?_
  clear hK K
  refine wpAny_ready (rs := [31]) (by kernel_rfl) (by simp) ?_
  refine AllReady.cons rfl (fun K hK => ?_) AllReady.nil
  go_simp
  refine hK _ _ ?_
  clear hK K
  refine wpAny_take (i := 32) (v := ?_) rfl (by kernel_rfl) (by kernel_rfl) (by kernel_rfl) (fun _ _ _ h => h) (Or.inl ⟨by rfl, ?_⟩) ?_
  rotate_left
  · intro w; go_simp; try with_reducible rfl
  refine wpAny_ready (rs := [33]) (by kernel_rfl) (by simp) ?_
  refine AllReady.cons rfl (fun K hK => ?_) AllReady.nil
  go_simp
  refine hK _ _ ?_
  clear hK K
  refine wpAny_done (by kernel_rfl) ?_ _
  have hgm := ((G4.out.trans G5.out).trans G6.out).trans G7.out
  have hrr := HR3.out.below HB3.out (Nat.le_refl _)
  have hor := own_below HO3.out HB3.out (Nat.le_refl _)
  have hmr := HM3.out.below HB3.out HM3.out.lt
  refine bodyPost_end (results_none rfl _ _ _) rfl ?_
  refine ⟨rfl, ⟨H0.out.big, H0.out.mbig, ⟨_, c, (hgm.block b hrr.lt (fun e => rec_not_map hrr hmr (by injection e))).trans (show wr.heap[b]? = _ by rw [HL3.out, ← EN.out]; exact hrr), hor.kept hgm (.inr fun e => own_not_map hor hmr e.symm)⟩, ?_⟩, ?_, ?_⟩
  · obtain ⟨h1, h2, z1, z2⟩ := EX.out
    obtain ⟨_, _, z3⟩ := HL.out
    have h5 := M7.out.ext (g := idx L) (by rw [← z3, ← z1, ← z2]; exact idx_swp l i k h1 h2 HN.out)
    rw [show L.length = l.length by rw [HL3.out, EN.out]]
    exact h5
  · have hs1 := HB1.out.size
    have b1 := HB1.out.mono hB
    have b2 := b1.grown P1.out.2.1 (by omega) (fun j e => by injection e with e; omega)
    have b3 := b2.grown P2.out.2.1 (by have := b2.size; omega) (fun j e => by injection e with e; omega)
    have b4 := b3.trans (HB3.out.mono (by have := b3.size; omega))
    exact b4.grown hgm (by have := b4.size; omega) (fun j e => by injection e with e; have := H0.out.mbig; omega)
  · have k1 : HKept b mb w w1 := HKept.of_below HB1.out H0.out.lt
    have k2 : HKept b mb w1 w2 := HKept.row' HR1.out HO1.out P1.out.2.1
    have k3 : HKept b mb w2 w3 := HKept.row' (Rec.grown HR1.out HO1.out P1.out.2.1 (by decide)) P1.out.1 P2.out.2.1
    have k4 : HKept b mb w3 wr := HKept.of_below HB3.out HR3.out.lt
    exact (((k1.trans k2).trans k3).trans k4).trans (HKept.map hgm hrr.lt (rec_not_map hrr hmr))
end

end Go.Proofs.Ytolhbcgmlaodbaa.HpI
namespace Go.Proofs.Ytolhbcgmlaodbaa.HpI
open Go Go.RowKit Go.Proofs.Ytolhbcgmlaodbaa
/-- What a heap's list keeps. -/
structure Good (L : List (Hp.It A)) : Prop where
  nd : (L.map (·.id)).Nodup
  i64 : ∀ x ∈ L, I64 x.id
  len : L.length ≤ 4096
theorem Good.perm {l L : List (Hp.It A)} (h : Good L) (p : l.Perm L) : Good l :=
  ⟨(List.Perm.nodup_iff (p.map _)).2 h.nd, fun x hx => h.i64 x (p.mem_iff.1 hx), by rw [p.length_eq]; exact h.len⟩
/-- Where a heap has been brought to. -/
structure HSt (B : Nat) (w : World) (b mb : Nat) (most : Int) (L : List (Hp.It A)) (l : List (Hp.It A)) (wr : World) : Prop where
  at' : HAt B wr b mb most l
  perm : l.Perm L
  bel : Below B w wr
  kept : HKept b mb w wr
section
variable {B : Nat} {w w' : World} {b mb : Nat} {most : Int} {l L : List (Hp.It A)}
theorem HSt.far {w'' : World} (h : HSt B w b mb most L l w') (hb : Below w'.heap.size w' w'') : HSt B w b mb most L l w'' :=
  ⟨h.at'.far hb, h.perm, h.bel.trans (hb.mono (by have := h.at'.big; have := h.at'.lt; omega)), h.kept.trans (HKept.of_below hb h.at'.lt)⟩
theorem HSt.past (h : HSt B w b mb most L l w') (x : Past) : HSt B w b mb most L l (w'.past x) := h.far (w'.below_past x)
theorem swap_st (hG : Good L) (h : HSt B w b mb most L l w') (i k : Nat) (hi : i < l.length) (hk : k < l.length) :
    Calls Try.prog 41 #[.pointer (some ⟨b, 0, none⟩), .int .i64 i, .int .i64 k] w' (fun e w'' => e = .returned (.tuple #[]) ∧ HSt B w b mb most L (Hp.swp l i k hi hk) w'') := by
  have g := hG.perm h.perm
  refine (swap_any h.at' g.nd g.i64 (by have := h.at'.big; have := h.at'.lt; omega) (Nat.lt_of_le_of_lt g.len (by decide)) i k hi hk).mono ?_
  rintro _ w2 ⟨rfl, h2, hb, hk2⟩
  exact ⟨rfl, h2, (Hp.swp_perm _ _ _ _ _).trans h.perm, h.bel.trans hb, h.kept.trans hk2⟩
theorem par_wrap {k : Nat} (h0 : 0 < k) (hk : k < 4096) : IntKind.i64.wrap ((k : Int) - 1) = ((k - 1 : Nat) : Int) ∧ wrap64 (((k - 1 : Nat) : Int) / 2) = ((Hp.par k : Nat) : Int) := by
  unfold Hp.par
  refine ⟨by rw [IntKind.wrap_i64] <;> omega, ?_⟩
  unfold wrap64; omega
set_option maxRecDepth 100000 in
set_option maxHeartbeats 4000000 in
theorem up_any (hG : Good L) (hS : HSt B w b mb most L l w) (hB : B ≤ w.heap.size) (i : Nat) (hi : i < l.length) (hU : Hp.Up l i) :
    Calls Try.prog 37 #[.pointer (some ⟨b, 0, none⟩), .int .i64 i] w (fun e w' => e = .returned (.tuple #[]) ∧ ∃ l', Hp.Ord l' ∧ HSt B w b mb most L l' w') := by
  have HS := hid hS
  have HU := hid (And.intro hi hU)
  have HG := hid hG
  clear hS hi hU hG
  go_enter Try.func37, Try.ntmps37
  go_wp2
  go_loopw [1] (fun v wr => ∃ (k : Nat) (l' : List (Hp.It A)) (hk : k < l'.length), v = .int .i64 k ∧ Hid (HSt B w b mb most L l' wr ∧ Hp.Up l' k)) (fun v _ => natC v)
  case atStart => exact ⟨i, l, HU.out.1, rfl, hid ⟨HS.out, HU.out.2⟩⟩
  case round =>
    obtain ⟨k, l', hk, rfl, hR⟩ := hrel
    have hm := (HG.out.perm hR.out.1.perm).len
    by_cases h0 : 0 < k
    · obtain ⟨e1, e2⟩ := par_wrap h0 (by omega)
      have hp := Hp.par_lt h0
      have HL := hid (less_any hR.out.1.at' k (Hp.par k) hk (by omega))
      have h0' : (k : Int) > 0 := by omega
      clear hm
      go_wp2_with fail
      rw [e2]
      refine HL.out.mono ?_
      rintro _ _ ⟨rfl, x2, rfl⟩
      clear HL
      have hS2 := hR.out.1.past x2
      obtain ⟨w2, ew2⟩ : ∃ w2, w2 = wr.past x2 := ⟨_, rfl⟩
      rw [← ew2] at hS2 ⊢
      clear ew2 x2
      by_cases hlt : Hp.lt l'[k] (l'[Hp.par k]'(by omega))
      · have hlt' : decide (Hp.lt l'[k] (l'[Hp.par k]'(by omega))) = true := decide_eq_true hlt
        have HSW := hid (swap_st HG.out hS2 k (Hp.par k) hk (by omega))
        have HS2 := hid hS2
        have HLT := hid hlt
        rw [hlt']
        clear hS2 hlt hlt'
        go_wp2_with fail
        rw [e2]
        refine HSW.out.mono ?_
        rintro _ w3 ⟨rfl, h3⟩
        have H3 := hid h3
        clear h3 HSW
        go_wp2_with fail
        rw [e2]
        exact ⟨⟨Hp.par k, _, by rw [Hp.swp_length]; omega, rfl, hid ⟨H3.out, Hp.Up.step hR.out.2 hk h0 HLT.out⟩⟩, by simp [natC]; omega⟩
      · have hlt' : decide (Hp.lt l'[k] (l'[Hp.par k]'(by omega))) = false := decide_eq_false hlt
        have HS2 := hid hS2
        have HLT := hid hlt
        rw [hlt']
        clear hS2 hlt hlt'
        go_wp2_with fail
        go_end0
        exact ⟨rfl, l', Hp.Up.fin hR.out.2 (fun _ _ => HLT.out), HS2.out⟩
    · have hk0 : k = 0 := by omega
      subst hk0
      clear hm
      go_wp2_with fail
      go_end0
      exact ⟨rfl, l', Hp.Up.fin hR.out.2 (fun _ h => absurd h (by omega)), hR.out.1⟩
theorem kid_wrap {k : Nat} (hk : k ≤ 4096) : ∃ m m2 : Nat, m = 2 * k + 1 ∧ m2 = 2 * k + 2 ∧ IntKind.i64.wrap (2 * (k : Int)) = 2 * (k : Int) ∧ wrap64 (2 * (k : Int) + 1) = (m : Int) ∧ wrap64 ((m : Int) + 1) = (m2 : Int) :=
  ⟨2 * k + 1, 2 * k + 2, rfl, rfl, by rw [IntKind.wrap_i64] <;> omega, by unfold wrap64; omega, by unfold wrap64; omega⟩
/-- The child that may change places with k. -/
def Sib (l : List (Hp.It A)) (k q : Nat) : Prop := ∃ (hq : q < l.length), 0 < q ∧ Hp.par q = k ∧ ∀ p (hp : p < l.length), 0 < p → Hp.par p = k → ¬ Hp.lt l[p] l[q]
theorem sib_two {k m m2 : Nat} (e1 : m = 2 * k + 1) (e2 : m2 = 2 * k + 2) (h : m2 < l.length) : if Hp.lt l[m2] (l[m]'(by omega)) then Sib l k m2 else Sib l k m := by
  subst e1 e2
  split
  · rename_i hlt
    refine ⟨h, by omega, by unfold Hp.par; omega, fun p hp p0 hpk => ?_⟩
    rcases (Hp.par_child p0).1 hpk with rfl | rfl
    · exact Hp.lt_asymm hlt
    · exact Hp.lt_irrefl _
  · rename_i hlt
    refine ⟨by omega, by omega, by unfold Hp.par; omega, fun p hp p0 hpk => ?_⟩
    rcases (Hp.par_child p0).1 hpk with rfl | rfl
    · exact Hp.lt_irrefl _
    · exact hlt
theorem sib_one {k m : Nat} (e1 : m = 2 * k + 1) (h : m < l.length) (h2 : ¬ 2 * k + 2 < l.length) : Sib l k m := by
  subst e1
  refine ⟨h, by omega, by unfold Hp.par; omega, fun p hp p0 hpk => ?_⟩
  rcases (Hp.par_child p0).1 hpk with rfl | rfl
  · exact Hp.lt_irrefl _
  · omega
theorem swp_comm (i k : Nat) (hi : i < l.length) (hk : k < l.length) : Hp.swp l i k hi hk = Hp.swp l k i hk hi := by
  by_cases e : i = k
  · subst e; rfl
  · unfold Hp.swp; exact List.set_comm _ _ e
/-- Down stops. -/
theorem dn_stop {k i : Nat} {l0 : List (Hp.It A)} (h : Hp.Dn l k) (hk : k = i ∧ l = l0 ∨ Hp.Ok l k ∧ k < l.length) (hc : ∀ q (hq : q < l.length) (hi : k < l.length), 0 < q → Hp.par q = k → ¬ Hp.lt l[q] l[k]) : Hp.Up l i ∧ (l = l0 ∨ Hp.Ord l) := by
  rcases hk with ⟨rfl, e⟩ | ⟨ho, _⟩
  · exact ⟨Hp.Dn.fin h hc (.inl rfl), .inl e⟩
  · exact ⟨Hp.Dn.fin h hc (.inr ho), .inr (Hp.Up.fin (Hp.Dn.fin h hc (.inl rfl)) ho)⟩
set_option maxRecDepth 100000 in
set_option maxHeartbeats 4000000 in
theorem down_any (hG : Good L) (hS : HSt B w b mb most L l w) (hB : B ≤ w.heap.size) (i : Nat) (hD : Hp.Dn l i) (hi : i ≤ 4096) :
    Calls Try.prog 42 #[.pointer (some ⟨b, 0, none⟩), .int .i64 i] w (fun e w' => e = .returned (.tuple #[]) ∧ ∃ l', Hp.Up l' i ∧ (l' = l ∨ Hp.Ord l') ∧ HSt B w b mb most L l' w') := by
  have HS := hid hS
  have HU := hid (And.intro hi hD)
  have HG := hid hG
  clear hS hi hD hG
  go_enter Try.func42, Try.ntmps42
  go_wp2
  go_loopw [1, 4] (fun v _ wr => ∃ (k : Nat) (l' : List (Hp.It A)), v = .int .i64 k ∧ Hid (HSt B w b mb most L l' wr ∧ Hp.Dn l' k ∧ (k = i ∧ l' = l ∨ Hp.Ok l' k ∧ k < l'.length))) (fun v _ _ => 4096 - natC v)
  case atStart => exact ⟨i, l, rfl, hid ⟨HS.out, HU.out.2, .inl ⟨rfl, rfl⟩⟩⟩
  case round =>
    obtain ⟨k, l', rfl, hR⟩ := hrel
    have hl := (HG.out.perm hR.out.1.perm).len
    obtain ⟨a, c, q0, q1, q2, -⟩ := hR.out.1.at'.cells
    clear q0 q2
    obtain ⟨n, en⟩ : ∃ n, l'.length = n := ⟨_, rfl⟩
    have EN := hid en
    rw [en] at q1 hl
    clear en
    have hkn : k ≤ 4096 := by
      rcases hR.out.2.2 with h | h
      · rw [h.1]; exact HU.out.1
      · rw [EN.out] at h; omega
    obtain ⟨m, m2, em, em2, e1, e2, e3⟩ := kid_wrap hkn
    have HM := hid (And.intro em em2)
    have HLN := hid (And.intro hl hkn)
    by_cases h1 : m < n
    · have HL1 := hid (less_any hR.out.1.at')
      have H1 := hid h1
      by_cases h2 : m2 < n
      · have h1' : ¬ (m : Int) ≥ n := by omega
        have h2' : (m2 : Int) < n := by omega
        have H2 := hid h2
        have HX := hid (sib_two (l := l') HM.out.1 HM.out.2 (by rw [EN.out]; exact H2.out))
        clear h1 h2 hl hkn em em2
        go_wp2_with fail
        refine (HL1.out m2 m (by rw [EN.out]; exact H2.out) (by rw [EN.out]; exact H1.out)).mono ?_
        rintro _ _ ⟨rfl, x2, rfl⟩
        have q1' := (hR.out.1.past x2)
        obtain ⟨w2, ew2⟩ : ∃ w2, w2 = wr.past x2 := ⟨_, rfl⟩
        rw [← ew2] at q1' ⊢
        clear ew2 x2 HL1
        have HS2 := hid q1'
        clear q1'
        by_cases hlt : Hp.lt (l'[m2]'(by rw [EN.out]; exact H2.out)) (l'[m]'(by rw [EN.out]; exact H1.out))
        · have hsb := HX.out
          rw [if_pos hlt] at hsb
          have HSB := hid hsb
          rw [decide_eq_true hlt]
          clear hlt hsb HX
          go_wp2_with fail
          obtain ⟨hq, q0, hqk, hsib⟩ := HSB.out
          have hkl : k < l'.length := by have := Hp.par_lt q0; omega
          refine (less_any HS2.out.at' m2 k hq hkl).mono ?_
          rintro _ _ ⟨rfl, x3, rfl⟩
          have hS3 := HS2.out.past x3
          obtain ⟨w3, ew3⟩ : ∃ w3, w3 = (w2).past x3 := ⟨_, rfl⟩
          rw [← ew3] at hS3 ⊢
          clear ew3 x3
          have HS3 := hid hS3
          have HQ := hid (show ∃ (hq : m2 < l'.length), 0 < m2 ∧ Hp.par m2 = k from ⟨hq, q0, hqk⟩)
          by_cases hlt : Hp.lt l'[m2] l'[k]
          · have HLT := hid hlt
            have HSW := hid (swap_st HG.out hS3 k m2 hkl hq)
            rw [decide_eq_true hlt]
            clear hS3 hlt hsib q0 hqk
            go_wp2_with fail
            refine HSW.out.mono ?_
            rintro _ w4 ⟨rfl, h4⟩
            have H4 := hid h4
            clear h4 HSW
            go_wp2_with fail
            obtain ⟨hq', q0, hqk, hsib⟩ := HSB.out
            have h5 := H4.out
            rw [swp_comm k m2 hkl hq] at h5
            obtain ⟨d1, d2, d3⟩ := Hp.Dn.step hR.out.2.1 hkl hq q0 hqk HLT.out hsib
            refine ⟨⟨m2, _, rfl, hid ⟨h5, d1, .inr ⟨d2, by rw [Hp.swp_length]; exact hq⟩⟩⟩, ?_⟩
            have hh1 := HLN.out
            have hh2 := HM.out
            have hh3 := EN.out
            show 4096 - (m2 : Int).toNat < 4096 - (k : Int).toNat
            have := Hp.par_lt q0
            omega
          · have HLT := hid hlt
            rw [decide_eq_false hlt]
            clear hS3 hlt hsib q0 hqk
            go_wp2_with fail
            refine bodyPost_ret (results_none rfl _ _ _) rfl ?_
            obtain ⟨hq', q0, hqk, hsib⟩ := HSB.out
            obtain ⟨u1, u2⟩ := dn_stop (i := i) (l0 := l) hR.out.2.1 hR.out.2.2 (fun p hp _ p0 hpk => Hp.nlt_trans HLT.out (hsib p hp p0 hpk))
            exact ⟨rfl, l', u1, u2, HS3.out⟩
        · have hsb := HX.out
          rw [if_neg hlt] at hsb
          have HSB := hid hsb
          rw [decide_eq_false hlt]
          clear hlt hsb HX
          go_wp2_with fail
          obtain ⟨hq, q0, hqk, hsib⟩ := HSB.out
          have hkl : k < l'.length := by have := Hp.par_lt q0; omega
          refine (less_any HS2.out.at' m k hq hkl).mono ?_
          rintro _ _ ⟨rfl, x3, rfl⟩
          have hS3 := HS2.out.past x3
          obtain ⟨w3, ew3⟩ : ∃ w3, w3 = (w2).past x3 := ⟨_, rfl⟩
          rw [← ew3] at hS3 ⊢
          clear ew3 x3
          have HS3 := hid hS3
          have HQ := hid (show ∃ (hq : m < l'.length), 0 < m ∧ Hp.par m = k from ⟨hq, q0, hqk⟩)
          by_cases hlt : Hp.lt l'[m] l'[k]
          · have HLT := hid hlt
            have HSW := hid (swap_st HG.out hS3 k m hkl hq)
            rw [decide_eq_true hlt]
            clear hS3 hlt hsib q0 hqk
            go_wp2_with fail
            refine HSW.out.mono ?_
            rintro _ w4 ⟨rfl, h4⟩
            have H4 := hid h4
            clear h4 HSW
            go_wp2_with fail
            obtain ⟨hq', q0, hqk, hsib⟩ := HSB.out
            have h5 := H4.out
            rw [swp_comm k m hkl hq] at h5
            obtain ⟨d1, d2, d3⟩ := Hp.Dn.step hR.out.2.1 hkl hq q0 hqk HLT.out hsib
            refine ⟨⟨m, _, rfl, hid ⟨h5, d1, .inr ⟨d2, by rw [Hp.swp_length]; exact hq⟩⟩⟩, ?_⟩
            have hh1 := HLN.out
            have hh2 := HM.out
            have hh3 := EN.out
            show 4096 - (m : Int).toNat < 4096 - (k : Int).toNat
            have := Hp.par_lt q0
            omega
          · have HLT := hid hlt
            rw [decide_eq_false hlt]
            clear hS3 hlt hsib q0 hqk
            go_wp2_with fail
            refine bodyPost_ret (results_none rfl _ _ _) rfl ?_
            obtain ⟨hq', q0, hqk, hsib⟩ := HSB.out
            obtain ⟨u1, u2⟩ := dn_stop (i := i) (l0 := l) hR.out.2.1 hR.out.2.2 (fun p hp _ p0 hpk => Hp.nlt_trans HLT.out (hsib p hp p0 hpk))
            exact ⟨rfl, l', u1, u2, HS3.out⟩
      · have h1' : ¬ (m : Int) ≥ n := by omega
        have h2' : ¬ (m2 : Int) < n := by omega
        have H2 := hid h2
        have HSB := hid (sib_one (l := l') HM.out.1 (by rw [EN.out]; exact H1.out) (by rw [EN.out, ← HM.out.2]; exact H2.out))
        clear h1 h2 hl hkn em em2
        have HS2 := hid hR.out.1
        go_wp2_with fail
        obtain ⟨hq, q0, hqk, hsib⟩ := HSB.out
        have hkl : k < l'.length := by have := Hp.par_lt q0; omega
        refine (less_any HS2.out.at' m k hq hkl).mono ?_
        rintro _ _ ⟨rfl, x3, rfl⟩
        have hS3 := HS2.out.past x3
        obtain ⟨w3, ew3⟩ : ∃ w3, w3 = (wr).past x3 := ⟨_, rfl⟩
        rw [← ew3] at hS3 ⊢
        clear ew3 x3
        have HS3 := hid hS3
        have HQ := hid (show ∃ (hq : m < l'.length), 0 < m ∧ Hp.par m = k from ⟨hq, q0, hqk⟩)
        by_cases hlt : Hp.lt l'[m] l'[k]
        · have HLT := hid hlt
          have HSW := hid (swap_st HG.out hS3 k m hkl hq)
          rw [decide_eq_true hlt]
          clear hS3 hlt hsib q0 hqk
          go_wp2_with fail
          refine HSW.out.mono ?_
          rintro _ w4 ⟨rfl, h4⟩
          have H4 := hid h4
          clear h4 HSW
          go_wp2_with fail
          obtain ⟨hq', q0, hqk, hsib⟩ := HSB.out
          have h5 := H4.out
          rw [swp_comm k m hkl hq] at h5
          obtain ⟨d1, d2, d3⟩ := Hp.Dn.step hR.out.2.1 hkl hq q0 hqk HLT.out hsib
          refine ⟨⟨m, _, rfl, hid ⟨h5, d1, .inr ⟨d2, by rw [Hp.swp_length]; exact hq⟩⟩⟩, ?_⟩
          have hh1 := HLN.out
          have hh2 := HM.out
          have hh3 := EN.out
          show 4096 - (m : Int).toNat < 4096 - (k : Int).toNat
          have := Hp.par_lt q0
          omega
        · have HLT := hid hlt
          rw [decide_eq_false hlt]
          clear hS3 hlt hsib q0 hqk
          go_wp2_with fail
          refine bodyPost_ret (results_none rfl _ _ _) rfl ?_
          obtain ⟨hq', q0, hqk, hsib⟩ := HSB.out
          obtain ⟨u1, u2⟩ := dn_stop (i := i) (l0 := l) hR.out.2.1 hR.out.2.2 (fun p hp _ p0 hpk => Hp.nlt_trans HLT.out (hsib p hp p0 hpk))
          exact ⟨rfl, l', u1, u2, HS3.out⟩
    · have h1' : (m : Int) ≥ n := by omega
      have H1 := hid h1
      clear h1 hl hkn em em2
      go_wp2_with fail
      refine bodyPost_ret (results_none rfl _ _ _) rfl ?_
      obtain ⟨u1, u2⟩ := dn_stop (i := i) (l0 := l) hR.out.2.1 hR.out.2.2 (fun p hp _ p0 hpk => by
        have hh1 := H1.out
        have hh2 := HM.out
        have hh3 := EN.out
        rcases (Hp.par_child p0).1 hpk with rfl | rfl <;> omega)
      exact ⟨rfl, l', u1, u2, hR.out.1⟩
end

end Go.Proofs.Ytolhbcgmlaodbaa.HpI
