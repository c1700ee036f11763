/-
  Layer 39: the document's queue: take. No condition.
-/
import Derived.Test.YtngokihncjkiaaaDoorAppC
import Derived.Test.YtngokihncjkiaaaDoorAppB
import Derived.Test.YtngokihncjkiaaaDoorLift
import Derived.Test.YtngokihncjkiaaaDoorRows
import Derived.WalkKit
import Derived.WalkSpells
import Derived.WalkLawsBesides
import Derived.BigQuiet
import Derived.Deep.CutRange
import Derived.StillTailTactics
import Derived.Deep.RegionLaw
namespace Go.Proofs.YtngokihncjkiaaaDoor
open Go.RowKit
def slV {α : Type} (f : α → List Value) (s : Slot α) : List Value := f s.1 ++ [.bool s.2.1, .int .i64 s.2.2]
theorem slV_length {α : Type} {f : α → List Value} {c : Nat} (hf : ∀ x, (f x).length = c) (s : Slot α) : (slV f s).length = c + 2 := by simp [slV, hf]
/-- All blocks are kept but an object's, and a row's. -/
def KeptA (b : Nat) (G : Option Nat) (w w' : World) : Prop := Kept (fun k => k = b ∨ some k = G) w w'
theorem keptA_below {w w' : World} (h : Below w.heap.size w w') (b : Nat) (G : Option Nat) : KeptA b G w w' := Kept.of_below h _
theorem keptA_set (w : World) (b o : Nat) (u : Value) (G : Option Nat) : KeptA b G w (w.setCell ⟨b, o, none⟩ u) := (Kept.refl _ w).setCell (p := ⟨b, o, none⟩) (.inr (.inl rfl)) u
theorem KeptA.trans {b : Nat} {G : Option Nat} {w w' w'' : World} (h : KeptA b G w w') (k : KeptA b G w' w'') : KeptA b G w w'' := Kept.trans h k
theorem keptA_grown {b : Nat} {G : Option Nat} {w w' : World} (h : w.grownBy w' G) : KeptA b G w w' := ⟨h.os, h.tape, h.output, h.size, fun k hk hn => h.block k hk (fun e => hn (.inr e))⟩
theorem keptA_new {b : Nat} {G : Option Nat} {w w' : World} (h : KeptA b G w w') {p : Addr} (hp : w.heap.size ≤ p.block) (u : Value) : KeptA b G w (w'.setCell p u) := Kept.setCell h (.inl hp) u
/-- The product's object, of the call's own; G: the block of its row. -/
structure ArAt {α : Type} (tA tS : TypeId) (f : α → List Value) (c : Nat) (B : Nat) (w : World) (b : Nat) (G : Option Nat) (most : Int) (S : Ar α) : Prop where
  big : B ≤ b
  ex : ∃ A cp, Rec w b tA #[.int .i64 most, .slice A S.l.length cp, .int .i64 S.free, .int .i64 S.n] ∧ w.ownsRow B tS (c + 2) (.slice A S.l.length cp) S.l.length (tab (slV f) S.l) ∧ (Value.slice A S.l.length cp).ownBlock = G
/-- The row is as it was, or new. -/
def NewOr (w : World) (G G' : Option Nat) : Prop := G' = G ∨ ∃ g, G' = some g ∧ w.heap.size ≤ g
section
variable {α : Type} {tA tS : TypeId} {f : α → List Value} {c B : Nat} {w w' : World} {b : Nat} {G : Option Nat} {most : Int} {S : Ar α}
theorem ArAt.below (h : ArAt tA tS f c B w b G most S) (hb : Below w.heap.size w w') : ArAt tA tS f c B w' b G most S := by
  obtain ⟨A, cp, h1, h2, h3⟩ := h.ex
  exact ⟨h.big, A, cp, h1.below hb (Nat.le_refl _), own_below h2 hb (Nat.le_refl _), h3⟩
theorem ArAt.lt (h : ArAt tA tS f c B w b G most S) : b < w.heap.size := by
  obtain ⟨A, cp, h1, h2, h3⟩ := h.ex
  exact Rec.lt h1
theorem ArAt.row (h : ArAt tA tS f c B w b G most S) {g : Nat} (hg : G = some g) : B ≤ g ∧ g < w.heap.size := by
  obtain ⟨A, cp, h1, h2, h3⟩ := h.ex
  exact h2.lt g (h3.trans hg)
theorem ArAt.kept {X : Nat → Prop} (h : ArAt tA tS f c B w b G most S) (hk : Kept X w w') (hb : ¬ X b) (hG : ∀ g, G = some g → ¬ X g) : ArAt tA tS f c B w' b G most S := by
  obtain ⟨A, cp, h1, h2, h3⟩ := h.ex
  refine ⟨h.big, A, cp, h1.kept hk hb, ?_, h3⟩
  refine ⟨h2.1, ?_⟩
  rcases h2.2 with h4 | ⟨g, cap, cur, hv, hg, hh, hr⟩
  · exact .inl h4
  · exact .inr ⟨g, cap, cur, hv, hg, (hk.block g (Array.getElem?_eq_some_iff.1 hh).1 (hG g (by rw [← h3, hv]; rfl))).trans hh, hr⟩
end
def PutP (tA tS : TypeId) {α : Type} (f : α → List Value) (z : α) (c B b : Nat) (G : Option Nat) (most : Int) (S : Ar α) (v : α) (w : World) (e : Ending) (w' : World) : Prop :=
  e = .returned (.tuple #[.int .i64 (putA z most S v).2.1, .int .i64 (putA z most S v).2.2]) ∧ (∃ G', ArAt tA tS f c B w' b G' most (putA z most S v).1 ∧ NewOr w G G') ∧ Below B w w' ∧ KeptA b G w w'
section
variable {α : Type} {tA tS : TypeId} {f : α → List Value} {c B : Nat} {w w' : World} {b : Nat} {most : Int} {S : Ar α}
/-- What its cells read as. -/
structure ArRd (tA tS : TypeId) (f : α → List Value) (c : Nat) (w : World) (b : Nat) (most : Int) (S : Ar α) : Prop where
  ex : ∃ A cp, Rec w b tA #[.int .i64 most, .slice A S.l.length cp, .int .i64 S.free, .int .i64 S.n] ∧ Cells w A (tab (slV f) S.l)
theorem ArAt.rd {G : Option Nat} (h : ArAt tA tS f c B w b G most S) : ArRd tA tS f c w b most S := by
  obtain ⟨A, cp, h1, h2, _⟩ := h.ex
  exact ⟨A, cp, h1, Cells.of_own h2⟩
theorem ArRd.below (h : ArRd tA tS f c w b most S) (hb : Below w.heap.size w w') : ArRd tA tS f c w' b most S := by
  obtain ⟨A, cp, h1, h2⟩ := h.ex
  exact ⟨A, cp, h1.below hb (Nat.le_refl _), h2.below hb⟩
end
def ChP {α : Type} (tA tS : TypeId) (f : α → List Value) (c B b : Nat) (G : Option Nat) (most : Int) (S' : Ar α) (r : Value) (w : World) (e : Ending) (w' : World) : Prop :=
  e = .returned r ∧ ArAt tA tS f c B w' b G most S' ∧ Below B w w' ∧ KeptA b G w w'
theorem tab_pre {α : Type} {f : α → List Value} {c : Nat} (hf : ∀ x, (f x).length = c) (hc : 0 < c) (l : List α) (k : Nat) (hk : k < l.length) (x y : α) (old new rest : List Value) (hx : l[k]? = some x) (ex : f x = old ++ rest) (ey : f y = new ++ rest) (hl : old.length = new.length) : setL (tab f l) (k * c) new = tab f (l.set k y) := by
  rw [← tab_set hf hc l k y hk]
  have hkc : (k + 1) * c ≤ l.length * c := Nat.mul_le_mul_right _ hk
  rw [Nat.add_mul] at hkc
  have hy := hf y
  have hx2 := hf x
  rw [ey, List.length_append] at hy
  apply List.ext_getElem?
  intro j
  rw [setL_get _ _ _ (by rw [tab_length hf]; omega), setL_get _ _ _ (by rw [hf, tab_length hf]; omega), ey, List.length_append]
  by_cases h1 : k * c ≤ j ∧ j < k * c + new.length
  · rw [if_pos h1, if_pos (by omega), List.getElem?_append_left (by omega)]
  · rw [if_neg h1]
    by_cases h2 : k * c ≤ j ∧ j < k * c + (new.length + rest.length)
    · rw [if_pos h2]
      have h3 := tab_get hf l k x (j - k * c) hx (by omega)
      rw [show k * c + (j - k * c) = j by omega] at h3
      rw [h3, ex, List.getElem?_append_right (by omega), List.getElem?_append_right (by omega), hl]
    · rw [if_neg h2]
theorem apart_or {v : Value} {g n cap sz : Nat} (h : ∀ v' : Value, Apart v' v → (∀ k, v'.ownBlock = some k → k < sz) → Apart v' (.slice (some ⟨g, 0, none⟩) n cap)) : v.ownBlock = some g ∨ sz ≤ g := by
  by_cases h1 : v.ownBlock = some g
  · exact .inl h1
  · refine .inr (Nat.le_of_not_lt fun h2 => ?_)
    rcases h (.slice (some ⟨g, 0, none⟩) 1 1) (.inr (.inr (fun e => h1 e.symm))) (fun k hk => by simp only [Value.ownBlock, Option.some.injEq] at hk; omega) with h3 | h3 | h3
    · simp [Value.ownBlock] at h3
    · simp [Value.ownBlock] at h3
    · exact h3 rfl
def mostA (most : Int) : Int := min (max most 0) 4096
end Go.Proofs.YtngokihncjkiaaaDoor
namespace Go.Proofs.YtngokihncjkiaaaDoor
open Go.RowKit
/-! An arena of links: what is read of it. -/
abbrev Lk := Int × Int × Int × Int
abbrev fL (x : Lk) : List Value := [.int .i64 x.1, .int .i64 x.2.1, .int .i64 x.2.2.1, .int .i64 x.2.2.2]
abbrev aL (x : Lk) : Value := .agg #[.int .i64 x.1, .int .i64 x.2.1, .int .i64 x.2.2.1, .int .i64 x.2.2.2]
def zL : Lk := (0, 0, 0, 0)
abbrev ArL := @ArAt Lk 110 112 fL 4
abbrev RdL := @ArRd Lk 110 112 fL 4
theorem info_slotL : (Tryd.prog.info? 112).map (fun i => (i.zero, i.size, i.bytes)) = some (some (.agg #[.int .i64 0, .int .i64 0, .int .i64 0, .int .i64 0, .bool false, .int .i64 0]), 6, 48) := by kernel_rfl
theorem rdL_at {w : World} {A : Option Addr} {l : List (Slot Lk)} (h : Cells w A (tab (slV fL) l)) {k : Nat} (hk : k < l.length) : ∃ g o : Nat, A = some ⟨g, o, none⟩ ∧
    w.cell? ⟨g, o + k * 6, none⟩ = some (.int .i64 (slotA zL l k).1.1) ∧ w.cell? ⟨g, o + k * 6 + 1, none⟩ = some (.int .i64 (slotA zL l k).1.2.1) ∧ w.cell? ⟨g, o + k * 6 + 2, none⟩ = some (.int .i64 (slotA zL l k).1.2.2.1) ∧ w.cell? ⟨g, o + k * 6 + 3, none⟩ = some (.int .i64 (slotA zL l k).1.2.2.2) ∧
    w.cell? ⟨g, o + k * 6 + 4, none⟩ = some (.bool (slotA zL l k).2.1) ∧ w.cell? ⟨g, o + k * 6 + 5, none⟩ = some (.int .i64 (slotA zL l k).2.2) := by
  obtain ⟨g, o, e, hc⟩ := h.tab_at (slV_length (c := 4) (fun _ => rfl)) (slot_at (z := zL) hk) (by omega)
  exact ⟨g, o, e, hc 0 _ rfl, hc 1 _ rfl, hc 2 _ rfl, hc 3 _ rfl, hc 4 _ rfl, hc 5 _ rfl⟩
theorem LIs_any (b : Nat) (most : Int) (S : Ar Lk) (i : Int) (w : World) (h : RdL w b most S) :
    Calls Tryd.prog 70 #[.pointer (some ⟨b, 0, none⟩), .int .i64 i] w (Gives (.bool (isA zL S.l i)) w) := by
  obtain ⟨A, cp, hrec, hc⟩ := h.ex
  have q1 := Rec.cell hrec 1
  simp at q1
  clear h hrec
  by_cases g1 : i < 0
  · have HE := hid (show isA zL S.l i = false by unfold isA; rw [decide_eq_false (by omega)]; rfl)
    clear hc
    go_enter Tryd.func70, Tryd.ntmps70
    go_wp2
    go_ret
    exact Gives.refl (by rw [HE.out]; rfl)
  · obtain ⟨k, rfl⟩ := Int.eq_ofNat_of_zero_le (show 0 ≤ i by omega)
    by_cases g2 : k < S.l.length
    · obtain ⟨g, o, rfl, c0, c1, c2, c3, c4, c5⟩ := rdL_at hc g2
      have HE := hid (show isA zL S.l k = (slotA zL S.l k).2.1 by unfold isA; rw [decide_eq_true (by omega), decide_eq_true (by omega)]; rfl)
      obtain ⟨n, en⟩ : ∃ n, S.l.length = n := ⟨_, rfl⟩
      obtain ⟨on, eon⟩ : ∃ on, (slotA zL S.l k).2.1 = on := ⟨_, rfl⟩
      rw [en] at q1 g2
      rw [eon] at c4 HE
      clear hc en eon c0 c1 c2 c3 c5
      go_enter Tryd.func70, Tryd.ntmps70
      go_wp2
      go_ret
      exact Gives.refl (by rw [HE.out]; rfl)
    · have HE := hid (show isA zL S.l k = false by unfold isA; rw [decide_eq_false (p := (k : Int) < S.l.length) (by omega), Bool.and_false]; rfl)
      obtain ⟨n, en⟩ : ∃ n, S.l.length = n := ⟨_, rfl⟩
      rw [en] at q1 g2
      clear hc en
      go_enter Tryd.func70, Tryd.ntmps70
      go_wp2
      go_ret
      exact Gives.refl (by rw [HE.out]; rfl)
theorem LGet_any (b : Nat) (most : Int) (S : Ar Lk) (i : Int) (w : World) (h : RdL w b most S) :
    Calls Tryd.prog 57 #[.pointer (some ⟨b, 0, none⟩), .int .i64 i] w (Gives (.tuple #[aL (getA zL S i).1, .bool (getA zL S i).2]) w) := by
  have HI := hid (fun W (hW : Below w.heap.size w W) => LIs_any b most S i W (h.below hW))
  by_cases g1 : isA zL S.l i = true
  · have HE := hid (show getA zL S i = ((slotA zL S.l i.toNat).1, true) from if_pos g1)
    rw [g1] at HI
    obtain ⟨h1, h2, _⟩ := isA_iff.1 g1
    obtain ⟨k, rfl⟩ := Int.eq_ofNat_of_zero_le h1
    have hkl : k < S.l.length := by omega
    obtain ⟨A, cp, hrec, hc⟩ := h.ex
    obtain ⟨g, o, rfl, c0, c1, c2, c3, c4, c5⟩ := rdL_at hc hkl
    have q1 := Rec.cell hrec 1
    simp at q1
    rw [Int.toNat_natCast] at HE
    obtain ⟨n, en⟩ : ∃ n, S.l.length = n := ⟨_, rfl⟩
    obtain ⟨⟨x1, x2, x3, x4⟩, ex⟩ : ∃ x, (slotA zL S.l k).1 = x := ⟨_, rfl⟩
    rw [en] at q1 hkl
    rw [ex] at c0 c1 c2 c3 HE
    have hb := Rec.lt hrec
    have hg := World.block_lt_of_cell? w _ c0
    simp only at c0 c1 c2 c3 hg
    clear h hc hrec en ex c4 c5 h1 h2 g1
    go_enter Tryd.func57, Tryd.ntmps57
    go_wp2_with (go_at_call 70; refine (HI.out _ (by (repeat (first | exact Below.refl _ _ | refine RowKit.Below.past ?_ _ | refine RowKit.Below.alloc' ?_ _ | refine RowKit.Below.drew' ?_ | refine RowKit.Below.drewN' ?_ _ | refine RowKit.Below.setCell' ?_ (by simp [go_sem]) _)))).mono ?_; rintro _ _ ⟨rfl, y1, rfl⟩)
    refine bodyPost_ret (v := .tuple #[.agg #[.int .i64 x1, .int .i64 x2, .int .i64 x3, .int .i64 x4], .bool true]) ?_ rfl ?_
    · simp [results, Tryd.results57, go_sem]
    · refine Gives.mk (by rw [HE.out]) ?_
      (repeat (first | exact Below.refl _ _ | refine RowKit.Below.past ?_ _ | refine RowKit.Below.alloc' ?_ _ | refine RowKit.Below.drew' ?_ | refine RowKit.Below.drewN' ?_ _ | refine RowKit.Below.setCell' ?_ (by simp [go_sem]) _))
  · have HE := hid (show getA zL S i = (zL, false) from if_neg g1)
    rw [Bool.eq_false_iff.2 g1] at HI
    clear h g1
    go_enter Tryd.func57, Tryd.ntmps57
    go_wp2_with (go_at_call 70; refine (HI.out _ (by (repeat (first | exact Below.refl _ _ | refine RowKit.Below.past ?_ _ | refine RowKit.Below.alloc' ?_ _ | refine RowKit.Below.drew' ?_ | refine RowKit.Below.drewN' ?_ _ | refine RowKit.Below.setCell' ?_ (by simp [go_sem]) _)))).mono ?_; rintro _ _ ⟨rfl, y1, rfl⟩)
    refine bodyPost_ret (v := .tuple #[.agg #[.int .i64 0, .int .i64 0, .int .i64 0, .int .i64 0], .bool false]) ?_ rfl ?_
    · simp [results, Tryd.results57, go_sem]
    · refine Gives.mk (by rw [HE.out]; rfl) ?_
      (repeat (first | exact Below.refl _ _ | refine RowKit.Below.past ?_ _ | refine RowKit.Below.alloc' ?_ _ | refine RowKit.Below.drew' ?_ | refine RowKit.Below.drewN' ?_ _ | refine RowKit.Below.setCell' ?_ (by simp [go_sem]) _))
theorem LLen_any (b : Nat) (most : Int) (S : Ar Lk) (w : World) (h : RdL w b most S) : Calls Tryd.prog 68 #[.pointer (some ⟨b, 0, none⟩)] w (Gives (.int .i64 S.n) w) := by
  obtain ⟨A, cp, hrec, hc⟩ := h.ex
  have q3 := Rec.cell hrec 3
  simp at q3
  clear h hrec hc
  go_enter Tryd.func68, Tryd.ntmps68
  go_wp2
  go_ret
  exact Gives.refl rfl
set_option maxHeartbeats 1000000 in
theorem LSet_any (B b : Nat) (most : Int) (S : Ar Lk) (i : Int) (v : Lk) (w : World) {G : Option Nat} (h : ArL B w b G most S) (hB : B ≤ w.heap.size) :
    Calls Tryd.prog 66 #[.pointer (some ⟨b, 0, none⟩), .int .i64 i, aL v] w (ChP 110 112 fL 4 B b G most (setA zL S i v) (.bool (isA zL S.l i)) w) := by
  obtain ⟨v1, v2, v3, v4⟩ := v
  show Calls Tryd.prog _ #[.pointer (some ⟨b, 0, none⟩), .int .i64 i, .agg #[.int .i64 v1, .int .i64 v2, .int .i64 v3, .int .i64 v4]] w _
  have HI := hid (fun W (hW : Below w.heap.size w W) => LIs_any b most S i W (h.rd.below hW))
  have HH := hid h
  by_cases g1 : isA zL S.l i = true
  · have HG := hid g1
    rw [g1] at HI
    obtain ⟨h1, h2, _⟩ := isA_iff.1 g1
    obtain ⟨k, rfl⟩ := Int.eq_ofNat_of_zero_le h1
    have hkl : k < S.l.length := by omega
    have HE := hid (show setA zL S k (v1, v2, v3, v4) = ⟨S.l.set k ((v1, v2, v3, v4), true, (slotA zL S.l k).2.2), S.free, S.n⟩ from if_pos g1)
    have HON := hid (show (slotA zL S.l k).2.1 = true from (isA_iff.1 g1).2.2)
    clear h h1 h2 g1
    go_enter Tryd.func66, Tryd.ntmps66
    go_upto_region 3 with (go_at_call 70; refine (HI.out _ (by (repeat (first | exact Below.refl _ _ | refine RowKit.Below.past ?_ _ | refine RowKit.Below.alloc' ?_ _ | refine RowKit.Below.drew' ?_ | refine RowKit.Below.drewN' ?_ _ | refine RowKit.Below.setCell' ?_ (by simp [go_sem]) _)))).mono ?_; rintro _ _ ⟨rfl, x1, rfl⟩)
    obtain ⟨w1, ew1⟩ : ∃ w1, w1 = (w.alloc (.cells #[.int .i64 v1, .int .i64 v2, .int .i64 v3, .int .i64 v4] 93)).past x1 := ⟨_, rfl⟩
    have hb1 : Below w.heap.size w w1 := by rw [ew1]; exact RowKit.Below.past ((Below.refl _ w).alloc (Nat.le_refl _) _) x1
    have hbox : Rec w1 w.heap.size 93 #[.int .i64 v1, .int .i64 v2, .int .i64 v3, .int .i64 v4] := by rw [ew1]; exact (Rec.new w _ _).past x1
    rw [← ew1]
    clear ew1
    obtain ⟨A, cp, hrec, hown, hGe⟩ := (HH.out.below hb1).ex
    have hbig := HH.out.big
    obtain ⟨g, cap, eA, _⟩ := own_succ hown (by omega)
    cases eA
    obtain rfl : some g = G := hGe
    obtain ⟨bv, ebv⟩ : ∃ bv, w.heap.size = bv := ⟨_, rfl⟩
    rw [ebv] at hbox ⊢
    have p0 := Rec.cell hbox 0
    have p1 := Rec.cell hbox 1
    have p2 := Rec.cell hbox 2
    have p3 := Rec.cell hbox 3
    have q1 := Rec.cell hrec 1
    simp at q1 p0 p1 p2 p3
    have hs := fun j hj => own_there hown (o := k * 6) (m := 6) (by omega) j hj
    obtain ⟨u0, t0⟩ := Option.isSome_iff_exists.1 (hs 0 (by omega)).1
    obtain ⟨u1, t1⟩ := Option.isSome_iff_exists.1 (hs 1 (by omega)).1
    obtain ⟨u2, t2⟩ := Option.isSome_iff_exists.1 (hs 2 (by omega)).1
    obtain ⟨u3, t3⟩ := Option.isSome_iff_exists.1 (hs 3 (by omega)).1
    have f0 := (hs 0 (by omega)).2
    have f1 := (hs 1 (by omega)).2
    have f2 := (hs 2 (by omega)).2
    have f3 := (hs 3 (by omega)).2
    rw [Nat.add_zero] at t0 f0
    have hst := own_setCells [.int .i64 v1, .int .i64 v2, .int .i64 v3, .int .i64 v4] _ (k * 6) w1 hown
    have hst2 : setL (tab (slV fL) S.l) (k * 6) [.int .i64 v1, .int .i64 v2, .int .i64 v3, .int .i64 v4] = tab (slV fL) (S.l.set k ((v1, v2, v3, v4), true, (slotA zL S.l k).2.2)) := by
      refine tab_pre (f := slV fL) (c := 6) (slV_length (c := 4) (fun _ => rfl)) (by omega) S.l k hkl (slotA zL S.l k) _ (fL (slotA zL S.l k).1) _ [.bool true, .int .i64 (slotA zL S.l k).2.2] (slot_at hkl) ?_ rfl rfl
      show fL (slotA zL S.l k).1 ++ [.bool (slotA zL S.l k).2.1, .int .i64 (slotA zL S.l k).2.2] = _
      rw [HON.out]
    rw [hst2] at hst
    have HST := hid hst
    have HR := hid hrec
    have HO := hid hown
    obtain ⟨n, en⟩ : ∃ n, S.l.length = n := ⟨_, rfl⟩
    have EN := hid en
    rw [en] at q1 hkl
    clear hrec hown hst hst2 en hs hbox HON
    go_region
    go_wp2
    go_ret
    obtain ⟨W1, eW1⟩ : ∃ W1, W1 = w1.setCells g (k * 6) [.int .i64 v1, .int .i64 v2, .int .i64 v3, .int .i64 v4] := ⟨_, rfl⟩
    have hst := HST.out
    rw [← eW1] at hst
    have hr1 := Rec.grown HR.out HO.out hst.2 (by decide)
    have hk2 := (keptA_below hb1 b (some g)).trans (keptA_grown (b := b) hst.2)
    have hB1 : Below B w W1 := (hb1.mono hB).grown hst.2 (by have := hb1.size; omega) (fun j hj => (HO.out.lt j hj).1)
    have main : ChP 110 112 fL 4 B b (some g) most (setA zL S k (v1, v2, v3, v4)) (.bool (isA zL S.l k)) w (.returned (.bool true)) W1.drew := by
      refine ⟨by rw [HG.out], ?_, hB1.drew, hk2.trans (keptA_below (Below.refl _ _).drew _ _)⟩
      rw [HE.out]
      refine ⟨hbig, some ⟨g, 0, none⟩, cp, ?_, ?_, rfl⟩
      · simp only [List.length_set]
        exact hr1.drew
      · simp only [List.length_set]
        exact own_below hst.1 (Below.refl _ _).drew (Nat.le_refl _)
    subst eW1
    exact main
  · have HE := hid (show setA zL S i (v1, v2, v3, v4) = S from if_neg g1)
    have HG := hid (Bool.eq_false_iff.2 g1)
    rw [Bool.eq_false_iff.2 g1] at HI
    clear h g1
    go_enter Tryd.func66, Tryd.ntmps66
    go_wp2_with (go_at_call 70; refine (HI.out _ (by (repeat (first | exact Below.refl _ _ | refine RowKit.Below.past ?_ _ | refine RowKit.Below.alloc' ?_ _ | refine RowKit.Below.drew' ?_ | refine RowKit.Below.drewN' ?_ _ | refine RowKit.Below.setCell' ?_ (by simp [go_sem]) _)))).mono ?_; rintro _ _ ⟨rfl, x1, rfl⟩)
    go_ret
    have hb1 := RowKit.Below.past ((Below.refl _ w).alloc (Nat.le_refl _) (.cells #[.int .i64 v1, .int .i64 v2, .int .i64 v3, .int .i64 v4] 93)) x1
    exact ⟨by rw [HG.out]; rfl, by rw [HE.out]; exact HH.out.below hb1, hb1.mono hB, keptA_below hb1 _ _⟩
set_option maxHeartbeats 2000000 in
theorem LDrop_any (c B b : Nat) (most : Int) (S : Ar Lk) (i : Int) (w : World) (hS : OkA c S) (hc : c ≤ 100000) {G : Option Nat} (h : ArL B w b G most S) (hB : B ≤ w.heap.size) :
    Calls Tryd.prog 69 #[.pointer (some ⟨b, 0, none⟩), .int .i64 i] w (ChP 110 112 fL 4 B b G most (dropA zL S i) (.tuple #[aL (getA zL S i).1, .bool (getA zL S i).2]) w) := by
  have HI := hid (fun W (hW : Below w.heap.size w W) => LGet_any b most S i W (h.rd.below hW))
  have HH := hid h
  by_cases g1 : isA zL S.l i = true
  · have HE2 := hid (show getA zL S i = ((slotA zL S.l i.toNat).1, true) from if_pos g1)
    rw [HE2.out] at HI
    obtain ⟨h1, h2, _⟩ := isA_iff.1 g1
    obtain ⟨k, rfl⟩ := Int.eq_ofNat_of_zero_le h1
    rw [Int.toNat_natCast] at HI HE2
    have hkl : k < S.l.length := by omega
    have HE := hid (show dropA zL S k = ⟨S.l.set k (zL, false, S.free), k + 1, S.n - 1⟩ from if_pos g1)
    have n0 := hS.n0
    have n1 := hS.n1
    have hlen := hS.len
    have e1 : IntKind.i64.wrap (S.n - 1) = S.n - 1 := by rw [IntKind.wrap_i64]; omega
    have e2 : IntKind.i64.wrap ((k : Int) + 1) = (k : Int) + 1 := by rw [IntKind.wrap_i64]; omega
    obtain ⟨⟨x1, x2, x3, x4⟩, ex⟩ : ∃ x, (slotA zL S.l k).1 = x := ⟨_, rfl⟩
    rw [ex] at HI HE2
    clear h h1 h2 g1 hS ex n0 n1 hlen
    go_enter Tryd.func69, Tryd.ntmps69
    go_upto_region 3 with (go_at_call 57; refine (HI.out _ (by (repeat (first | exact Below.refl _ _ | refine RowKit.Below.past ?_ _ | refine RowKit.Below.alloc' ?_ _ | refine RowKit.Below.drew' ?_ | refine RowKit.Below.drewN' ?_ _ | refine RowKit.Below.setCell' ?_ (by simp [go_sem]) _)))).mono ?_; rintro _ _ ⟨rfl, y1, rfl⟩)
    obtain ⟨rv, erv⟩ : ∃ rv, w.heap.size = rv := ⟨_, rfl⟩
    obtain ⟨bv, ebv⟩ : ∃ bv, rv + 1 + y1.more = bv := ⟨_, rfl⟩
    obtain ⟨w1, ew1⟩ : ∃ w1, w1 = ((w.alloc (.cells #[.int .i64 0, .int .i64 0, .int .i64 0, .int .i64 0] 93)).past y1).alloc (.cells #[.int .i64 x1, .int .i64 x2, .int .i64 x3, .int .i64 x4] 93) := ⟨_, rfl⟩
    have hb1 : Below w.heap.size w w1 := by rw [ew1]; exact (RowKit.Below.past ((Below.refl _ w).alloc (Nat.le_refl _) _) y1).alloc (by simp [World.size_past]; omega) _
    have hrb : Rec w1 rv 93 #[.int .i64 0, .int .i64 0, .int .i64 0, .int .i64 0] := by rw [ew1, ← erv]; exact ((Rec.new w _ _).past y1).alloc _
    have hvb : Rec w1 bv 93 #[.int .i64 x1, .int .i64 x2, .int .i64 x3, .int .i64 x4] := by
      rw [ew1, ← ebv, ← erv]
      have := Rec.new ((w.alloc (.cells #[.int .i64 0, .int .i64 0, .int .i64 0, .int .i64 0] 93)).past y1) 93 #[.int .i64 x1, .int .i64 x2, .int .i64 x3, .int .i64 x4]
      rwa [World.size_past, World.size_alloc] at this
    rw [← ew1, erv, ebv]
    clear ew1
    obtain ⟨A, cp, hrec, hown, hGe⟩ := (HH.out.below hb1).ex
    have hbig := HH.out.big
    obtain ⟨g, cap, eA, _⟩ := own_succ hown (by omega)
    cases eA
    obtain rfl : some g = G := hGe
    have hgb : ¬ g = b := fun e => own_not_rec hown hrec (by decide) (by rw [e]; rfl)
    have hgr : ¬ g = rv := fun e => own_not_rec hown hrb (by decide) (by rw [e]; rfl)
    have hgv : ¬ g = bv := fun e => own_not_rec hown hvb (by decide) (by rw [e]; rfl)
    have hbl := HH.out.lt
    have hbr : ¬ b = rv := by omega
    have hbv : ¬ b = bv := by omega
    have hrv : ¬ rv = bv := by omega
    have q1 := Rec.cell hrec 1
    have q2 := Rec.cell hrec 2
    have q3 := Rec.cell hrec 3
    have f2 := Rec.frozen hrec 2
    have f3 := Rec.frozen hrec 3
    have a0 := Rec.cell hrb 0
    have a1 := Rec.cell hrb 1
    have a2 := Rec.cell hrb 2
    have a3 := Rec.cell hrb 3
    have b0 := Rec.frozen hrb 0
    have b1 := Rec.frozen hrb 1
    have b2 := Rec.frozen hrb 2
    have b3 := Rec.frozen hrb 3
    have c0 := Rec.cell hvb 0
    have c1 := Rec.cell hvb 1
    have c2 := Rec.cell hvb 2
    have c3 := Rec.cell hvb 3
    simp at q1 q2 q3 a0 a1 a2 a3 c0 c1 c2 c3
    have hltb := Rec.lt hrec
    have hltr := Rec.lt hrb
    have hltg : g < w1.heap.size := (hown.lt g rfl).2
    have hs := fun j hj => own_there hown (o := k * 6) (m := 6) (by omega) j hj
    obtain ⟨u0, t0⟩ := Option.isSome_iff_exists.1 (hs 0 (by omega)).1
    obtain ⟨u1, t1⟩ := Option.isSome_iff_exists.1 (hs 1 (by omega)).1
    obtain ⟨u2, t2⟩ := Option.isSome_iff_exists.1 (hs 2 (by omega)).1
    obtain ⟨u3, t3⟩ := Option.isSome_iff_exists.1 (hs 3 (by omega)).1
    obtain ⟨u4, t4⟩ := Option.isSome_iff_exists.1 (hs 4 (by omega)).1
    obtain ⟨u5, t5⟩ := Option.isSome_iff_exists.1 (hs 5 (by omega)).1
    have p0 := (hs 0 (by omega)).2
    have p1 := (hs 1 (by omega)).2
    have p2 := (hs 2 (by omega)).2
    have p3 := (hs 3 (by omega)).2
    have p4 := (hs 4 (by omega)).2
    have p5 := (hs 5 (by omega)).2
    rw [Nat.add_zero] at t0 p0
    have hput := own_put (slV_length (f := fL) (c := 4) (fun _ => rfl)) (by omega) hown hkl (zL, false, S.free)
    have HP := hid hput
    have HR := hid hrec
    have HO := hid hown
    have HRB := hid hrb
    obtain ⟨n, en⟩ : ∃ n, S.l.length = n := ⟨_, rfl⟩
    have EN := hid en
    have HERV := hid erv
    rw [en] at q1 hkl
    clear hrec hown hput hs en hrb hvb HI erv ebv
    go_region
    go_wp2
    refine bodyPost_ret (v := .tuple #[.agg #[.int .i64 x1, .int .i64 x2, .int .i64 x3, .int .i64 x4], .bool true]) ?_ rfl ?_
    · simp [results, Tryd.results69, go_sem, *]
    obtain ⟨W1, eW1⟩ : ∃ W1, W1 = w1.setCells g (k * (4 + 2)) (slV fL (zL, false, S.free)) := ⟨_, rfl⟩
    have hput := HP.out
    rw [← eW1] at hput
    have hr1 := Rec.grown HR.out HO.out hput.2.1 (by decide)
    have ho1 := hput.1
    have hr2 := Rec.set (Rec.set hr1 2 (.int .i64 ((k : Int) + 1))) 3 (.int .i64 (S.n - 1))
    have ho2 := own_setB (own_setB ho1 hr1 (by decide) 2 (.int .i64 ((k : Int) + 1))) (Rec.set hr1 2 (.int .i64 ((k : Int) + 1))) (by decide) 3 (.int .i64 (S.n - 1))
    have hrr1 := Rec.set_other (Rec.set_other (Rec.grown HRB.out HO.out hput.2.1 (by decide)) (p := ⟨b, 2, none⟩) hbr (.int .i64 ((k : Int) + 1))) (p := ⟨b, 3, none⟩) hbr (.int .i64 (S.n - 1))
    obtain ⟨W2, eW2⟩ : ∃ W2, W2 = (W1.setCell ⟨b, 2, none⟩ (.int .i64 ((k : Int) + 1))).setCell ⟨b, 3, none⟩ (.int .i64 (S.n - 1)) := ⟨_, rfl⟩
    have hk2 : KeptA b (some g) w W2 := by
      rw [eW2]
      exact ((((keptA_below hb1 _ _).trans (keptA_grown (b := b) hput.2.1))).trans (keptA_set W1 b 2 _ _)).trans (keptA_set _ b 3 _ _)
    have hB2 : Below B w W2 := by
      rw [eW2]
      exact ((((hb1.mono hB).grown hput.2.1 (by have := hb1.size; omega) (fun j hj => (HO.out.lt j hj).1)).setCell (p := ⟨b, 2, none⟩) hbig (.int .i64 ((k : Int) + 1))).setCell (p := ⟨b, 3, none⟩) hbig (.int .i64 (S.n - 1)))
    rw [← eW2] at hr2 ho2 hrr1
    have hBr : B ≤ rv := by rw [← HERV.out]; exact hB
    have hwr : w.heap.size ≤ rv := by rw [HERV.out]; exact Nat.le_refl _
    have hrb : rv ≠ b := fun e => hbr e.symm
    have main : ChP 110 112 fL 4 B b (some g) most (dropA zL S k) (.tuple #[aL (getA zL S k).1, .bool (getA zL S k).2]) w (.returned (.tuple #[.agg #[.int .i64 x1, .int .i64 x2, .int .i64 x3, .int .i64 x4], .bool true])) ((((W2.setCell ⟨rv, 0, none⟩ (.int .i64 x1)).setCell ⟨rv, 1, none⟩ (.int .i64 x2)).setCell ⟨rv, 2, none⟩ (.int .i64 x3)).setCell ⟨rv, 3, none⟩ (.int .i64 x4)).drew := by
      refine ⟨by rw [HE2.out], ?_, ((((hB2.setCell (p := ⟨rv, 0, none⟩) hBr _).setCell (p := ⟨rv, 1, none⟩) hBr _).setCell (p := ⟨rv, 2, none⟩) hBr _).setCell (p := ⟨rv, 3, none⟩) hBr _).drew, (keptA_new (keptA_new (keptA_new (keptA_new hk2 (p := ⟨rv, 0, none⟩) hwr _) (p := ⟨rv, 1, none⟩) hwr _) (p := ⟨rv, 2, none⟩) hwr _) (p := ⟨rv, 3, none⟩) hwr _).trans (keptA_below (Below.refl _ _).drew _ _)⟩
      rw [HE.out]
      refine ⟨hbig, some ⟨g, 0, none⟩, cp, ?_, ?_, rfl⟩
      · simp only [List.length_set]
        have := Rec.set_other (Rec.set_other (Rec.set_other (Rec.set_other hr2 (p := ⟨rv, 0, none⟩) hrb (.int .i64 x1)) (p := ⟨rv, 1, none⟩) hrb (.int .i64 x2)) (p := ⟨rv, 2, none⟩) hrb (.int .i64 x3)) (p := ⟨rv, 3, none⟩) hrb (.int .i64 x4)
        simpa using this.drew
      · simp only [List.length_set]
        have := own_setB (own_setB (own_setB (own_setB ho2 hrr1 (by decide) 0 (.int .i64 x1)) (Rec.set hrr1 0 _) (by decide) 1 (.int .i64 x2)) (Rec.set (Rec.set hrr1 0 _) 1 _) (by decide) 2 (.int .i64 x3)) (Rec.set (Rec.set (Rec.set hrr1 0 _) 1 _) 2 _) (by decide) 3 (.int .i64 x4)
        exact own_below this (Below.refl _ _).drew (Nat.le_refl _)
    subst eW2
    subst eW1
    exact main
  · have HE := hid (show dropA zL S i = S from if_neg g1)
    have HG := hid (show getA zL S i = (zL, false) from if_neg g1)
    rw [HG.out] at HI
    clear h g1
    go_enter Tryd.func69, Tryd.ntmps69
    go_wp2_with (go_at_call 57; refine (HI.out _ (by (repeat (first | exact Below.refl _ _ | refine RowKit.Below.past ?_ _ | refine RowKit.Below.alloc' ?_ _ | refine RowKit.Below.drew' ?_ | refine RowKit.Below.drewN' ?_ _ | refine RowKit.Below.setCell' ?_ (by simp [go_sem]) _)))).mono ?_; rintro _ _ ⟨rfl, y1, rfl⟩)
    refine bodyPost_ret (v := .tuple #[aL zL, .bool false]) ?_ rfl ?_
    · simp [results, Tryd.results69, go_sem]
    · have hb1 := ((RowKit.Below.past ((Below.refl _ w).alloc (Nat.le_refl _) (.cells #[.int .i64 zL.1, .int .i64 zL.2.1, .int .i64 zL.2.2.1, .int .i64 zL.2.2.2] 93)) y1).alloc (by simp [World.size_past]; omega) (.cells #[.int .i64 zL.1, .int .i64 zL.2.1, .int .i64 zL.2.2.1, .int .i64 zL.2.2.2] 93))
      exact ⟨by rw [HG.out], by rw [HE.out]; exact HH.out.below hb1, hb1.mono hB, keptA_below hb1 _ _⟩

end Go.Proofs.YtngokihncjkiaaaDoor
namespace Go.Proofs.YtngokihncjkiaaaDoor
open Go.RowKit
set_option maxHeartbeats 4000000 in
theorem LPut_any (c B b : Nat) (most : Int) (S : Ar Lk) (v : Lk) (w : World) (hS : OkA c S) (hcc : c ≤ 100000) {G : Option Nat} (h : ArL B w b G most S) (hB : B ≤ w.heap.size) :
    Calls Tryd.prog 47 #[.pointer (some ⟨b, 0, none⟩), aL v] w (PutP 110 112 fL zL 4 B b G most S v w) := by
  obtain ⟨v1, v2, v3, v4⟩ := v
  show Calls Tryd.prog _ #[.pointer (some ⟨b, 0, none⟩), .agg #[.int .i64 v1, .int .i64 v2, .int .i64 v3, .int .i64 v4]] w _
  have hbig := h.big
  have hlt0 := h.lt
  have n0 := hS.n0
  have n1 := hS.n1
  have hlen := hS.len
  have hfree := hS.free
  have e1 : IntKind.i64.wrap (S.n + 1) = S.n + 1 := by rw [IntKind.wrap_i64]; omega
  obtain ⟨wv, ewv⟩ : ∃ wv, wv = w.alloc (.cells #[.int .i64 v1, .int .i64 v2, .int .i64 v3, .int .i64 v4] 93) := ⟨_, rfl⟩
  have hbv : Below w.heap.size w wv := by rw [ewv]; exact (Below.refl _ w).alloc (Nat.le_refl _) _
  obtain ⟨bv, ebv⟩ : ∃ bv, w.heap.size = bv := ⟨_, rfl⟩
  have hbox : Rec wv bv 93 #[.int .i64 v1, .int .i64 v2, .int .i64 v3, .int .i64 v4] := by rw [ewv, ← ebv]; exact Rec.new w _ _
  have HV := hid hbv
  have HX := hid hbox
  have HH := hid h
  have EWV := hid ewv
  have hbb : b ≠ bv := by omega
  have hBv : B ≤ bv := by omega
  have hwbv : w.heap.size ≤ bv := by rw [ebv]; exact Nat.le_refl _
  have EBV := hid ebv
  clear ewv hbv hbox ebv h
  by_cases g1 : most ≤ S.n
  · have HE := hid (show putA zL most S (v1, v2, v3, v4) = (S, 0, 3) from if_pos g1)
    obtain ⟨A, cp, hrec, hown, hGe⟩ := (HH.out.below HV.out).ex
    have q0 := Rec.cell hrec 0
    have q3 := Rec.cell hrec 3
    simp at q0 q3
    clear hrec hown
    go_enter Tryd.func47, Tryd.ntmps47
    go_upto_region 1 with (fail)
    rw [← EWV.out, EBV.out]
    go_wp2_with fail
    refine wp_region_past (by kernel_rfl) (by kernel_rfl) ?_
    repeat (go_big_quiet_step ((fail)))
    refine wpQuiet_nil ?_
    rintro _ ⟨_, rfl⟩
    go_wp2_with fail
    go_ret2
    have hb1 := HV.out.trans ((wv.below_past ‹Past›).mono HV.out.size)
    exact ⟨by rw [HE.out]; rfl, ⟨_, by rw [HE.out]; exact HH.out.below hb1, .inl rfl⟩, hb1.mono hB, keptA_below hb1 _ _⟩
  · have g1' : (decide (S.n ≥ most)) = false := by simpa using g1
    by_cases g2 : S.free = 0
    · have HE := hid (show putA zL most S (v1, v2, v3, v4) = (⟨S.l ++ [((v1, v2, v3, v4), true, 0)], 0, S.n + 1⟩, S.l.length, 0) from by unfold putA; rw [if_neg g1, if_pos g2])
      have hz : (S.free : Int) = 0 := by omega
      obtain ⟨j0, ji, jz0, jz1, jz2⟩ := info_parts info_slotL
      have HJ := hid ji
      obtain ⟨A, cp, hrec, hown, hGe⟩ := HH.out.ex
      rw [hz] at hrec
      obtain ⟨n, en⟩ : ∃ n, S.l.length = n := ⟨_, rfl⟩
      have EN := hid en
      rw [en] at hrec hown hlen hGe
      subst hGe
      have q0 := Rec.cell (hrec.below HV.out (Nat.le_refl _)) 0
      have q3 := Rec.cell (hrec.below HV.out (Nat.le_refl _)) 3
      simp at q0 q3
      have HR := hid hrec
      have HO := hid hown
      clear hrec hown ji g2 hz en hS hfree
      go_enter Tryd.func47, Tryd.ntmps47
      go_upto_region 1 with (fail)
      rw [← EWV.out, EBV.out]
      go_wp2_with fail
      refine wp_region_past (by kernel_rfl) (by kernel_rfl) ?_
      repeat (go_big_quiet_step ((fail)))
      refine wpQuiet_nil ?_
      rintro _ ⟨_, rfl⟩
      rename_i y1
      obtain ⟨w1, ew1⟩ : ∃ w1, w1 = wv.past y1 := ⟨_, rfl⟩
      have hb1 : Below w.heap.size w w1 := by rw [ew1]; exact HV.out.trans ((wv.below_past y1).mono HV.out.size)
      have hbox : Rec w1 bv 93 #[.int .i64 v1, .int .i64 v2, .int .i64 v3, .int .i64 v4] := by rw [ew1]; exact HX.out.past y1
      have hrec := HR.out.below hb1 (Nat.le_refl _)
      have hown := own_below HO.out hb1 (Nat.le_refl _)
      rw [← ew1]
      have hrec2 := Rec.set hrec 3 (.int .i64 (S.n + 1))
      have hown2 := own_setB hown hrec (by decide) 3 (.int .i64 (S.n + 1))
      have hbox2 := Rec.set_other hbox (p := ⟨b, 3, none⟩) hbb (.int .i64 (S.n + 1))
      have q3 := Rec.cell hrec 3
      have q2 := Rec.cell hrec 2
      have f3 := Rec.frozen hrec 3
      have hlt1 := Rec.lt hrec
      simp at q2 q3
      obtain ⟨w2, ew2⟩ : ∃ w2, w2 = w1.setCell ⟨b, 3, none⟩ (.int .i64 (S.n + 1)) := ⟨_, rfl⟩
      rw [← ew2] at hrec2 hown2 hbox2
      have hb2 : Below B w w2 := by rw [ew2]; exact (hb1.mono hB).setCell (p := ⟨b, 3, none⟩) hbig _
      have hk2 : KeptA b (Value.slice A n cp).ownBlock w1 w2 := by rw [ew2]; exact keptA_set w1 b 3 _ _
      have HR2 := hid hrec2
      have HO2 := hid hown2
      have HX2 := hid hbox2
      have EW2 := hid ew2
      have HB1 := hid hb1
      have HB2 := hid hb2
      have HK2 := hid hk2
      clear hrec hown hbox hrec2 hown2 hbox2 ew2 ew1 hb2 hk2 hb1 HV HX HR HO q0
      go_wp2_with fail
      rw [← EW2.out]
      have d1 : w2.cell? ⟨b, 1, none⟩ = some (.slice A n cp) := by rw [Rec.cell HR2.out]; simp
      have d2 : w2.cell? ⟨bv, 0, none⟩ = some (.int .i64 v1) := by rw [Rec.cell HX2.out]; rfl
      have d3 : w2.cell? ⟨bv, 1, none⟩ = some (.int .i64 v2) := by rw [Rec.cell HX2.out]; rfl
      have d4 : w2.cell? ⟨bv, 2, none⟩ = some (.int .i64 v3) := by rw [Rec.cell HX2.out]; rfl
      have d5 : w2.cell? ⟨bv, 3, none⟩ = some (.int .i64 v4) := by rw [Rec.cell HX2.out]; rfl
      have f1 : w2.frozen? ⟨b, 1, none⟩ = false := Rec.frozen HR2.out 1
      have hlt2 := Rec.lt HR2.out
      have hs2 : B ≤ w2.heap.size := Nat.le_trans hB HB2.out.size
      have hs12 : w1.heap.size ≤ w2.heap.size := HK2.out.size
      clear q2 q3 f3 hlt1
      have hltv := Rec.lt HX2.out
      have hbv1 : ¬ bv = b := fun e => hbb e.symm
      have hbv2 : ¬ b = bv := hbb
      go_region_law ((refine step_pushB rfl (.tmp 36) (.tmp 39) 108 rfl 112 j0 (.agg #[.int .i64 0, .int .i64 0, .int .i64 0, .int .i64 0, .bool false, .int .i64 0]) 6 48 Tryd.underlying108 HJ.out jz0 jz1 jz2 rfl (by decide) B ?_ (.slice A n cp) n (tab (slV fL) S.l) ?_ HO2.out.drew _ #[.int .i64 v1, .int .i64 v2, .int .i64 v3, .int .i64 v4, .bool true, .int .i64 0] ?_ rfl rfl ?_ ?_ ?_ ?_; (· exact hs2); (· rfl); (· simp [go_sem]); (· simp [Value.oneCell']); (· omega); (· unfold maxLen; omega); intro w3 g3 c3 ho3 hg3 hor3; have HO3 := hid ho3; have HG3 := hid hg3; have HR3 := hid (Rec.grown (Rec.drew HR2.out) HO2.out.drew hg3 (by decide)); have HX3 := hid (Rec.grown (Rec.drew HX2.out) HO2.out.drew hg3 (by decide)); have f13 : w3.frozen? ⟨b, 1, none⟩ = false := Rec.frozen HR3.out 1; have hlt3 := Rec.lt HR3.out; have d13 : w3.cell? ⟨b, 1, none⟩ = some (.slice A n cp) := (by rw [Rec.cell HR3.out]; simp); have HOR3 := hid (apart_or hor3); clear ho3 hg3 hor3))
      all_goals (
        have e2 : IntKind.i64.wrap ((n : Int) + 1 - 1) = n := by rw [IntKind.wrap_i64]; omega
        go_wp2
        go_ret2
        have hk3 := ((HK2.out.trans (keptA_below (Below.refl _ _).drew _ _)).trans (keptA_grown (b := b) HG3.out)).trans (keptA_set w3 b 1 (.slice (some ⟨g3, 0, none⟩) (n + 1) c3) _)
        refine ⟨by rw [HE.out, EN.out]; rfl, ?_, ?_, (keptA_below HB1.out _ _).trans hk3⟩
        · rw [HE.out]
          have l1 : (S.l ++ [((v1, v2, v3, v4), true, 0)]).length = n + 1 := by rw [List.length_append, EN.out]; rfl
          refine ⟨some g3, ⟨hbig, some ⟨g3, 0, none⟩, c3, ?_, ?_, rfl⟩, ?_⟩
          · have := Rec.set HR3.out 1 (.slice (some ⟨g3, 0, none⟩) (n + 1) c3)
            simp only [l1]
            simpa using this
          · have := own_setB HO3.out HR3.out (by decide) 1 (.slice (some ⟨g3, 0, none⟩) (n + 1) c3)
            simp only [l1]
            rw [← tab_snoc]
            exact this
          · rcases HOR3.out with h | h
            · exact .inl h.symm
            · exact .inr ⟨g3, rfl, Nat.le_trans (Nat.le_trans HB1.out.size hs12) h⟩
        · exact ((HB2.out.drew).grown HG3.out hs2 (fun k hk => (HO2.out.drew.lt k hk).1)).setCell (p := ⟨b, 1, none⟩) hbig _)
    · obtain ⟨k, hk⟩ : ∃ k, S.free = k + 1 := ⟨S.free - 1, by omega⟩
      have hkl : k < S.l.length := by omega
      have HE := hid (show putA zL most S (v1, v2, v3, v4) = (⟨S.l.set k ((v1, v2, v3, v4), true, 0), (slotA zL S.l k).2.2, S.n + 1⟩, k, 0) from by unfold putA; rw [if_neg g1, if_neg g2, hk]; rfl)
      obtain ⟨A, cp, hrec, hown, hGe⟩ := (HH.out.below HV.out).ex
      obtain ⟨g, cap, eA, _⟩ := own_succ hown (by omega)
      cases eA
      obtain rfl : some g = G := hGe
      have hgb : ¬ g = b := fun e => own_not_rec hown hrec (by decide) (by rw [e]; rfl)
      have hgv : ¬ g = bv := fun e => own_not_rec hown HX.out (by decide) (by rw [e]; rfl)
      have hat := hown.cellAt (k * 6 + 5) (by omega)
      rw [tab_get (slV_length (c := 4) (fun _ => rfl)) S.l k _ 5 (slot_at (z := zL) hkl) (by omega)] at hat
      have hat2 : wv.cell? ⟨g, k * 6 + 5, none⟩ = some (.int .i64 (slotA zL S.l k).2.2) := hat
      generalize hnx : (slotA zL S.l k).2.2 = nx at HE hat2
      have q0 := Rec.cell hrec 0
      have q3 := Rec.cell hrec 3
      simp at q0 q3
      have HR := hid hrec
      have HO := hid hown
      have e3 : IntKind.i64.wrap ((S.free : Int) - 1) = k := by rw [IntKind.wrap_i64, hk]; omega
      have hz : ¬ (S.free : Int) = 0 := by omega
      obtain ⟨fr, efr⟩ : ∃ fr, S.free = fr := ⟨_, rfl⟩
      obtain ⟨n, en⟩ : ∃ n, S.l.length = n := ⟨_, rfl⟩
      have EN := hid en
      have hb1' := hid hat2
      rw [efr] at HR e3 hz
      rw [en] at HR HO hkl
      clear hrec hown g2 hat hat2 hk hnx efr en hfree hlen hS
      go_enter Tryd.func47, Tryd.ntmps47
      go_upto_region 1 with (fail)
      rw [← EWV.out, EBV.out]
      go_wp2_with fail
      refine wp_region_past (by kernel_rfl) (by kernel_rfl) ?_
      repeat (go_big_quiet_step ((fail)))
      refine wpQuiet_nil ?_
      rintro _ ⟨_, rfl⟩
      rename_i y1
      obtain ⟨w1, ew1⟩ : ∃ w1, w1 = wv.past y1 := ⟨_, rfl⟩
      have hb1v : Below wv.heap.size wv w1 := by rw [ew1]; exact wv.below_past y1
      have hb1 : Below w.heap.size w w1 := HV.out.trans (hb1v.mono HV.out.size)
      have hbox : Rec w1 bv 93 #[.int .i64 v1, .int .i64 v2, .int .i64 v3, .int .i64 v4] := by rw [ew1]; exact HX.out.past y1
      have hrec := HR.out.below hb1v (Nat.le_refl _)
      have hown := own_below HO.out hb1v (Nat.le_refl _)
      have q1 := Rec.cell hrec 1
      have q2 := Rec.cell hrec 2
      have q3 := Rec.cell hrec 3
      have f2 := Rec.frozen hrec 2
      have f3 := Rec.frozen hrec 3
      have d0 := Rec.cell hbox 0
      have d1 := Rec.cell hbox 1
      have d2 := Rec.cell hbox 2
      have d3 := Rec.cell hbox 3
      have qn := below_cell hb1v (Nat.le_refl _) _ _ hb1'.out
      have hs := fun j hj => own_there hown (o := k * 6) (m := 6) (by omega) j hj
      obtain ⟨u0, t0⟩ := Option.isSome_iff_exists.1 (hs 0 (by omega)).1
      obtain ⟨u1, t1⟩ := Option.isSome_iff_exists.1 (hs 1 (by omega)).1
      obtain ⟨u2, t2⟩ := Option.isSome_iff_exists.1 (hs 2 (by omega)).1
      obtain ⟨u3, t3⟩ := Option.isSome_iff_exists.1 (hs 3 (by omega)).1
      obtain ⟨u4, t4⟩ := Option.isSome_iff_exists.1 (hs 4 (by omega)).1
      have p0 := (hs 0 (by omega)).2
      have p1 := (hs 1 (by omega)).2
      have p2 := (hs 2 (by omega)).2
      have p3 := (hs 3 (by omega)).2
      have p4 := (hs 4 (by omega)).2
      have p5 := (hs 5 (by omega)).2
      rw [Nat.add_zero] at t0 p0
      simp at q1 q2 q3 d0 d1 d2 d3
      have hlt := Rec.lt hrec
      have hltv := Rec.lt hbox
      have hltg : g < w1.heap.size := (hown.lt g rfl).2
      rw [← ew1]
      have hrec2 := Rec.set (Rec.set hrec 3 (.int .i64 (S.n + 1))) 2 (.int .i64 nx)
      have hown2 := own_setB (own_setB hown hrec (by decide) 3 (.int .i64 (S.n + 1))) (Rec.set hrec 3 (.int .i64 (S.n + 1))) (by decide) 2 (.int .i64 nx)
      have hput := own_put (slV_length (f := fL) (c := 4) (fun _ => rfl)) (by omega) (l := S.l) (by rw [EN.out]; exact hown2) (k := k) (by rw [EN.out]; exact hkl) ((v1, v2, v3, v4), true, 0)
      have HR2 := hid hrec2
      have HO2 := hid hown2
      have HP := hid hput
      have hbv2 : ¬ b = bv := hbb
      have hbv1 : ¬ bv = b := fun e => hbb e.symm
      have hvg : ¬ bv = g := fun e => hgv e.symm
      clear ew1 hrec hown hrec2 hown2 hput hs hbox hb1'
      go_upto_region 11 with (fail)
      go_region
      go_wp2
      go_ret2
      have hk1 : KeptA b (some g) w1 ((w1.setCell ⟨b, 3, none⟩ (.int .i64 (S.n + 1))).setCell ⟨b, 2, none⟩ (.int .i64 nx)) := (keptA_set w1 b 3 _ _).trans (keptA_set _ b 2 _ _)
      have hk2 := ((keptA_below hb1 b (some g)).trans hk1).trans (keptA_grown (b := b) HP.out.2.1)
      obtain ⟨W1, eW1⟩ : ∃ W1, W1 = ((w1.setCell ⟨b, 3, none⟩ (.int .i64 (S.n + 1))).setCell ⟨b, 2, none⟩ (.int .i64 nx)).setCells g (k * (4 + 2)) (slV fL ((v1, v2, v3, v4), true, 0)) := ⟨_, rfl⟩
      have hP := HP.out
      rw [← eW1] at hP hk2
      have main : PutP 110 112 fL zL 4 B b (some g) most S (v1, v2, v3, v4) w (.returned (.tuple #[.int .i64 (k : Int), .int .i64 0])) W1.drew := by
        refine ⟨by rw [HE.out]; rfl, ?_, ?_, hk2.trans (keptA_below (Below.refl _ _).drew _ _)⟩
        · rw [HE.out]
          refine ⟨some g, ⟨hbig, some ⟨g, 0, none⟩, cp, ?_, ?_, rfl⟩, .inl rfl⟩
          · have := Rec.grown HR2.out HO2.out hP.2.1 (by decide)
            simp only [List.length_set]
            rw [EN.out]
            exact this.drew
          · have := hP.1
            simp only [List.length_set]
            exact own_below this (Below.refl _ _).drew (Nat.le_refl _)
        · exact ((((hb1.mono hB).setCell (p := ⟨b, 3, none⟩) hbig _).setCell (p := ⟨b, 2, none⟩) hbig _).grown hP.2.1 (by have := hb1.size; simp; omega) (fun j hj => (HO2.out.lt j hj).1)).drew
      subst eW1
      exact main

end Go.Proofs.YtngokihncjkiaaaDoor
namespace Go.Proofs.YtngokihncjkiaaaDoor
open Go.RowKit
/-- Tickets from some on. -/
def tkt {α : Type} : Int → List (Int × α) → List (Int × α)
  | _, [] => []
  | t, x :: l => (t + 1, x.2) :: tkt (t + 1) l
theorem tkt_length {α : Type} : ∀ (t : Int) (l : List (Int × α)), (tkt t l).length = l.length
  | _, [] => rfl
  | t, x :: l => by simp [tkt, tkt_length (t + 1) l]
theorem tkt_snoc {α : Type} : ∀ (t : Int) (l : List (Int × α)) (x : Int × α), tkt t (l ++ [x]) = tkt t l ++ [(t + l.length + 1, x.2)]
  | t, [], x => by simp [tkt]
  | t, y :: l, x => by
    simp only [tkt, List.cons_append, tkt_snoc (t + 1) l x, List.length_cons]
    congr 3
    rw [show t + 1 + (l.length : Int) + 1 = t + ((l.length + 1 : Nat) : Int) + 1 by omega]
theorem tkt_map {α : Type} : ∀ (t : Int) (l : List (Int × α)), (tkt t l).map (·.2) = l.map (·.2)
  | _, [] => rfl
  | t, x :: l => by simp [tkt, tkt_map (t + 1) l]
def natJ : Value → Nat | .int _ z => z.toNat | _ => 0
/-- How many are poured. -/
def pourN {α : Type} (n m : Int) (L1 L2 : List (Int × α)) : Nat := (min (min (max n 0) L1.length) (max (m - L2.length) 0)).toNat
end Go.Proofs.YtngokihncjkiaaaDoor
namespace Go.Proofs.YtngokihncjkiaaaDoor
open Go.RowKit
attribute [local go_sem] Oper.semAt_some
abbrev tEQ : TypeId := 42
abbrev tEI : TypeId := 36
def itV (x : Int × Int) : List Value := [.int .i64 x.1, .int .i64 x.2]
theorem itV_length (x : Int × Int) : (itV x).length = 2 := rfl
theorem info_eitem : (Tryd.prog.info? tEI).map (fun i => (i.zero, i.size, i.bytes)) = some (some (.agg #[.int .i64 0, .int .i64 0]), 2, 16) := by kernel_rfl
theorem it_at {w : World} {A : Option Addr} {L : List (Int × Int)} (h : Cells w A (tab itV L)) {k : Nat} {x : Int × Int} (hx : L[k]? = some x) : ∃ g o : Nat, A = some ⟨g, o, none⟩ ∧ w.cell? ⟨g, o + k * 2, none⟩ = some (.int .i64 x.1) ∧ w.cell? ⟨g, o + k * 2 + 1, none⟩ = some (.int .i64 x.2) := by
  obtain ⟨g, o, e, hc⟩ := h.tab_at itV_length hx (by omega)
  exact ⟨g, o, e, hc 0 _ rfl, hc 1 _ rfl⟩
theorem tab_one (l : List (Int × Int)) : ∀ u ∈ tab itV l, u.oneCell' = true := by
  intro u hu
  simp only [tab, List.mem_flatMap] at hu
  obtain ⟨x, _, hx⟩ := hu
  simp [itV] at hx
  rcases hx with rfl | rfl <;> rfl
theorem tab_drop {α : Type} {f : α → List Value} {c : Nat} (hf : ∀ x, (f x).length = c) (l : List α) (m : Nat) : (tab f l).drop (m * c) = tab f (l.drop m) := by
  have h1 : tab f l = tab f (l.take m) ++ tab f (l.drop m) := by
    have h2 : tab f (l.take m ++ l.drop m) = tab f (l.take m) ++ tab f (l.drop m) := by simp only [tab, List.flatMap_append]
    rw [← h2, List.take_append_drop]
  by_cases hm : m ≤ l.length
  · rw [h1, List.drop_append_of_le_length (by rw [tab_length hf, List.length_take]; exact Nat.mul_le_mul_right _ (by omega)), List.drop_eq_nil_of_le (by rw [tab_length hf, List.length_take]; exact Nat.mul_le_mul_right _ (by omega)), List.nil_append]
  · rw [List.drop_eq_nil_of_le (by rw [tab_length hf]; exact Nat.mul_le_mul_right _ (by omega)), List.drop_eq_nil_of_le (by omega)]
    rfl
theorem tab_take {α : Type} {f : α → List Value} {c : Nat} (hf : ∀ x, (f x).length = c) (l : List α) (m : Nat) : (tab f l).take (m * c) = tab f (l.take m) := by
  have h1 : tab f l = tab f (l.take m) ++ tab f (l.drop m) := by
    have h2 : tab f (l.take m ++ l.drop m) = tab f (l.take m) ++ tab f (l.drop m) := by simp only [tab, List.flatMap_append]
    rw [← h2, List.take_append_drop]
  by_cases hm : m ≤ l.length
  · rw [h1, List.take_append_of_le_length (by rw [tab_length hf, List.length_take]; exact Nat.mul_le_mul_right _ (by omega)), List.take_of_length_le (by rw [tab_length hf, List.length_take]; exact Nat.mul_le_mul_right _ (by omega))]
  · rw [List.take_of_length_le (by rw [tab_length hf]; exact Nat.mul_le_mul_right _ (by omega)), List.take_of_length_le (by omega)]
structure EA (B : Nat) (w : World) (r : Nat) (F : Nat → Prop) (most : Int) (D : List (Int × Int)) : Prop where
  big : B ≤ r
  ex : ∃ A c, Rec w r tEQ #[.int .i64 most, .slice A D.length c] ∧ w.ownsRow B tEI 2 (.slice A D.length c) D.length (tab itV D) ∧ F = (fun k => k = r ∨ (Value.slice A D.length c).ownBlock = some k)
section
variable {B : Nat} {w w' : World} {r : Nat} {F : Nat → Prop} {most : Int} {D : List (Int × Int)}
theorem EA.is : IsO B (fun W F => EA B W r F most D) := by
  constructor
  · intro W W' F X h hk hX
    obtain ⟨A, c, h1, h2, h3⟩ := h.ex
    subst h3
    refine ⟨h.big, A, c, h1.kept hk (hX r (.inl rfl)), ⟨h2.1, ?_⟩, rfl⟩
    rcases h2.2 with h4 | ⟨g, cap, cur, hv, hg, hh, hr⟩
    · exact .inl h4
    · exact .inr ⟨g, cap, cur, hv, hg, (hk.block g (Array.getElem?_eq_some_iff.1 hh).1 (hX g (.inr (by rw [hv]; rfl)))).trans hh, hr⟩
  · intro W F k h hk
    obtain ⟨A, c, h1, h2, h3⟩ := h.ex
    subst h3
    rcases hk with rfl | hk
    · exact ⟨h.big, h1.lt⟩
    · exact h2.lt k hk
theorem EA.far (h : EA B w r F most D) (hb : Below w.heap.size w w') : EA B w' r F most D := (EA.is).far h hb
theorem EA.self (h : EA B w r F most D) : F r := by
  obtain ⟨A, c, h1, h2, h3⟩ := h.ex
  subst h3; exact .inl rfl
/-- What its cells read as. -/
theorem EA.cells (h : EA B w r F most D) : ∃ A c, w.cell? ⟨r, 0, none⟩ = some (.int .i64 most) ∧ w.cell? ⟨r, 1, none⟩ = some (.slice A D.length c) ∧ r < w.heap.size ∧ Cells w A (tab itV D) := by
  obtain ⟨A, c, h1, h2, h3⟩ := h.ex
  have q0 := Rec.cell h1 0
  have q1 := Rec.cell h1 1
  exact ⟨A, c, by simpa using q0, by simpa using q1, h1.lt, Cells.of_own h2⟩
end
def mostE (most : Int) : Int := if most < 0 then 0 else if 4096 < most then 4096 else most
set_option maxHeartbeats 1000000 in
theorem ENew_any (B : Nat) (most : Int) (w : World) (hB : B ≤ w.heap.size) :
    Calls Tryd.prog 7 #[.int .i64 most] w (fun e w' => ∃ r F, e = .returned (.pointer (some ⟨r, 0, none⟩)) ∧ EA B w' r F (mostE most) [] ∧ (∀ k, F k → w.heap.size ≤ k) ∧ Below w.heap.size w w') := by
  have HN := hid (show ∀ m, mostE most = m → ∀ w', w' = w.alloc (.cells #[.int .i64 m, .slice none 0 0] tEQ) → ∃ F, EA B w' w.heap.size F (mostE most) [] ∧ (∀ k, F k → w.heap.size ≤ k) ∧ Below w.heap.size w w' from by
    rintro m hm w' rfl
    refine ⟨_, ⟨hB, none, 0, by rw [hm]; exact Rec.new w _ _, World.ownsRow_nil _ _ _ _, rfl⟩, fun k hk => ?_, (Below.refl _ _).alloc (Nat.le_refl _) _⟩
    rcases hk with rfl | hk
    · exact Nat.le_refl _
    · simp [Value.ownBlock] at hk)
  have hcase : (most < 0) ∨ (¬ most < 0 ∧ 4096 < most) ∨ (¬ most < 0 ∧ ¬ 4096 < most) := by omega
  rcases hcase with h1 | ⟨h1, h2⟩ | ⟨h1, h2⟩
  all_goals
    go_enter Tryd.func7, Tryd.ntmps7
    go_wp2
    go_ret
    first
      | (obtain ⟨F, g1, g2, g3⟩ := HN.out 0 (by unfold mostE; omega) _ rfl
         first | exact ⟨_, rfl, F, g1, g2, g3⟩ | exact ⟨_, F, rfl, g1, g2, g3⟩)
      | (obtain ⟨F, g1, g2, g3⟩ := HN.out 4096 (by unfold mostE; omega) _ rfl
         first | exact ⟨_, rfl, F, g1, g2, g3⟩ | exact ⟨_, F, rfl, g1, g2, g3⟩)
      | (obtain ⟨F, g1, g2, g3⟩ := HN.out most (by unfold mostE; omega) _ rfl
         first | exact ⟨_, rfl, F, g1, g2, g3⟩ | exact ⟨_, F, rfl, g1, g2, g3⟩)
def cntD (D : List (Int × Int)) (i : Int) : Nat := D.countP (fun x => x.1 == i)
theorem cntD_le (D : List (Int × Int)) (i : Int) : cntD D i ≤ D.length := List.countP_le_length
theorem cntD_take (D : List (Int × Int)) (i : Int) {k : Nat} {x : Int × Int} (h : D[k]? = some x) : cntD (D.take (k + 1)) i = cntD (D.take k) i + (if x.1 = i then 1 else 0) := by
  obtain ⟨hk, rfl⟩ := List.getElem?_eq_some_iff.1 h
  unfold cntD
  rw [List.take_succ_eq_append_getElem hk, List.countP_append, List.countP_singleton]
  congr 1
  simp
def natE : Value → Nat | .int _ z => z.toNat | _ => 0
set_option maxHeartbeats 1000000 in
theorem ECount_any {B : Nat} {w : World} {r : Nat} {F : Nat → Prop} {most : Int} {D : List (Int × Int)} (h : EA B w r F most D) (hl : D.length ≤ 4096) (i : Int) :
    Calls Tryd.prog 30 #[.pointer (some ⟨r, 0, none⟩), .int .i64 i] w (Gives (.int .i64 (cntD D i : Int)) w) := by
  obtain ⟨A, c, q0, q1, hrl, hc⟩ := h.cells
  obtain ⟨n, en⟩ : ∃ n, D.length = n := ⟨_, rfl⟩
  have EN := hid en
  have HC := hid hc
  rw [en] at q1 hl
  clear h hc q0 en
  go_enter Tryd.func30, Tryd.ntmps30
  go_wp2
  go_loop [5, 6] (fun v u => ∃ k : Nat, v = .int .i64 (cntD (D.take k) i : Int) ∧ u = .int .i64 (k : Int) ∧ k ≤ n) (fun _ u => n - natE u)
  case atStart => exact ⟨0, rfl, rfl, by omega⟩
  case round =>
    obtain ⟨k, rfl, rfl, hk⟩ := hrel
    by_cases hlt : k < n
    · obtain ⟨x, hx⟩ : ∃ x, D[k]? = some x := ⟨_, List.getElem?_eq_getElem (by rw [EN.out]; exact hlt)⟩
      obtain ⟨g, o, rfl, c1, -⟩ := it_at HC.out hx
      have HX := hid (cntD_take D i hx)
      have hb : cntD (D.take k) i ≤ k := Nat.le_trans (cntD_le _ _) (by simp; omega)
      obtain ⟨m, em⟩ : ∃ m, cntD (D.take k) i = m := ⟨_, rfl⟩
      rw [em] at HX hb ⊢
      have e1 : IntKind.i64.wrap ((m : Int) + 1) = (m : Int) + 1 := by rw [IntKind.wrap_i64]; omega
      clear hx em
      by_cases he : x.1 = i
      · have d : (x.1 == i) = true := by simp [he]
        have HE := hid he
        clear he
        go_wp2_with fail
        go_round
        case rel => exact ⟨k + 1, by rw [HX.out, if_pos HE.out]; rfl, by go_num, by omega⟩
        case measure => simp [natE]; omega
      · have d : (x.1 == i) = false := by simp [he]
        have HE := hid he
        clear he
        go_wp2_with fail
        go_round
        case rel => exact ⟨k + 1, by rw [HX.out, if_neg HE.out]; rfl, by go_num, by omega⟩
        case measure => simp [natE]; omega
    · obtain rfl : k = n := by omega
      have hE : cntD (D.take k) i = cntD D i := by rw [List.take_of_length_le (Nat.le_of_eq EN.out)]
      rw [hE]
      clear hE
      go_wp2_with fail
      go_ret
      exact Gives.refl rfl
def insK (D : List (Int × Int)) (i : Int) : Nat := (D.takeWhile (fun x => decide (x.1 ≤ i))).length
def insD (D : List (Int × Int)) (i v : Int) : List (Int × Int) := D.take (insK D i) ++ (i, v) :: D.drop (insK D i)
theorem insK_spec (i : Int) : ∀ D : List (Int × Int), insK D i ≤ D.length ∧ (∀ (j : Nat) (x : Int × Int), j < insK D i → D[j]? = some x → x.1 ≤ i) ∧ ∀ x : Int × Int, D[insK D i]? = some x → ¬ x.1 ≤ i := by
  intro D
  induction D with
  | nil => exact ⟨Nat.le_refl _, fun j x h => absurd h (Nat.not_lt_zero _), fun x h => by simp at h⟩
  | cons y D ih =>
    obtain ⟨h1, h2, h3⟩ := ih
    by_cases hy : y.1 ≤ i
    · have e : insK (y :: D) i = insK D i + 1 := by unfold insK; rw [List.takeWhile_cons_of_pos (by simpa using hy)]; rfl
      rw [e]
      refine ⟨by simpa using h1, fun j x hj hx => ?_, fun x hx => h3 x (by simpa using hx)⟩
      cases j with
      | zero => simp at hx; rw [← hx]; exact hy
      | succ j => exact h2 j x (by omega) (by simpa using hx)
    · have e : insK (y :: D) i = 0 := by unfold insK; rw [List.takeWhile_cons_of_neg (by simpa using hy)]; rfl
      rw [e]
      exact ⟨Nat.zero_le _, fun j x h => absurd h (Nat.not_lt_zero _), fun x hx => by simp at hx; rw [← hx]; exact hy⟩
theorem insD_length (D : List (Int × Int)) (i v : Int) : (insD D i v).length = D.length + 1 := by
  have := (insK_spec i D).1
  unfold insD
  simp
  omega
end Go.Proofs.YtngokihncjkiaaaDoor
namespace Go.Proofs.YtngokihncjkiaaaDoor
open Go.RowKit
attribute [local go_sem] Oper.semAt_some
set_option maxRecDepth 100000 in
set_option maxHeartbeats 4000000 in
theorem EPushS {B : Nat} {w : World} {r : Nat} {F : Nat → Prop} {most : Int} {D : List (Int × Int)} {n k c g : Nat} (h : EA B w r F most D) (hB : B ≤ w.heap.size) (hl : D.length ≤ 4096) {i : Nat} (hi : i < 64) (hr : (cntD D i : Int) < most) (v : Int)
    (hrec : Rec w r tEQ #[.int .i64 most, .slice (some ⟨g, 0, none⟩) n c]) (hown : w.ownsRow B tEI 2 (.slice (some ⟨g, 0, none⟩) n c) n (tab itV D)) (en : D.length = n) (hcap : n ≤ c) (hk : insK D i = k) :
    Calls Tryd.prog 9 #[.pointer (some ⟨r, 0, none⟩), .int .i64 (i : Int), .int .i64 v] w (fun e w' => e = .returned (.int .i64 0) ∧ After (fun W F => EA B W r F most (insD D i v)) F w w') := by
  have H := hid h
  obtain ⟨j0, ji, jz0, jz1, jz2⟩ := info_parts info_eitem
  have HJ := hid ji
  have HIL := hid (insD_length D i v)
  have HTB := hid (show tab itV (insD D i v) = (tab itV (D.take k) ++ [.int .i64 (i : Int), .int .i64 v]) ++ tab itV (D.drop k) by
    unfold insD; rw [hk]; simp [tab, itV])
  obtain ⟨k1, k2, k3⟩ := insK_spec i D
  rw [hk] at k1 k2 k3
  rw [en] at k1 hl HIL
  have HK2 := hid k2
  have HK3 := hid k3
  have EN := hid en
  have HCNT := hid (fun y : Past => ECount_any (h.far (w.below_past y)) (by rw [en]; exact hl) (i : Int))
  obtain ⟨cn, ecn⟩ : ∃ cn, cntD D i = cn := ⟨_, rfl⟩
  rw [ecn] at HCNT hr
  have hge : ¬ most ≤ (cn : Int) := by omega
  have hi0 : ¬ (i : Int) < 0 := by omega
  have hi1 : ¬ 63 < (i : Int) := by omega
  have hkc : k ≤ c := Nat.le_trans k1 hcap
  have q0 := Rec.cell hrec 0
  simp at q0
  have hbl := hrec.lt
  have HREC := hid hrec
  have HOWN := hid hown
  have HLN := hid hl
  clear h hrec hown ecn k2 k3 en hk ji hr
  go_enter Tryd.func9, Tryd.ntmps9
  go_wp2_with fail
  refine wp_region_past (by kernel_rfl) (by kernel_rfl) ?_
  repeat (go_big_quiet_step ((first | (go_at_call 30; first | with_reducible exact Calls.in_past (HCNT.out _) | with_reducible exact Calls.in_past2 (HCNT.out _)) | (go_at_call 30; first | exact Calls.in_past (HCNT.out _) | exact Calls.in_past2 (HCNT.out _)))))
  refine wpQuiet_nil ?_
  rintro _ ⟨_, rfl⟩
  rename_i x3
  obtain ⟨w3, ew3⟩ : ∃ w3, w3 = w.past x3 := ⟨_, rfl⟩
  have hb3 : Below w.heap.size w w3 := by rw [ew3]; exact w.below_past x3
  have hs3 := hb3.size
  have hrec3 := HREC.out.below hb3 (Nat.le_refl _)
  have hown3 := own_below HOWN.out hb3 (Nat.le_refl _)
  have q1 := Rec.cell hrec3 1
  simp at q1
  have hbl3 := hrec3.lt
  have HB3 := hid hb3
  have HREC3 := hid hrec3
  have HOWN3 := hid hown3
  have HC3 := hid (Cells.of_own hown3)
  have HS3 := hid hs3
  rw [← ew3]
  clear ew3 hb3 hs3 hrec3 hown3 q0 hbl
  go_wp2_with fail
  go_loop [7] (fun u => ∃ j : Nat, u = .int .i64 (j : Int) ∧ j ≤ k) (fun u => k - natE u)
  case atStart => exact ⟨0, rfl, Nat.zero_le _⟩
  case round =>
    obtain ⟨j, rfl, hj⟩ := hrel
    by_cases hlt : j < k
    · ((obtain ⟨x, hx⟩ : ∃ x, D[j]? = some x := ⟨_, List.getElem?_eq_getElem (by rw [EN.out]; omega)⟩); (obtain ⟨g', o', e', c1, -⟩ := it_at HC3.out hx); (have hle := HK2.out j x hlt hx); (injection e' with e'; injection e' with e1' e2' _; subst e1'; subst e2'; rw [Nat.zero_add] at c1); clear hx; (have hjn : (j : Int) < n := by omega); go_wp2_with fail; go_round; (case rel => exact ⟨j + 1, by go_num, by omega⟩); (case measure => (simp [natE]; omega)))
    · obtain rfl : k = j := by omega
      obtain ⟨s, es⟩ : ∃ s, w3.heap.size = s := ⟨_, rfl⟩
      have ES := hid es
      have HT1 := hid (show (tab itV (D.take k)).length = k * 2 by rw [tab_length itV_length, List.length_take, Nat.min_eq_left (by have := EN.out; omega)])
      have HT2 := hid (show (tab itV (D.drop k)).length = (n - k) * 2 by rw [tab_length itV_length, List.length_drop, EN.out])
      have HM := hid (show k + 1 + (n - k) = n + 1 by omega)
      obtain ⟨V, eV⟩ : ∃ V, V = w3.alloc (.cells #[] tEI) := ⟨_, rfl⟩
      have hbV : Below w3.heap.size w3 V := by rw [eV]; exact (Below.refl _ w3).alloc (Nat.le_refl _) _
      have HLIT := hid (show V.ownsRow s tEI 2 (.slice (some ⟨s, 0, none⟩) 0 0) 0 [] from by
        have h5 := World.ownsRow_lit (base := s) (size := 2) (e := tEI) w3 #[] 0 (by omega) (by unfold maxLen; omega) rfl
        rw [es] at h5
        rw [eV]
        exact h5)
      have HC1 := hid (show Cells V (some ⟨g, 0, none⟩) (tab itV (D.take k)) from by
        rw [← tab_take itV_length]
        exact (Cells.of_own (own_below HOWN3.out hbV (Nat.le_refl _))).take _)
      have HBV := hid (show Below s w3 V by rw [← es]; exact hbV)
      have HN6 := hid (show ∀ (w6 : World) (A6 : Option Addr) (c6 : Nat), w6.ownsRow s tEI 2 (.slice A6 k c6) k ([] ++ tab itV (D.take k)) → V.grownBy w6 (Value.slice (some ⟨s, 0, none⟩) 0 0).ownBlock →
          Hid (w6.ownsRow s tEI 2 (.slice A6 k c6) k (tab itV (D.take k)) ∧ Below s w3 w6) ∧ s ≤ w6.heap.size from by
        intro w6 A6 c6 ho hg
        have hb6 : Below s w3 w6 := by
          refine Below.grown HBV.out hg (by have := HBV.out.size; omega) (fun k hk => ?_)
          simp only [Value.ownBlock, Option.some.injEq] at hk
          omega
        exact ⟨hid ⟨by simpa using ho, hb6⟩, by have := hb6.size; omega⟩)
      have HN7 := hid (show ∀ (w6 : World) (A6 : Option Addr) (c6 : Nat) (w7 : World) (g7 : Nat) (c7 : Nat), Hid (w6.ownsRow s tEI 2 (.slice A6 k c6) k (tab itV (D.take k)) ∧ Below s w3 w6) →
          w7.ownsRow s tEI 2 (.slice (some ⟨g7, 0, none⟩) (k + 1) c7) (k + 1) (tab itV (D.take k) ++ [.int .i64 (i : Int), .int .i64 v]) → w6.grownBy w7 (Value.slice A6 k c6).ownBlock →
          Hid (w7.ownsRow s tEI 2 (.slice (some ⟨g7, 0, none⟩) (k + 1) c7) (k + 1) (tab itV (D.take k) ++ [.int .i64 (i : Int), .int .i64 v]) ∧ Below s w3 w7 ∧ Cells w7 (if c = k then some ⟨g, 0, none⟩ else some ⟨g, k * 2, none⟩) (tab itV (D.drop k))) ∧ s ≤ w7.heap.size ∧ w7.cell? ⟨r, 1, none⟩ = some (.slice (some ⟨g, 0, none⟩) n c) from by
        intro w6 A6 c6 w7 g7 c7 h6 ho hg
        obtain ⟨o6, b6⟩ := h6.out
        have hb7 : Below s w3 w7 := b6.grown hg (by have := b6.size; omega) (fun k hk => (o6.lt k hk).1)
        have hr7 := HREC3.out.below hb7 (Nat.le_of_eq ES.out)
        refine ⟨hid ⟨ho, hb7, ?_⟩, by have := hb7.size; omega, by rw [Rec.cell hr7]; rfl⟩
        have hcl := Cells.of_own (own_below HOWN3.out hb7 (Nat.le_of_eq ES.out))
        by_cases hcj : c = k; (· rw [show D.drop k = [] from List.drop_eq_nil_of_le (by have := EN.out; omega)]; exact Cells.nil _ _); (· rw [if_neg hcj, ← tab_drop itV_length]; have := Cells.drop hcl (k * 2); rwa [Nat.zero_add] at this))
      have HN8 := hid (show ∀ (w7 : World) (A7 : Option Addr) (c7 : Nat) (w8 : World) (A8 : Option Addr) (c8 : Nat), w7.ownsRow s tEI 2 (.slice A7 (k + 1) c7) (k + 1) (tab itV (D.take k) ++ [.int .i64 (i : Int), .int .i64 v]) → Below s w3 w7 →
          w8.ownsRow s tEI 2 (.slice A8 (n + 1) c8) (n + 1) ((tab itV (D.take k) ++ [.int .i64 (i : Int), .int .i64 v]) ++ tab itV (D.drop k)) → w7.grownBy w8 (Value.slice A7 (k + 1) c7).ownBlock →
          Hid (w8.ownsRow s tEI 2 (.slice A8 (n + 1) c8) (n + 1) (tab itV (insD D i v)) ∧ Rec w8 r tEQ #[.int .i64 most, .slice (some ⟨g, 0, none⟩) n c] ∧ Below s w3 w8) ∧
          w8.cell? ⟨r, 1, none⟩ = some (.slice (some ⟨g, 0, none⟩) n c) ∧ w8.frozen? ⟨r, 1, none⟩ = false ∧ r < w8.heap.size from by
        intro w7 A7 c7 w8 A8 c8 o7 b7 ho hg
        have hb8 := b7.grown hg (by have := b7.size; omega) (fun k hk => (o7.lt k hk).1)
        have hr8 := HREC3.out.below hb8 (Nat.le_of_eq ES.out)
        exact ⟨hid ⟨by rw [HTB.out]; exact ho, hr8, hb8⟩, by rw [Rec.cell hr8]; rfl, Rec.frozen hr8 1, hr8.lt⟩)
      have EV := hid eV
      clear eV hbV es
      ((have hcs : (∃ x, D[k]? = some x ∧ (k : Int) < n) ∨ (¬ (k : Int) < n ∧ k < c) ∨ (¬ (k : Int) < n ∧ c ≤ k) := (by by_cases hkn : k < n; (exact .inl ⟨_, List.getElem?_eq_getElem (by rw [EN.out]; exact hkn), by omega⟩); (rcases Nat.lt_or_ge k c with g | g; (exact .inr (.inl ⟨by omega, g⟩)); (exact .inr (.inr ⟨by omega, g⟩))))); rcases hcs with ⟨x, hx, hkn⟩ | ⟨hkn, hkc2⟩ | ⟨hkn, hkc2⟩; (obtain ⟨g', o', e', c1, -⟩ := it_at HC3.out hx); (injection e' with e'; injection e' with e1' e2' _; subst e1'; subst e2'; rw [Nat.zero_add] at c1); (have hst := HK3.out x hx); clear hx)
      all_goals (
        go_wp2_with (first
          | (at_builtin; refine wpList_appB rfl (.tmp 44) (.tmp 50) 40 rfl tEI j0 (.agg #[.int .i64 0, .int .i64 0]) 2 16 Tryd.underlying40 HJ.out jz0 jz1 jz2 rfl (by decide) s ?_ (.slice (some ⟨s, 0, none⟩) 0 0) 0 [] ?_ ?_ (some ⟨g, 0, none⟩) k c (tab itV (D.take k)) ?_ ?_ ?_ ?_ ?_ ?_ ?_; (· have := ES.out; simp [go_sem]; omega); (· simp [go_sem, ES.out]); (· rw [← EV.out]; exact HLIT.out); (· rfl); (· exact HT1.out); (· rw [← EV.out]; exact HC1.out); (· exact tab_one _); (· have := HLN.out; unfold maxLen; omega); (· have := HLN.out; omega); intro w6 A6 c6 ho6 hg6 hap6; clear hap6; rw [Nat.zero_add] at ho6 ⊢; rw [← EV.out] at hg6; obtain ⟨H6, t6⟩ := HN6.out _ _ _ ho6 hg6; clear ho6 hg6)
          | (at_builtin; refine wpList_pushB rfl (.tmp 52) (.tmp 56) 40 rfl tEI j0 (.agg #[.int .i64 0, .int .i64 0]) 2 16 Tryd.underlying40 HJ.out jz0 jz1 jz2 rfl (by decide) s t6 (.slice A6 k c6) k (tab itV (D.take k)) ?_ H6.out.1 _ #[.int .i64 (i : Int), .int .i64 v] ?_ rfl rfl ?_ ?_ ?_ ?_; (· rfl); (· simp [go_sem]); (· simp [Value.oneCell']); (· omega); (· unfold maxLen; omega); intro w7 g7 c7 ho7 hg7 hap7; clear hap7; obtain ⟨H7, t7, r7⟩ := HN7.out _ _ _ _ _ _ H6 ho7 hg7; clear ho7 hg7)
          | (at_builtin; refine wpList_appB rfl (.tmp 59) (.tmp 65) 40 rfl tEI j0 (.agg #[.int .i64 0, .int .i64 0]) 2 16 Tryd.underlying40 HJ.out jz0 jz1 jz2 rfl (by decide) s t7 (.slice (some ⟨g7, 0, none⟩) (k + 1) c7) (k + 1) (tab itV (D.take k) ++ [.int .i64 (i : Int), .int .i64 v]) ?_ H7.out.1 (if c = k then some ⟨g, 0, none⟩ else some ⟨g, k * 2, none⟩) (n - k) (c - k) (tab itV (D.drop k)) ?_ ?_ ?_ ?_ ?_ ?_ ?_; (· rfl); (· rfl); (· exact HT2.out); (· exact H7.out.2.2); (· exact tab_one _); (· have := HLN.out; unfold maxLen; omega); (· have := HLN.out; omega); intro w8 A8 c8 ho8 hg8 hap8; clear hap8; rw [HM.out] at ho8 ⊢; obtain ⟨H8, r8, f8, l8⟩ := HN8.out _ _ _ _ _ _ H7.out.1 H7.out.2.1 ho8 hg8; clear ho8 hg8)
          | (at_builtin; refine wpList_appB rfl (.tmp 59) (.tmp 65) 40 rfl tEI j0 (.agg #[.int .i64 0, .int .i64 0]) 2 16 Tryd.underlying40 HJ.out jz0 jz1 jz2 rfl (by decide) s t7 (.slice (some ⟨g7, 0, none⟩) (k + 1) c7) (k + 1) (tab itV (D.take k) ++ [.int .i64 (i : Int), .int .i64 v]) ?_ H7.out.1 (some ⟨g, 0, none⟩) (n - k) 0 (tab itV (D.drop k)) ?_ ?_ ?_ ?_ ?_ ?_ ?_; (· rfl); (· rfl); (· exact HT2.out); (· (have := H7.out.2.2; rwa [if_pos (by omega)] at this)); (· exact tab_one _); (· have := HLN.out; unfold maxLen; omega); (· have := HLN.out; omega); intro w8 A8 c8 ho8 hg8 hap8; clear hap8; rw [HM.out] at ho8 ⊢; obtain ⟨H8, r8, f8, l8⟩ := HN8.out _ _ _ _ _ _ H7.out.1 H7.out.2.1 ho8 hg8; clear ho8 hg8)
          | (at_builtin; refine wpList_appB rfl (.tmp 59) (.tmp 65) 40 rfl tEI j0 (.agg #[.int .i64 0, .int .i64 0]) 2 16 Tryd.underlying40 HJ.out jz0 jz1 jz2 rfl (by decide) s t7 (.slice (some ⟨g7, 0, none⟩) (k + 1) c7) (k + 1) (tab itV (D.take k) ++ [.int .i64 (i : Int), .int .i64 v]) ?_ H7.out.1 (some ⟨g, k * 2, none⟩) (n - k) (c - k) (tab itV (D.drop k)) ?_ ?_ ?_ ?_ ?_ ?_ ?_; (· rfl); (· rfl); (· exact HT2.out); (· (have := H7.out.2.2; rwa [if_neg (by omega)] at this)); (· exact tab_one _); (· have := HLN.out; unfold maxLen; omega); (· have := HLN.out; omega); intro w8 A8 c8 ho8 hg8 hap8; clear hap8; rw [HM.out] at ho8 ⊢; obtain ⟨H8, r8, f8, l8⟩ := HN8.out _ _ _ _ _ _ H7.out.1 H7.out.2.1 ho8 hg8; clear ho8 hg8))
        obtain ⟨w9, ew9⟩ : ∃ w9, w9 = w8.setCell ⟨r, 1, none⟩ (.slice A8 (n + 1) c8) := ⟨_, rfl⟩
        obtain ⟨h81, h82, h83⟩ := H8.out
        have hr9 : Rec w9 r tEQ #[.int .i64 most, .slice A8 (n + 1) c8] := by rw [ew9]; have := h82.set 1 (.slice A8 (n + 1) c8); simpa using this
        have ho9 : w9.ownsRow s tEI 2 (.slice A8 (n + 1) c8) (n + 1) (tab itV (insD D i v)) := by rw [ew9]; exact own_setB h81 h82 (by decide) 1 _
        have hk9 : Kept F w w9 := by
          rw [ew9]
          exact ((Kept.of_below HB3.out F).trans (Kept.of_below (by rw [ES.out]; exact h83) F)).setCell (p := ⟨r, 1, none⟩) (.inr H.out.self) _
        rw [← ew9]
        go_ret
        have hws : w.heap.size ≤ s := by rw [← ES.out]; exact HS3.out
        refine ⟨rfl, _, ⟨H.out.big, A8, c8, by rw [HIL.out]; exact hr9, by rw [HIL.out]; exact own_base ho9 (Nat.le_trans hB hws), rfl⟩, ?_, hk9⟩
        rw [HIL.out]
        rintro q (rfl | e)
        · exact .inl H.out.self
        · exact .inr (Nat.le_trans hws (ho9.lt q e).1))

set_option maxRecDepth 100000 in
set_option maxHeartbeats 4000000 in
theorem EPushZ {B : Nat} {w : World} {r : Nat} {F : Nat → Prop} {most : Int} {D : List (Int × Int)}  (h : EA B w r F most D) (hB : B ≤ w.heap.size) (hl : D.length ≤ 4096) {i : Nat} (hi : i < 64) (hr : (cntD D i : Int) < most) (v : Int)
    (hrec : Rec w r tEQ #[.int .i64 most, .slice none 0 0]) (hown : w.ownsRow B tEI 2 (.slice none 0 0) 0 (tab itV D)) (en : D.length = 0) (hcap : 0 ≤ 0) (hk : insK D i = 0) :
    Calls Tryd.prog 9 #[.pointer (some ⟨r, 0, none⟩), .int .i64 (i : Int), .int .i64 v] w (fun e w' => e = .returned (.int .i64 0) ∧ After (fun W F => EA B W r F most (insD D i v)) F w w') := by
  have H := hid h
  obtain ⟨j0, ji, jz0, jz1, jz2⟩ := info_parts info_eitem
  have HJ := hid ji
  have HIL := hid (insD_length D i v)
  have HTB := hid (show tab itV (insD D i v) = (tab itV (D.take 0) ++ [.int .i64 (i : Int), .int .i64 v]) ++ tab itV (D.drop 0) by
    unfold insD; rw [hk]; simp [tab, itV])
  obtain ⟨k1, k2, k3⟩ := insK_spec i D
  rw [hk] at k1 k2 k3
  rw [en] at k1 hl HIL
  have HK2 := hid k2
  have HK3 := hid k3
  have EN := hid en
  have HCNT := hid (fun y : Past => ECount_any (h.far (w.below_past y)) (by rw [en]; exact hl) (i : Int))
  obtain ⟨cn, ecn⟩ : ∃ cn, cntD D i = cn := ⟨_, rfl⟩
  rw [ecn] at HCNT hr
  have hge : ¬ most ≤ (cn : Int) := by omega
  have hi0 : ¬ (i : Int) < 0 := by omega
  have hi1 : ¬ 63 < (i : Int) := by omega
  have hkc : 0 ≤ 0 := Nat.le_trans k1 hcap
  have q0 := Rec.cell hrec 0
  simp at q0
  have hbl := hrec.lt
  have HREC := hid hrec
  have HOWN := hid hown
  have HLN := hid hl
  clear h hrec hown ecn k2 k3 en hk ji hr
  go_enter Tryd.func9, Tryd.ntmps9
  go_wp2_with fail
  refine wp_region_past (by kernel_rfl) (by kernel_rfl) ?_
  repeat (go_big_quiet_step ((first | (go_at_call 30; first | with_reducible exact Calls.in_past (HCNT.out _) | with_reducible exact Calls.in_past2 (HCNT.out _)) | (go_at_call 30; first | exact Calls.in_past (HCNT.out _) | exact Calls.in_past2 (HCNT.out _)))))
  refine wpQuiet_nil ?_
  rintro _ ⟨_, rfl⟩
  rename_i x3
  obtain ⟨w3, ew3⟩ : ∃ w3, w3 = w.past x3 := ⟨_, rfl⟩
  have hb3 : Below w.heap.size w w3 := by rw [ew3]; exact w.below_past x3
  have hs3 := hb3.size
  have hrec3 := HREC.out.below hb3 (Nat.le_refl _)
  have hown3 := own_below HOWN.out hb3 (Nat.le_refl _)
  have q1 := Rec.cell hrec3 1
  simp at q1
  have hbl3 := hrec3.lt
  have HB3 := hid hb3
  have HREC3 := hid hrec3
  have HOWN3 := hid hown3
  have HC3 := hid (Cells.of_own hown3)
  have HS3 := hid hs3
  rw [← ew3]
  clear ew3 hb3 hs3 hrec3 hown3 q0 hbl
  go_wp2_with fail
  go_loop [7] (fun u => ∃ j : Nat, u = .int .i64 (j : Int) ∧ j ≤ 0) (fun u => 0 - natE u)
  case atStart => exact ⟨0, rfl, Nat.zero_le _⟩
  case round =>
    obtain ⟨j, rfl, hj⟩ := hrel
    by_cases hlt : j < 0
    · exact absurd hlt (Nat.not_lt_zero _)
    · obtain rfl : 0 = j := by omega
      obtain ⟨s, es⟩ : ∃ s, w3.heap.size = s := ⟨_, rfl⟩
      have ES := hid es
      have HT1 := hid (show (tab itV (D.take 0)).length = 0 * 2 by rw [tab_length itV_length, List.length_take, Nat.min_eq_left (by have := EN.out; omega)])
      have HT2 := hid (show (tab itV (D.drop 0)).length = (0 - 0) * 2 by rw [tab_length itV_length, List.length_drop, EN.out])
      have HM := hid (show 0 + 1 + (0 - 0) = 0 + 1 by omega)
      obtain ⟨V, eV⟩ : ∃ V, V = w3.alloc (.cells #[] tEI) := ⟨_, rfl⟩
      have hbV : Below w3.heap.size w3 V := by rw [eV]; exact (Below.refl _ w3).alloc (Nat.le_refl _) _
      have HLIT := hid (show V.ownsRow s tEI 2 (.slice (some ⟨s, 0, none⟩) 0 0) 0 [] from by
        have h5 := World.ownsRow_lit (base := s) (size := 2) (e := tEI) w3 #[] 0 (by omega) (by unfold maxLen; omega) rfl
        rw [es] at h5
        rw [eV]
        exact h5)
      have HC1 := hid (show Cells V none (tab itV (D.take 0)) from by
        rw [← tab_take itV_length]
        exact (Cells.of_own (own_below HOWN3.out hbV (Nat.le_refl _))).take _)
      have HBV := hid (show Below s w3 V by rw [← es]; exact hbV)
      have HN6 := hid (show ∀ (w6 : World) (A6 : Option Addr) (c6 : Nat), w6.ownsRow s tEI 2 (.slice A6 0 c6) 0 ([] ++ tab itV (D.take 0)) → V.grownBy w6 (Value.slice (some ⟨s, 0, none⟩) 0 0).ownBlock →
          Hid (w6.ownsRow s tEI 2 (.slice A6 0 c6) 0 (tab itV (D.take 0)) ∧ Below s w3 w6) ∧ s ≤ w6.heap.size from by
        intro w6 A6 c6 ho hg
        have hb6 : Below s w3 w6 := by
          refine Below.grown HBV.out hg (by have := HBV.out.size; omega) (fun k hk => ?_)
          simp only [Value.ownBlock, Option.some.injEq] at hk
          omega
        exact ⟨hid ⟨by simpa using ho, hb6⟩, by have := hb6.size; omega⟩)
      have HN7 := hid (show ∀ (w6 : World) (A6 : Option Addr) (c6 : Nat) (w7 : World) (g7 : Nat) (c7 : Nat), Hid (w6.ownsRow s tEI 2 (.slice A6 0 c6) 0 (tab itV (D.take 0)) ∧ Below s w3 w6) →
          w7.ownsRow s tEI 2 (.slice (some ⟨g7, 0, none⟩) (0 + 1) c7) (0 + 1) (tab itV (D.take 0) ++ [.int .i64 (i : Int), .int .i64 v]) → w6.grownBy w7 (Value.slice A6 0 c6).ownBlock →
          Hid (w7.ownsRow s tEI 2 (.slice (some ⟨g7, 0, none⟩) (0 + 1) c7) (0 + 1) (tab itV (D.take 0) ++ [.int .i64 (i : Int), .int .i64 v]) ∧ Below s w3 w7 ∧ Cells w7 none (tab itV (D.drop 0))) ∧ s ≤ w7.heap.size ∧ w7.cell? ⟨r, 1, none⟩ = some (.slice none 0 0) from by
        intro w6 A6 c6 w7 g7 c7 h6 ho hg
        obtain ⟨o6, b6⟩ := h6.out
        have hb7 : Below s w3 w7 := b6.grown hg (by have := b6.size; omega) (fun k hk => (o6.lt k hk).1)
        have hr7 := HREC3.out.below hb7 (Nat.le_of_eq ES.out)
        refine ⟨hid ⟨ho, hb7, ?_⟩, by have := hb7.size; omega, by rw [Rec.cell hr7]; rfl⟩
        have hcl := Cells.of_own (own_below HOWN3.out hb7 (Nat.le_of_eq ES.out))
        (rw [List.length_eq_zero_iff.1 EN.out]; exact Cells.nil _ _))
      have HN8 := hid (show ∀ (w7 : World) (A7 : Option Addr) (c7 : Nat) (w8 : World) (A8 : Option Addr) (c8 : Nat), w7.ownsRow s tEI 2 (.slice A7 (0 + 1) c7) (0 + 1) (tab itV (D.take 0) ++ [.int .i64 (i : Int), .int .i64 v]) → Below s w3 w7 →
          w8.ownsRow s tEI 2 (.slice A8 (0 + 1) c8) (0 + 1) ((tab itV (D.take 0) ++ [.int .i64 (i : Int), .int .i64 v]) ++ tab itV (D.drop 0)) → w7.grownBy w8 (Value.slice A7 (0 + 1) c7).ownBlock →
          Hid (w8.ownsRow s tEI 2 (.slice A8 (0 + 1) c8) (0 + 1) (tab itV (insD D i v)) ∧ Rec w8 r tEQ #[.int .i64 most, .slice none 0 0] ∧ Below s w3 w8) ∧
          w8.cell? ⟨r, 1, none⟩ = some (.slice none 0 0) ∧ w8.frozen? ⟨r, 1, none⟩ = false ∧ r < w8.heap.size from by
        intro w7 A7 c7 w8 A8 c8 o7 b7 ho hg
        have hb8 := b7.grown hg (by have := b7.size; omega) (fun k hk => (o7.lt k hk).1)
        have hr8 := HREC3.out.below hb8 (Nat.le_of_eq ES.out)
        exact ⟨hid ⟨by rw [HTB.out]; exact ho, hr8, hb8⟩, by rw [Rec.cell hr8]; rfl, Rec.frozen hr8 1, hr8.lt⟩)
      have EV := hid eV
      clear eV hbV es
      (have hkn' : ¬ (0 : Int) < 0 := by omega)
      all_goals (
        go_wp2_with (first
          | (at_builtin; refine wpList_appB rfl (.tmp 44) (.tmp 50) 40 rfl tEI j0 (.agg #[.int .i64 0, .int .i64 0]) 2 16 Tryd.underlying40 HJ.out jz0 jz1 jz2 rfl (by decide) s ?_ (.slice (some ⟨s, 0, none⟩) 0 0) 0 [] ?_ ?_ none 0 0 (tab itV (D.take 0)) ?_ ?_ ?_ ?_ ?_ ?_ ?_; (· have := ES.out; simp [go_sem]; omega); (· simp [go_sem, ES.out]); (· rw [← EV.out]; exact HLIT.out); (· rfl); (· exact HT1.out); (· rw [← EV.out]; exact HC1.out); (· exact tab_one _); (· have := HLN.out; unfold maxLen; omega); (· have := HLN.out; omega); intro w6 A6 c6 ho6 hg6 hap6; clear hap6; rw [Nat.zero_add] at ho6 ⊢; rw [← EV.out] at hg6; obtain ⟨H6, t6⟩ := HN6.out _ _ _ ho6 hg6; clear ho6 hg6)
          | (at_builtin; refine wpList_pushB rfl (.tmp 52) (.tmp 56) 40 rfl tEI j0 (.agg #[.int .i64 0, .int .i64 0]) 2 16 Tryd.underlying40 HJ.out jz0 jz1 jz2 rfl (by decide) s t6 (.slice A6 0 c6) 0 (tab itV (D.take 0)) ?_ H6.out.1 _ #[.int .i64 (i : Int), .int .i64 v] ?_ rfl rfl ?_ ?_ ?_ ?_; (· rfl); (· simp [go_sem]); (· simp [Value.oneCell']); (· omega); (· unfold maxLen; omega); intro w7 g7 c7 ho7 hg7 hap7; clear hap7; obtain ⟨H7, t7, r7⟩ := HN7.out _ _ _ _ _ _ H6 ho7 hg7; clear ho7 hg7)
          | (at_builtin; refine wpList_appB rfl (.tmp 59) (.tmp 65) 40 rfl tEI j0 (.agg #[.int .i64 0, .int .i64 0]) 2 16 Tryd.underlying40 HJ.out jz0 jz1 jz2 rfl (by decide) s t7 (.slice (some ⟨g7, 0, none⟩) (0 + 1) c7) (0 + 1) (tab itV (D.take 0) ++ [.int .i64 (i : Int), .int .i64 v]) ?_ H7.out.1 none (0 - 0) (0 - 0) (tab itV (D.drop 0)) ?_ ?_ ?_ ?_ ?_ ?_ ?_; (· rfl); (· rfl); (· exact HT2.out); (· exact H7.out.2.2); (· exact tab_one _); (· have := HLN.out; unfold maxLen; omega); (· have := HLN.out; omega); intro w8 A8 c8 ho8 hg8 hap8; clear hap8; rw [HM.out] at ho8 ⊢; obtain ⟨H8, r8, f8, l8⟩ := HN8.out _ _ _ _ _ _ H7.out.1 H7.out.2.1 ho8 hg8; clear ho8 hg8)
          | (at_builtin; refine wpList_appB rfl (.tmp 59) (.tmp 65) 40 rfl tEI j0 (.agg #[.int .i64 0, .int .i64 0]) 2 16 Tryd.underlying40 HJ.out jz0 jz1 jz2 rfl (by decide) s t7 (.slice (some ⟨g7, 0, none⟩) (0 + 1) c7) (0 + 1) (tab itV (D.take 0) ++ [.int .i64 (i : Int), .int .i64 v]) ?_ H7.out.1 none (0 - 0) 0 (tab itV (D.drop 0)) ?_ ?_ ?_ ?_ ?_ ?_ ?_; (· rfl); (· rfl); (· exact HT2.out); (· (exact H7.out.2.2)); (· exact tab_one _); (· have := HLN.out; unfold maxLen; omega); (· have := HLN.out; omega); intro w8 A8 c8 ho8 hg8 hap8; clear hap8; rw [HM.out] at ho8 ⊢; obtain ⟨H8, r8, f8, l8⟩ := HN8.out _ _ _ _ _ _ H7.out.1 H7.out.2.1 ho8 hg8; clear ho8 hg8)
          | (at_builtin; refine wpList_appB rfl (.tmp 59) (.tmp 65) 40 rfl tEI j0 (.agg #[.int .i64 0, .int .i64 0]) 2 16 Tryd.underlying40 HJ.out jz0 jz1 jz2 rfl (by decide) s t7 (.slice (some ⟨g7, 0, none⟩) (0 + 1) c7) (0 + 1) (tab itV (D.take 0) ++ [.int .i64 (i : Int), .int .i64 v]) ?_ H7.out.1 none (0 - 0) (0 - 0) (tab itV (D.drop 0)) ?_ ?_ ?_ ?_ ?_ ?_ ?_; (· rfl); (· rfl); (· exact HT2.out); (· (exact H7.out.2.2)); (· exact tab_one _); (· have := HLN.out; unfold maxLen; omega); (· have := HLN.out; omega); intro w8 A8 c8 ho8 hg8 hap8; clear hap8; rw [HM.out] at ho8 ⊢; obtain ⟨H8, r8, f8, l8⟩ := HN8.out _ _ _ _ _ _ H7.out.1 H7.out.2.1 ho8 hg8; clear ho8 hg8))
        obtain ⟨w9, ew9⟩ : ∃ w9, w9 = w8.setCell ⟨r, 1, none⟩ (.slice A8 (0 + 1) c8) := ⟨_, rfl⟩
        obtain ⟨h81, h82, h83⟩ := H8.out
        have hr9 : Rec w9 r tEQ #[.int .i64 most, .slice A8 (0 + 1) c8] := by rw [ew9]; have := h82.set 1 (.slice A8 (0 + 1) c8); simpa using this
        have ho9 : w9.ownsRow s tEI 2 (.slice A8 (0 + 1) c8) (0 + 1) (tab itV (insD D i v)) := by rw [ew9]; exact own_setB h81 h82 (by decide) 1 _
        have hk9 : Kept F w w9 := by
          rw [ew9]
          exact ((Kept.of_below HB3.out F).trans (Kept.of_below (by rw [ES.out]; exact h83) F)).setCell (p := ⟨r, 1, none⟩) (.inr H.out.self) _
        rw [← ew9]
        go_ret
        have hws : w.heap.size ≤ s := by rw [← ES.out]; exact HS3.out
        refine ⟨rfl, _, ⟨H.out.big, A8, c8, by rw [HIL.out]; exact hr9, by rw [HIL.out]; exact own_base ho9 (Nat.le_trans hB hws), rfl⟩, ?_, hk9⟩
        rw [HIL.out]
        rintro q (rfl | e)
        · exact .inl H.out.self
        · exact .inr (Nat.le_trans hws (ho9.lt q e).1))

end Go.Proofs.YtngokihncjkiaaaDoor
namespace Go.Proofs.YtngokihncjkiaaaDoor
open Go.RowKit
attribute [local go_sem] Oper.semAt_some
theorem EPush_any {B : Nat} {w : World} {r : Nat} {F : Nat → Prop} {most : Int} {D : List (Int × Int)} (h : EA B w r F most D) (hB : B ≤ w.heap.size) (hl : D.length ≤ 4096) {i : Nat} (hi : i < 64) (hr : (cntD D i : Int) < most) (v : Int) :
    Calls Tryd.prog 9 #[.pointer (some ⟨r, 0, none⟩), .int .i64 (i : Int), .int .i64 v] w (fun e w' => e = .returned (.int .i64 0) ∧ After (fun W F => EA B W r F most (insD D i v)) F w w') := by
  obtain ⟨A, c, hrec, hown, hF⟩ := h.ex
  have hcap := own_fits hown
  rcases hown.2 with ⟨hv, hx⟩ | ⟨g, cap, cur, hv, _⟩
  · injection hv with e1 e2 e3
    subst e1; subst e3
    rw [e2] at hrec hown
    exact EPushZ h hB hl hi hr v hrec hown e2 (Nat.le_refl _) (by have := (insK_spec i D).1; omega)
  · injection hv with e1 e2 e3
    subst e1
    exact EPushS h hB hl hi hr v hrec hown rfl hcap rfl
set_option maxHeartbeats 1000000 in
theorem EPushF_any {B : Nat} {w : World} {r : Nat} {F : Nat → Prop} {most : Int} {D : List (Int × Int)} (h : EA B w r F most D) (hl : D.length ≤ 4096) {i : Nat} (hi : i < 64) (hr : most ≤ (cntD D i : Int)) (v : Int) :
    Calls Tryd.prog 9 #[.pointer (some ⟨r, 0, none⟩), .int .i64 (i : Int), .int .i64 v] w (Gives (.int .i64 3) w) := by
  have HCNT := hid (fun y : Past => ECount_any (h.far (w.below_past y)) hl (i : Int))
  obtain ⟨A, c, q0, q1, hrl, hc⟩ := h.cells
  have hi0 : ¬ (i : Int) < 0 := by omega
  have hi1 : ¬ 63 < (i : Int) := by omega
  clear h hc q1
  go_enter Tryd.func9, Tryd.ntmps9
  go_wp2_with fail
  refine wp_region_past (by kernel_rfl) (by kernel_rfl) ?_
  repeat (go_big_quiet_step ((first | (go_at_call 30; first | with_reducible exact Calls.in_past (HCNT.out _) | with_reducible exact Calls.in_past2 (HCNT.out _)) | (go_at_call 30; first | exact Calls.in_past (HCNT.out _) | exact Calls.in_past2 (HCNT.out _)))))
  refine wpQuiet_nil ?_
  rintro _ ⟨_, rfl⟩
  go_wp2_with fail
  go_ret
  exact Gives.mk rfl (by (repeat (first | exact Below.refl _ _ | refine RowKit.Below.past ?_ _ | refine RowKit.Below.alloc' ?_ _ | refine RowKit.Below.drew' ?_ | refine RowKit.Below.drewN' ?_ _ | refine RowKit.Below.setCell' ?_ (by simp [go_sem]) _)))
theorem EPushN_any (r : Nat) (i v : Int) (hi : i < 0 ∨ 63 < i) (w : World) :
    Calls Tryd.prog 9 #[.pointer (some ⟨r, 0, none⟩), .int .i64 i, .int .i64 v] w (Gives (.int .i64 1) w) := by
  have hcase : i < 0 ∨ (¬ i < 0 ∧ 63 < i) := by omega
  rcases hcase with h1 | ⟨h1, h2⟩
  all_goals
    go_enter Tryd.func9, Tryd.ntmps9
    go_wp2
    go_ret
    exact Gives.refl rfl
set_option maxHeartbeats 1000000 in
theorem EPopZ_any {B : Nat} {w : World} {r : Nat} {F : Nat → Prop} {most : Int} (h : EA B w r F most []) :
    Calls Tryd.prog 12 #[.pointer (some ⟨r, 0, none⟩)] w (Gives (.tuple #[.agg #[.int .i64 0, .int .i64 0], .bool false]) w) := by
  obtain ⟨A, c, q0, q1, hrl, hc⟩ := h.cells
  simp at q1
  clear h hc q0
  go_enter Tryd.func12, Tryd.ntmps12
  go_wp2_with fail
  refine bodyPost_ret (v := .tuple #[.agg #[.int .i64 0, .int .i64 0], .bool false]) (by simp [results, Tryd.results12, go_sem]) rfl ?_
  exact Gives.mk rfl (by (repeat (first | exact Below.refl _ _ | refine RowKit.Below.past ?_ _ | refine RowKit.Below.alloc' ?_ _ | refine RowKit.Below.drew' ?_ | refine RowKit.Below.drewN' ?_ _ | refine RowKit.Below.setCell' ?_ (by simp [go_sem]) _)))
set_option maxRecDepth 100000 in
set_option maxHeartbeats 4000000 in
theorem EPop_any {B : Nat} {w : World} {r : Nat} {F : Nat → Prop} {most : Int} {x : Int × Int} {R : List (Int × Int)} (h : EA B w r F most (x :: R)) (hB : B ≤ w.heap.size) (hl : R.length ≤ 4096) :
    Calls Tryd.prog 12 #[.pointer (some ⟨r, 0, none⟩)] w (fun e w' => e = .returned (.tuple #[.agg #[.int .i64 x.1, .int .i64 x.2], .bool true]) ∧ After (fun W F => EA B W r F most R) F w w') := by
  have H := hid h
  obtain ⟨j0, ji, jz0, jz1, jz2⟩ := info_parts info_eitem
  have HJ := hid ji
  obtain ⟨A, c, hrec, hown, hF⟩ := h.ex
  have hcap := own_fits hown
  obtain ⟨g, cap, eA, hg⟩ := own_succ hown (by simp)
  cases eA
  obtain ⟨g', o', e', i0, i1⟩ := it_at (Cells.of_own hown) (k := 0) (x := x) rfl
  injection e' with e'
  injection e' with e1' e2' _
  subst e1'; subst e2'
  simp at i0 i1
  have q1 := Rec.cell hrec 1
  simp at q1
  have hbl := hrec.lt
  have hgl : g < w.heap.size := World.block_lt_of_cell? w _ i0
  obtain ⟨n, en⟩ : ∃ n, R.length = n := ⟨_, rfl⟩
  rw [List.length_cons, en] at hcap hrec hown
  rw [en] at q1 hl
  have EN := hid en
  have HREC := hid hrec
  have HOWN := hid hown
  have HLN := hid hl
  have HD := hid (show (x :: R).drop 1 = R from rfl)
  obtain ⟨s, es⟩ : ∃ s, w.heap.size = s := ⟨_, rfl⟩
  have ES := hid es
  obtain ⟨w4, ew4⟩ : ∃ w4, w4 = (w.alloc (.cells #[.int .i64 0, .int .i64 0] tEI)).alloc (.cells #[.int .i64 x.1, .int .i64 x.2] tEI) := ⟨_, rfl⟩
  have hb4 : Below w.heap.size w w4 := by rw [ew4]; exact ((Below.refl _ w).alloc (Nat.le_refl _) _).alloc (by simp) _
  have hs4 : w4.heap.size = s + 1 + 1 := by rw [ew4, ← es]; simp
  have hx0 : Rec w4 s tEI #[.int .i64 0, .int .i64 0] := by
    rw [ew4, ← es]
    have h1 := Rec.new w tEI #[.int .i64 0, .int .i64 0]
    exact h1.below ((Below.refl _ _).alloc (Nat.le_refl _) _) (Nat.le_refl _)
  have hx1 : Rec w4 (s + 1) tEI #[.int .i64 x.1, .int .i64 x.2] := by
    rw [ew4, ← es]
    have h1 := Rec.new (w.alloc (.cells #[.int .i64 0, .int .i64 0] tEI)) tEI #[.int .i64 x.1, .int .i64 x.2]
    simpa using h1
  have EW4 := hid ew4
  have HB4 := hid hb4
  have HS4 := hid hs4
  have HX0 := hid hx0
  have HX1 := hid hx1
  have hrec4 := hrec.below hb4 (Nat.le_refl _)
  have hown4 := own_below hown hb4 (Nat.le_refl _)
  have p1 := Rec.cell hrec4 1
  simp at p1
  have hbl4 := hrec4.lt
  obtain ⟨t, et⟩ : ∃ t, w4.heap.size = t := ⟨_, rfl⟩
  have ET := hid et
  have HST := hid (show t = s + 1 + 1 by rw [← et]; exact hs4)
  obtain ⟨V, eV⟩ : ∃ V, V = w4.alloc (.cells #[] tEI) := ⟨_, rfl⟩
  have hbV : Below w4.heap.size w4 V := by rw [eV]; exact (Below.refl _ w4).alloc (Nat.le_refl _) _
  have HBV := hid (show Below t w4 V by rw [← et]; exact hbV)
  have HLIT := hid (show V.ownsRow t tEI 2 (.slice (some ⟨t, 0, none⟩) 0 0) 0 [] from by
    have h5 := World.ownsRow_lit (base := t) (size := 2) (e := tEI) w4 #[] 0 (by omega) (by unfold maxLen; omega) rfl
    rw [et] at h5
    rw [eV]
    exact h5)
  have HC1 := hid (show Cells V (some ⟨g, 2, none⟩) (tab itV R) from by
    have := Cells.drop (Cells.of_own (own_below hown4 hbV (Nat.le_refl _))) (1 * 2)
    rw [tab_drop itV_length] at this
    simpa using this)
  have HC0 := hid (show c ≤ 1 → Cells V (some ⟨g, 0, none⟩) (tab itV R) from fun hc => by
    rw [List.length_eq_zero_iff.1 (show R.length = 0 by have := EN.out; omega)]
    exact Cells.nil _ _)
  have HT1 := hid (show (tab itV R).length = n * 2 by rw [tab_length itV_length, EN.out])
  have EV := hid eV
  have HREC4 := hid hrec4
  have HN6 := hid (show ∀ (w6 : World) (A6 : Option Addr) (c6 : Nat), w6.ownsRow t tEI 2 (.slice A6 n c6) n ([] ++ tab itV R) → V.grownBy w6 (Value.slice (some ⟨t, 0, none⟩) 0 0).ownBlock →
      Hid (w6.ownsRow t tEI 2 (.slice A6 n c6) n (tab itV R) ∧ Below t w4 w6 ∧ Rec w6 r tEQ #[.int .i64 most, .slice (some ⟨g, 0, none⟩) (n + 1) c]) ∧ w6.cell? ⟨r, 1, none⟩ = some (.slice (some ⟨g, 0, none⟩) (n + 1) c) ∧ w6.frozen? ⟨r, 1, none⟩ = false ∧ r < w6.heap.size from by
    intro w6 A6 c6 ho hg
    have hb6 : Below t w4 w6 := by
      refine Below.grown HBV.out hg (by have := HBV.out.size; have := ET.out; omega) (fun k hk => ?_)
      simp only [Value.ownBlock, Option.some.injEq] at hk
      omega
    have hr6 := HREC4.out.below hb6 (Nat.le_of_eq ET.out)
    exact ⟨hid ⟨by simpa using ho, hb6, hr6⟩, by rw [Rec.cell hr6]; rfl, Rec.frozen hr6 1, hr6.lt⟩)
  have HRS := hid (show r < s by omega)
  clear h hrec hown hF en ji hs4 hx0 hx1 hb4 ew4 hrec4 hown4 et hbV eV es
  have hc1 : c ≤ 1 ∨ 1 < c := by omega
  rcases hc1 with hc1 | hc1
  all_goals (
    go_enter Tryd.func12, Tryd.ntmps12
    go_upto_region 4 with (fail)
    rw [← EW4.out, ES.out]
    clear i0 i1 q1 hbl hgl
    go_upto_region 5 with (first
      | (at_builtin; refine wpList_appB rfl (.tmp 19) (.tmp 24) 40 rfl tEI j0 (.agg #[.int .i64 0, .int .i64 0]) 2 16 Tryd.underlying40 HJ.out jz0 jz1 jz2 rfl (by decide) t ?_ (.slice (some ⟨t, 0, none⟩) 0 0) 0 [] ?_ ?_ (some ⟨g, 2, none⟩) n (c - 1) (tab itV R) ?_ ?_ ?_ ?_ ?_ ?_ ?_; (· have := ET.out; simp [go_sem]; omega); (· simp [go_sem, ET.out]); (· rw [← EV.out]; exact HLIT.out); (· rfl); (· exact HT1.out); (· rw [← EV.out]; exact HC1.out); (· exact tab_one _); (· have := HLN.out; unfold maxLen; omega); (· have := HLN.out; omega); intro w6 A6 c6 ho6 hg6 hap6; clear hap6; rw [Nat.zero_add] at ho6 ⊢; rw [← EV.out] at hg6; obtain ⟨H6, r6, f6, l6⟩ := HN6.out _ _ _ ho6 hg6; clear ho6 hg6)
      | (at_builtin; refine wpList_appB rfl (.tmp 19) (.tmp 24) 40 rfl tEI j0 (.agg #[.int .i64 0, .int .i64 0]) 2 16 Tryd.underlying40 HJ.out jz0 jz1 jz2 rfl (by decide) t ?_ (.slice (some ⟨t, 0, none⟩) 0 0) 0 [] ?_ ?_ (some ⟨g, 0, none⟩) n 0 (tab itV R) ?_ ?_ ?_ ?_ ?_ ?_ ?_; (· have := ET.out; simp [go_sem]; omega); (· simp [go_sem, ET.out]); (· rw [← EV.out]; exact HLIT.out); (· rfl); (· exact HT1.out); (· rw [← EV.out]; exact HC0.out (by omega)); (· exact tab_one _); (· have := HLN.out; unfold maxLen; omega); (· have := HLN.out; omega); intro w6 A6 c6 ho6 hg6 hap6; clear hap6; rw [Nat.zero_add] at ho6 ⊢; rw [← EV.out] at hg6; obtain ⟨H6, r6, f6, l6⟩ := HN6.out _ _ _ ho6 hg6; clear ho6 hg6))
    obtain ⟨w9, ew9⟩ : ∃ w9, w9 = w6.setCell ⟨r, 1, none⟩ (.slice A6 n c6) := ⟨_, rfl⟩
    obtain ⟨h61, h62, h63⟩ := H6.out
    have hr9 : Rec w9 r tEQ #[.int .i64 most, .slice A6 n c6] := by rw [ew9]; have := h63.set 1 (.slice A6 n c6); simpa using this
    have ho9 : w9.ownsRow t tEI 2 (.slice A6 n c6) n (tab itV R) := by rw [ew9]; exact own_setB h61 h63 (by decide) 1 _
    have hk9 : Kept F w w9 := by
      rw [ew9]
      exact ((Kept.of_below HB4.out F).trans (Kept.of_below (by rw [ET.out]; exact h62) F)).setCell (p := ⟨r, 1, none⟩) (.inr H.out.self) _
    have hst := HST.out
    have hrs := HRS.out
    have hy0 : Rec w9 s tEI #[.int .i64 0, .int .i64 0] := by rw [ew9]; exact (Below.heap_setCell _ ⟨r, 1, none⟩ _ s (by simp; omega)).trans (HX0.out.below h62 (Nat.le_of_eq ET.out))
    have hy1 : Rec w9 (s + 1) tEI #[.int .i64 x.1, .int .i64 x.2] := by rw [ew9]; exact (Below.heap_setCell _ ⟨r, 1, none⟩ _ (s + 1) (by simp; omega)).trans (HX1.out.below h62 (Nat.le_of_eq ET.out))
    have HR9 := hid hr9
    have HO9 := hid ho9
    have HK9 := hid hk9
    have HY0 := hid hy0
    have a0 := Rec.cell hy0 0
    have a1 := Rec.cell hy0 1
    have af := Rec.frozen hy0 0
    have af1 := Rec.frozen hy0 1
    have c0 := Rec.cell hy1 0
    have c1 := Rec.cell hy1 1
    have al := hy0.lt
    have cl := hy1.lt
    simp at a0 a1 c0 c1
    rw [← ew9]
    clear ew9 h61 h62 h63 hr9 ho9 hk9 hst hrs hy0 hy1 r6 f6 l6
    go_wp2_with fail
    obtain ⟨w10, ew10⟩ : ∃ w10, w10 = (w9.setCell ⟨s, 0, none⟩ (.int .i64 x.1)).setCell ⟨s, 1, none⟩ (.int .i64 x.2) := ⟨_, rfl⟩
    have hz : Rec w10 s tEI #[.int .i64 x.1, .int .i64 x.2] := by rw [ew10]; have := (HY0.out.set 0 (.int .i64 x.1)).set 1 (.int .i64 x.2); simpa using this
    have z0 := Rec.cell hz 0
    have z1 := Rec.cell hz 1
    simp at z0 z1
    have hk10 : Kept (fun k => k = s) w9 w10 := by rw [ew10]; exact (((Kept.refl (fun k => k = s) w9).setCell (p := ⟨s, 0, none⟩) (.inr (show s = s from rfl)) _)).setCell (p := ⟨s, 1, none⟩) (.inr (show s = s from rfl)) _
    rw [← ew10]
    refine bodyPost_ret (v := .tuple #[.agg #[.int .i64 x.1, .int .i64 x.2], .bool true]) (by simp [results, Tryd.results12, go_sem, z0, z1]) rfl ?_
    have hst := HST.out
    have hrs := HRS.out
    have hws := ES.out
    have hE9 : EA B w9 r (fun k => k = r ∨ (Value.slice A6 n c6).ownBlock = some k) most R := ⟨H.out.big, A6, c6, by rw [EN.out]; exact HR9.out, by rw [EN.out]; exact own_base HO9.out (by omega), by rw [EN.out]⟩
    have hF9 : ∀ k, (k = r ∨ (Value.slice A6 n c6).ownBlock = some k) → k = r ∨ t ≤ k := fun k hk => hk.imp id (fun e => (HO9.out.lt k e).1)
    refine ⟨rfl, _, (EA.is).kept hE9 hk10 (fun k hk e => ?_), fun k hk => ?_, HK9.out.trans' hk10 (fun k hk hF => ?_)⟩
    · rcases hF9 k hk with e' | e' <;> omega
    · rcases hF9 k hk with e' | e'
      · exact .inl (by rw [e']; exact H.out.self)
      · exact .inr (by omega)
    · omega)
end Go.Proofs.YtngokihncjkiaaaDoor
namespace Go.Proofs.YtngokihncjkiaaaDoor
open Go.RowKit
attribute [local go_sem] Oper.semAt_some
set_option maxRecDepth 100000 in
set_option maxHeartbeats 4000000 in
theorem ETake_any {B : Nat} {w : World} {r : Nat} {F : Nat → Prop} {most : Int} {D : List (Int × Int)} (h : EA B w r F most D) (hB : B ≤ w.heap.size) (hl : D.length ≤ 4096) {lv : Int} {i : Nat} {x : Int × Int} (hx : D[i]? = some x) (hxl : x.1 = lv) (hb : ∀ (j : Nat) (y : Int × Int), j < i → D[j]? = some y → y.1 ≠ lv) :
    Calls Tryd.prog 34 #[.pointer (some ⟨r, 0, none⟩), .int .i64 lv] w (fun e w' => e = .returned (.tuple #[.int .i64 x.2, .bool true]) ∧ After (fun W F => EA B W r F most (D.eraseIdx i)) F w w') := by
  have H := hid h
  obtain ⟨j0, ji, jz0, jz1, jz2⟩ := info_parts info_eitem
  have HJ := hid ji
  obtain ⟨hi, hxe⟩ := List.getElem?_eq_some_iff.1 hx
  obtain ⟨A, c, hrec, hown, hF⟩ := h.ex
  have hcap := own_fits hown
  obtain ⟨g, cap, eA, hg⟩ := own_succ hown (by omega)
  cases eA
  have HC0 := hid (Cells.of_own hown)
  have i1 := (it_at (Cells.of_own hown) hx)
  obtain ⟨g', o', e', i0, i1⟩ := i1
  injection e' with e'
  injection e' with e1' e2' _
  subst e1'; subst e2'
  rw [Nat.zero_add] at i0 i1
  obtain ⟨n, en⟩ : ∃ n, D.length = n := ⟨_, rfl⟩
  have EN := hid en
  have q2 := Rec.cell hrec 1
  have f2 := Rec.frozen hrec 1
  simp at q2
  rw [en] at q2 hi hl hcap hrec hown hF
  have hbl := hrec.lt
  have hgl : g < w.heap.size := World.block_lt_of_cell? w _ i0
  obtain ⟨s, es⟩ : ∃ s, w.heap.size = s := ⟨_, rfl⟩
  have ES := hid es
  rw [es] at hbl hgl
  have hil : (i : Int) < n := by omega
  have e1 : IntKind.i64.wrap ((i : Int) + 1) = ((i + 1 : Nat) : Int) := by rw [IntKind.wrap_i64] <;> omega
  obtain ⟨j, ej⟩ : ∃ j, i + 1 = j := ⟨_, rfl⟩
  rw [ej] at e1
  have hjn : j ≤ n := by omega
  have hic : i ≤ c := by omega
  have hin : i ≤ n := by omega
  have EJ := hid ej
  have HLN := hid hl
  have HM := hid (show i + (n - j) = n - 1 by have := EJ.out; omega)
  have HT1 := hid (show (tab itV (D.take i)).length = i * 2 by rw [tab_length itV_length, List.length_take]; congr 1; have := EN.out; omega)
  have HT2 := hid (show (tab itV (D.drop j)).length = (n - j) * 2 by rw [tab_length itV_length, List.length_drop]; congr 1; have := EN.out; omega)
  obtain ⟨V, eV⟩ : ∃ V, V = (w.alloc (.cells #[] tEI)).drew := ⟨_, rfl⟩
  have hbV : Below w.heap.size w V := by rw [eV]; exact ((Below.refl _ w).alloc (Nat.le_refl _) _).drew
  have HLIT := hid (show V.ownsRow s tEI 2 (.slice (some ⟨s, 0, none⟩) 0 0) 0 [] from by
    have h5 := World.ownsRow_lit (base := s) (size := 2) (e := tEI) w #[] 0 (by omega) (by unfold maxLen; omega) rfl
    rw [es] at h5
    rw [eV]
    exact h5.drew)
  have hownV := own_below hown hbV (Nat.le_refl _)
  have hrecV := hrec.below hbV (Nat.le_refl _)
  have HC1 := hid (show Cells V (some ⟨g, 0, none⟩) (tab itV (D.take i)) from by
    rw [← tab_take itV_length]
    exact (Cells.of_own hownV).take _)
  have hbs : r ≠ s := by omega
  have hgs : g ≠ s := by omega
  have HN6 := hid (show ∀ (w6 : World) (A6 : Option Addr) (c6 : Nat), w6.ownsRow s tEI 2 (.slice A6 i c6) i ([] ++ tab itV (D.take i)) → V.grownBy w6 (Value.slice (some ⟨s, 0, none⟩) 0 0).ownBlock →
      Hid (w6.ownsRow s tEI 2 (.slice A6 i c6) i (tab itV (D.take i)) ∧ Rec w6 r tEQ #[.int .i64 most, .slice (some ⟨g, 0, none⟩) n c] ∧ Cells w6 (some ⟨g, j * 2, none⟩) (tab itV (D.drop j)) ∧ Below s w w6) ∧
      w6.cell? ⟨r, 1, none⟩ = some (.slice (some ⟨g, 0, none⟩) n c) ∧ w6.frozen? ⟨r, 1, none⟩ = false ∧ r < w6.heap.size ∧ s ≤ w6.heap.size from by
    intro w6 A6 c6 ho hg
    have hr6 : Rec w6 r tEQ #[.int .i64 most, .slice (some ⟨g, 0, none⟩) n c] := (hg.block r hrecV.lt (by simp [Value.ownBlock]; omega)).trans hrecV
    have hb6 : Below s w w6 := by
      refine Below.grown (by rw [← es]; exact hbV) hg (by have := hbV.size; omega) (fun k hk => ?_)
      simp only [Value.ownBlock, Option.some.injEq] at hk
      omega
    have hcl := Cells.drop (Cells.of_own (own_apart hownV hg (.inr (.inr (by simp [Value.ownBlock]; omega))))) (j * 2)
    rw [tab_drop itV_length, Nat.zero_add] at hcl
    exact ⟨hid ⟨by simpa using ho, hr6, hcl, hb6⟩, by rw [Rec.cell hr6]; rfl, Rec.frozen hr6 1, hr6.lt, by have := hb6.size; omega⟩)
  have HN8 := hid (show ∀ (w6 : World) (A6 : Option Addr) (c6 : Nat) (w8 : World) (A8 : Option Addr) (c8 : Nat), Hid (w6.ownsRow s tEI 2 (.slice A6 i c6) i (tab itV (D.take i)) ∧ Rec w6 r tEQ #[.int .i64 most, .slice (some ⟨g, 0, none⟩) n c] ∧ Cells w6 (some ⟨g, j * 2, none⟩) (tab itV (D.drop j)) ∧ Below s w w6) →
      w8.ownsRow s tEI 2 (.slice A8 (n - 1) c8) (n - 1) (tab itV (D.take i) ++ tab itV (D.drop j)) → w6.grownBy w8 (Value.slice A6 i c6).ownBlock →
      Hid (w8.ownsRow s tEI 2 (.slice A8 (n - 1) c8) (n - 1) (tab itV (D.eraseIdx i)) ∧ Rec w8 r tEQ #[.int .i64 most, .slice (some ⟨g, 0, none⟩) n c] ∧ Below s w w8) ∧
      w8.cell? ⟨r, 1, none⟩ = some (.slice (some ⟨g, 0, none⟩) n c) ∧ w8.frozen? ⟨r, 1, none⟩ = false ∧ r < w8.heap.size from by
    intro w6 A6 c6 w8 A8 c8 h6 ho hg
    obtain ⟨o6, r6, -, b6⟩ := h6.out
    have hr8 := Rec.grown r6 o6 hg (by decide)
    have hb8 := b6.grown hg (by have := b6.size; omega) (fun k hk => (o6.lt k hk).1)
    refine ⟨hid ⟨?_, hr8, hb8⟩, by rw [Rec.cell hr8]; rfl, Rec.frozen hr8 1, hr8.lt⟩
    have e : tab itV (D.take i) ++ tab itV (D.drop j) = tab itV (D.eraseIdx i) := by
      have h2 : tab itV (D.take i ++ D.drop j) = tab itV (D.take i) ++ tab itV (D.drop j) := by simp only [tab, List.flatMap_append]
      rw [← h2, List.eraseIdx_eq_take_drop_succ, EJ.out]
    rw [← e]; exact ho)
  have HC2 := hid (show ∀ w6 : World, Cells w6 (some ⟨g, j * 2, none⟩) (tab itV (D.drop j)) → Cells w6 (if c = j then some ⟨g, 0, none⟩ else some ⟨g, j * 2, none⟩) (tab itV (D.drop j)) from fun w6 h => by
    by_cases hcj : c = j
    · rw [show D.drop j = [] from List.drop_eq_nil_of_le (by have := EN.out; omega)]
      exact Cells.nil _ _
    · rw [if_neg hcj]; exact h)
  have HF := hid hF
  have EV := hid eV
  have HE := hid (show (D.eraseIdx i).length = n - 1 by rw [List.length_eraseIdx_of_lt (by rw [EN.out]; exact hi), EN.out])
  have HBB := hid hb
  have d1 : (x.1 == lv) = true := by simp [hxl]
  obtain ⟨xl, exl⟩ : ∃ xl, x.1 = xl := ⟨_, rfl⟩
  rw [exl] at i0 d1
  have HGL := hid hgl
  clear h hx hrec hown hF eV hbV hownV hrecV en hxe ej ji hb hxl exl
  go_enter Tryd.func34, Tryd.ntmps34
  go_wp2_with fail
  go_loop [6] (fun u => ∃ k : Nat, u = .int .i64 (k : Int) ∧ k ≤ i) (fun u => i - natE u)
  case atStart => exact ⟨0, rfl, Nat.zero_le _⟩
  case round =>
    obtain ⟨k, rfl, hk⟩ := hrel
    by_cases hlt : k < i
    · obtain ⟨y, hy⟩ : ∃ y, D[k]? = some y := ⟨_, List.getElem?_eq_getElem (by rw [EN.out]; omega)⟩
      obtain ⟨g', o', e', y0, -⟩ := it_at HC0.out hy
      injection e' with e'
      injection e' with e1' e2' _
      subst e1'; subst e2'
      rw [Nat.zero_add] at y0
      have hne := HBB.out k y hlt hy
      have d : (y.1 == lv) = false := by simpa using hne
      have hkn : (k : Int) < n := by omega
      clear hne hy i0 i1
      go_wp2_with fail
      go_round
      case rel => exact ⟨k + 1, by go_num, by omega⟩
      case measure => simp [natE]; omega
    · obtain rfl : i = k := by omega
      go_upto_region 6 with (fail)
      clear i1 i0
      go_region_law (first | (refine step_appB rfl (.tmp 36) (.tmp 42) 40 rfl tEI j0 (.agg #[.int .i64 0, .int .i64 0]) 2 16 Tryd.underlying40 HJ.out jz0 jz1 jz2 rfl (by decide) s ?_ (.slice (some ⟨s, 0, none⟩) 0 0) 0 [] ?_ ?_ (some ⟨g, 0, none⟩) i c (tab itV (D.take i)) ?_ ?_ ?_ ?_ ?_ ?_ ?_; (· simp [go_sem]; omega); (· simp [go_sem, ES.out]); (· rw [← EV.out]; exact HLIT.out); (· rfl); (· exact HT1.out); (· rw [← EV.out]; exact HC1.out); (· exact tab_one _); (· have := HLN.out; unfold maxLen; omega); (· have := HLN.out; omega); intro w6 A6 c6 ho6 hg6 hap6; clear hap6; rw [Nat.zero_add] at ho6 ⊢; rw [← EV.out] at hg6; obtain ⟨H6, r6, f6, l6, t6⟩ := HN6.out _ _ _ ho6 hg6; clear ho6 hg6) | (refine step_appB rfl (.tmp 43) (.tmp 50) 40 rfl tEI j0 (.agg #[.int .i64 0, .int .i64 0]) 2 16 Tryd.underlying40 HJ.out jz0 jz1 jz2 rfl (by decide) s t6 (.slice A6 i c6) i (tab itV (D.take i)) ?_ H6.out.1 (if c = j then some ⟨g, 0, none⟩ else some ⟨g, j * 2, none⟩) (n - j) (c - j) (tab itV (D.drop j)) ?_ ?_ ?_ ?_ ?_ ?_ ?_; (· rfl); (· rfl); (· exact HT2.out); (· exact HC2.out _ H6.out.2.2.1); (· exact tab_one _); (· have := HLN.out; unfold maxLen; omega); (· have := HLN.out; omega); intro w8 A8 c8 ho8 hg8 hap8; clear hap8; rw [HM.out] at ho8 ⊢; obtain ⟨H8, r8, f8, l8⟩ := HN8.out _ _ _ _ _ _ H6 ho8 hg8; clear ho8 hg8))
      all_goals (
        obtain ⟨w9, ew9⟩ : ∃ w9, w9 = w8.setCell ⟨r, 1, none⟩ (.slice A8 (n - 1) c8) := ⟨_, rfl⟩
        obtain ⟨h81, h82, h83⟩ := H8.out
        have hr9 : Rec w9 r tEQ #[.int .i64 most, .slice A8 (n - 1) c8] := by rw [ew9]; have := h82.set 1 (.slice A8 (n - 1) c8); simpa using this
        have ho9 : w9.ownsRow s tEI 2 (.slice A8 (n - 1) c8) (n - 1) (tab itV (D.eraseIdx i)) := by rw [ew9]; exact own_setB h81 h82 (by decide) 1 _
        have hk9 : Kept F w w9 := by
          rw [ew9]
          exact (Kept.of_below (by rw [ES.out]; exact h83) F).setCell (p := ⟨r, 1, none⟩) (.inr H.out.self) _
        have HR9 := hid hr9
        have HO9 := hid ho9
        have HK9 := hid hk9
        rw [← ew9]
        clear ew9 h81 h82 h83 hr9 ho9 hk9 r6 f6 l6 t6 r8 f8 l8 e1
        go_wp2_with fail
        all_goals (
          go_ret2
          refine ⟨rfl, _, ⟨H.out.big, A8, c8, by rw [HE.out]; exact HR9.out, by rw [HE.out]; exact own_base HO9.out (by omega), rfl⟩, ?_, HK9.out⟩
          rw [HE.out]
          rintro k (rfl | e)
          · exact .inl H.out.self
          · have := (HO9.out.lt k e).1
            exact .inr (by rw [ES.out]; exact this)))
end Go.Proofs.YtngokihncjkiaaaDoor
