/-
  Layer 33: a set beside the document's: what stays of the one where the other is written. No condition.
-/
import Derived.Test.YtjihhpipdhhjkaaSpAll
import Derived.Test.YtjihhpipdhhjkaaSpU
import Derived.Test.YtjihhpipdhhjkaaTabSet
namespace Go.Proofs.Ytjihhpipdhhjkaa
open Go.RowKit
theorem Kept.toT {b : Nat} {w w' : World} (h : Kept (fun k => k = b) w w') : KeptT b (fun _ => False) w w' :=
  ⟨h.os, h.tape, h.output, h.size, fun k _ _ hk hn _ => h.block k (Array.getElem?_eq_some_iff.1 hk).1 hn⟩
theorem SpAt.keptR {B : Nat} {w w' : World} {b d : Nat} {l : List (Int × Int)} {f : Int → Bool} (h : SpAt B w b l) (hd : RfAt w d f) (hk : Kept (fun k => k = d) w w') (hn : b ≠ d) : SpAt B w' b l := by
  obtain ⟨A, c, h1, h2⟩ := h.ex
  obtain ⟨cs, g1, _⟩ := hd.ex
  exact ⟨h.big, h.len, A, c, h1.kept hk hn, own_keptT h2 (Kept.toT hk) g1 (by decide) (fun h => h)⟩
/-- Both sets, and the deed that is done. -/
structure St (B b d X : Nat) (D : Dd) (w1 : World) (W : World) (L : List (Int × Int)) (f : Int → Bool) : Prop where
  sp : SpAt B W b L
  rf : RfAt W d f
  box : Rec W X 28 (ddV D).toArray
  below : Below B w1 W
  bd : b ≠ d
  dB : B ≤ d
  bX : X ≠ b
  dX : X ≠ d
  sz : B ≤ w1.heap.size
section
variable {B b d X : Nat} {D : Dd} {w1 W W' : World} {L L' : List (Int × Int)} {f f' : Int → Bool}
theorem St.far (h : St B b d X D w1 W L f) (hb : Below W.heap.size W W') : St B b d X D w1 W' L f :=
  ⟨h.sp.far hb, h.rf.far hb, h.box.below hb (Nat.le_refl _), h.below.trans (hb.mono (by have := h.below.size; have := h.sz; omega)), h.bd, h.dB, h.bX, h.dX, h.sz⟩
theorem St.cells (h : St B b d X D w1 W L f) : W.cell? ⟨X, 0, none⟩ = some (.int .u8 D.k) ∧ W.cell? ⟨X, 1, none⟩ = some (.int .i64 D.a) ∧ W.cell? ⟨X, 2, none⟩ = some (.int .i64 D.b) :=
  ⟨Rec.cell h.box 0, Rec.cell h.box 1, Rec.cell h.box 2⟩
theorem St.one (h : St B b d X D w1 W L f) (hs : SpAt B W' b L') (hk : Kept (fun k => k = b) W W') (hb : Below B W W') : St B b d X D w1 W' L' f :=
  ⟨hs, h.rf.kept hk (fun e => h.bd e.symm), h.box.kept hk h.bX, h.below.trans hb, h.bd, h.dB, h.bX, h.dX, h.sz⟩
theorem St.two (h : St B b d X D w1 W L f) (hr : RfAt W' d f') (hk : Kept (fun k => k = d) W W') : St B b d X D w1 W' L f' :=
  ⟨h.sp.keptR h.rf hk h.bd, hr, h.box.kept hk h.dX, hk.to_below h.below (by have := h.below.size; have := h.sz; omega) (by rintro k rfl; exact h.dB), h.bd, h.dB, h.bX, h.dX, h.sz⟩
theorem St.add (h : St B b d X D w1 W L f) (hl : (addL L D.a D.b).length ≤ 100000) : Calls Try.prog 9 #[.pointer (some ⟨b, 0, none⟩), .int .i64 D.a, .int .i64 D.b] W (fun e W' => e = .returned (.bool (ltV D.a D.b)) ∧ St B b d X D w1 W' (addL L D.a D.b) f) :=
  (Add_any h.sp D.a D.b hl).mono fun _ _ q => ⟨q.1, h.one q.2.1 q.2.2.2 q.2.2.1⟩
theorem St.cut (h : St B b d X D w1 W L f) (hl : (cutL L D.a D.b).length ≤ 100000) : Calls Try.prog 13 #[.pointer (some ⟨b, 0, none⟩), .int .i64 D.a, .int .i64 D.b] W (fun e W' => e = .returned (.bool (ltV D.a D.b)) ∧ St B b d X D w1 W' (cutL L D.a D.b) f) :=
  (Cut_any h.sp D.a D.b hl).mono fun _ _ q => ⟨q.1, h.one q.2.1 q.2.2.2 q.2.2.1⟩
theorem St.radd (h : St B b d X D w1 W L f) (hD : DdOk D) : Calls Try.prog 12 #[.pointer (some ⟨d, 0, none⟩), .int .i64 D.a, .int .i64 D.b] W (fun e W' => e = .returned (.bool (ltV D.a D.b)) ∧ St B b d X D w1 W' L (addF33 f D.a D.b true)) :=
  (RAdd_any h.rf D.a D.b hD.1 hD.2.2.2).mono fun _ _ q => ⟨q.1, h.two q.2.1 q.2.2⟩
theorem St.rcut (h : St B b d X D w1 W L f) (hD : DdOk D) : Calls Try.prog 14 #[.pointer (some ⟨d, 0, none⟩), .int .i64 D.a, .int .i64 D.b] W (fun e W' => e = .returned (.bool (ltV D.a D.b)) ∧ St B b d X D w1 W' L (addF33 f D.a D.b false)) :=
  (RCut_any h.rf D.a D.b hD.1 hD.2.2.2).mono fun _ _ q => ⟨q.1, h.two q.2.1 q.2.2⟩
end
/-- The same is in both. -/
structure Sm (L : List (Int × Int)) (f : Int → Bool) : Prop where
  good : Good L
  same : ∀ x, Mem L x ↔ f x = true
  out : ∀ x, f x = true → -200 ≤ x ∧ x < 200
theorem Sm.eq {L : List (Int × Int)} {f : Int → Bool} (h : Sm L f) : L = refK (fun j => f ((j : Int) - 200)) 400 := by
  obtain ⟨h1, h2, _⟩ := refK_spec (fun j => f ((j : Int) - 200)) 400
  refine good_uniq h.good h1 fun x => ?_
  rw [h2, h.same]
  constructor
  · intro hx
    obtain ⟨o1, o2⟩ := h.out x hx
    refine ⟨(x + 200).toNat, by omega, ?_, by omega⟩
    rw [show (((x + 200).toNat : Nat) : Int) - 200 = x by omega]; exact hx
  · rintro ⟨j, hj, hf, rfl⟩; exact hf
theorem Sm.len {L : List (Int × Int)} {f : Int → Bool} (h : Sm L f) : L.length ≤ 400 := by
  rw [h.eq]; exact (refK_spec _ 400).2.2.2.2.2
theorem Sm.add {L : List (Int × Int)} {f : Int → Bool} (h : Sm L f) {D : Dd} (hD : DdOk D) : Sm (addL L D.a D.b) (addF33 f D.a D.b true) := by
  obtain ⟨d1, d2, d3, d4⟩ := hD
  by_cases hlt : D.a < D.b
  · obtain ⟨g1, g2, _⟩ := add_good h.good hlt
    refine ⟨g1, fun x => ?_, fun x hx => ?_⟩
    · rw [g2, h.same]; unfold addF33 putF; rw [if_pos hlt]
      by_cases e : D.a ≤ x ∧ x < D.b
      · rw [if_pos e]; simp [e]
      · rw [if_neg e]; simp [e]
    · unfold addF33 putF at hx; rw [if_pos hlt] at hx
      by_cases e : D.a ≤ x ∧ x < D.b
      · omega
      · rw [if_neg e] at hx; exact h.out x hx
  · have e : addL L D.a D.b = L := by unfold addL ltV; rw [if_neg (by simpa using hlt)]
    have e2 : addF33 f D.a D.b true = f := by funext x; unfold addF33; rw [if_neg hlt]
    rw [e, e2]; exact h
theorem Sm.cut {L : List (Int × Int)} {f : Int → Bool} (h : Sm L f) {D : Dd} (hD : DdOk D) : Sm (cutL L D.a D.b) (addF33 f D.a D.b false) := by
  obtain ⟨d1, d2, d3, d4⟩ := hD
  by_cases hlt : D.a < D.b
  · obtain ⟨g1, g2, _⟩ := cut_good h.good hlt
    refine ⟨g1, fun x => ?_, fun x hx => ?_⟩
    · rw [g2, h.same]; unfold addF33 putF; rw [if_pos hlt]
      by_cases e : D.a ≤ x ∧ x < D.b
      · rw [if_pos e]; simp [e]
      · rw [if_neg e]; simp [e]
    · unfold addF33 putF at hx; rw [if_pos hlt] at hx
      by_cases e : D.a ≤ x ∧ x < D.b
      · rw [if_pos e] at hx; cases hx
      · rw [if_neg e] at hx; exact h.out x hx
  · have e : cutL L D.a D.b = L := by unfold cutL ltV; rw [if_neg (by simpa using hlt)]
    have e2 : addF33 f D.a D.b false = f := by funext x; unfold addF33; rw [if_neg hlt]
    rw [e, e2]; exact h
theorem Sm.gap {L : List (Int × Int)} {f : Int → Bool} (h : Sm L f) {low high : Int} {g : Int × Int × Bool} (hg : GapIs (fun x => f x = true) low high g) : g = gapV L low high := by
  by_cases hlt : low < high
  · refine hg.uniq ?_
    have := gap_spec h.good hlt
    have e : (fun x => f x = true) = Mem L := by funext x; exact propext (h.same x).symm
    rw [e]; exact this
  · have e : gapV L low high = (0, 0, false) := by unfold gapV ltV; rw [if_neg (by simpa using hlt)]
    rw [e]
    rcases hg with ⟨h1, h2, h3, _⟩ | ⟨_, h1, h2, h3, _⟩
    · obtain ⟨a, b, c⟩ := g
      simp only at h1 h2 h3
      rw [h1, h2, h3]
    · omega
theorem Sm.has {L : List (Int × Int)} {f : Int → Bool} (h : Sm L f) (x : Int) : hasV L x = f x := by
  have h1 := has_mem h.good x
  rw [h.same] at h1
  cases e : f x with
  | true => exact h1.2 e
  | false =>
    cases e2 : hasV L x with
    | false => rfl
    | true => rw [h1.1 e2] at e; cases e
end Go.Proofs.Ytjihhpipdhhjkaa
