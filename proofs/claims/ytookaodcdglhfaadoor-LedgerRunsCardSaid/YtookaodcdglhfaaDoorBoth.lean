/-
  Layer 18: a ledger and the document's, side by side in memory. No condition.
-/
import Derived.Test.YtookaodcdglhfaaDoorLawF
import Derived.Test.YtookaodcdglhfaaDoorRefS
namespace Go.Proofs.YtookaodcdglhfaaDoor
open Go.RowKit
structure Both (B : Nat) (w : World) (b b2 : Nat) (S : Lg) : Prop where
  a : LgAt B w b S
  r : RfAt B w b2 S.l S.sl S.cr S.fl (fun i => S.act.testBit i)
section
variable {B : Nat} {w w' : World} {b b2 : Nat} {S S2 : Lg} {l : List Pt} {sl cr fl : Int} {has : Nat → Bool}
theorem ne_of_recs {t t2 : TypeId} {cs cs2 : Array Value} (h1 : Rec w b t cs) (h2 : Rec w b2 t2 cs2) (ht : t ≠ t2) : b ≠ b2 := by
  intro e
  subst e
  have h1 : w.heap[b]? = some (.cells cs t (0, 0)) := h1
  have h2 : w.heap[b]? = some (.cells cs2 t2 (0, 0)) := h2
  rw [h1] at h2
  simp only [Option.some.injEq, Obj.cells.injEq] at h2
  exact ht h2.2.1
theorem RfAt.keptT (h : RfAt B w b2 l sl cr fl has) (hL : LgAt B w b S) (hk : KeptT b (fun t => t = tP) w w') : RfAt B w' b2 l sl cr fl has := by
  obtain ⟨A, c, h1, h2⟩ := h.ex
  obtain ⟨_, _, g1, _⟩ := hL.ex
  exact ⟨h.big, A, c, Rec.keptT h1 hk (ne_of_recs h1 g1 (by decide)) (by show ¬ tR = tP; decide), own_keptT h2 hk g1 (by decide) (by show ¬ tQ = tP; decide)⟩
theorem LgAt.keptR (h : LgAt B w b S) (hR : RfAt B w b2 l sl cr fl has) (hk : KeptT b2 (fun t => t = tQ) w w') : LgAt B w' b S := by
  obtain ⟨A, c, h1, h2⟩ := h.ex
  obtain ⟨_, _, g1, _⟩ := hR.ex
  exact ⟨h.big, A, c, Rec.keptT h1 hk (ne_of_recs h1 g1 (by decide)) (by show ¬ tL = tQ; decide), own_keptT h2 hk g1 (by decide) (by show ¬ tP = tQ; decide)⟩
theorem Both.far (h : Both B w b b2 S) (hb : Below w.heap.size w w') : Both B w' b b2 S := ⟨h.a.far hb, h.r.far hb⟩
theorem Both.past (h : Both B w b b2 S) (x : Past) : Both B (w.past x) b b2 S := h.far (w.below_past x)
theorem LgAt.drew (h : LgAt B w b S) : LgAt B w.drew b S := h.far (Below.refl _ _).drew
theorem RfAt.drew (h : RfAt B w b l sl cr fl has) : RfAt B w.drew b l sl cr fl has := h.far (Below.refl _ _).drew
theorem charge_rest (S : Lg) (p : Int) : (chargeF S p).sl = S.sl ∧ (chargeF S p).cr = S.cr ∧ (chargeF S p).fl = S.fl ∧ (chargeF S p).act = S.act := by unfold chargeF; split <;> exact ⟨rfl, rfl, rfl, rfl⟩
theorem weigh_rest (S : Lg) (p q : Int) : (weighF S p q).sl = S.sl ∧ (weighF S p q).cr = S.cr ∧ (weighF S p q).fl = S.fl ∧ (weighF S p q).act = S.act := by unfold weighF; split <;> exact ⟨rfl, rfl, rfl, rfl⟩
theorem Both.of (hL : LgAt B w b S2) (hR : RfAt B w b2 S2.l S.sl S.cr S.fl (fun i => S.act.testBit i)) (h : S2.sl = S.sl ∧ S2.cr = S.cr ∧ S2.fl = S.fl ∧ S2.act = S.act) : Both B w b b2 S2 :=
  ⟨hL, by rw [h.1, h.2.1, h.2.2.1, h.2.2.2]; exact hR⟩
/-- Charge, with what becomes of the other one. -/
theorem BCharge_any (hS : OkG S) (h : Both B w b b2 S) (p : Int) (hB : B ≤ w.heap.size) : Calls Tryd.prog 8 #[.pointer (some ⟨b, 0, none⟩), .int .i64 p] w
    (fun e w' => e = .returned (.bool (isP S.l p)) ∧ (LgAt B w' b (chargeF S p) ∧ RfAt B w' b2 S.l S.sl S.cr S.fl (fun i => S.act.testBit i)) ∧ Below B w w' ∧ KeptT b (fun t => t = tP) w w') :=
  (Charge_any hS h.a p hB).mono fun _ _ ⟨h1, h2, h3, h4⟩ => ⟨h1, ⟨h2, h.r.keptT h.a h4⟩, h3, h4⟩
theorem BRCharge_any {p : Int} (hS : OkG S) (h : LgAt B w b (chargeF S p) ∧ RfAt B w b2 S.l S.sl S.cr S.fl (fun i => S.act.testBit i)) (hB : B ≤ w.heap.size) : Calls Tryd.prog 13 #[.pointer (some ⟨b2, 0, none⟩), .int .i64 p] w
    (fun e w' => e = .returned (.bool (isP S.l p)) ∧ Both B w' b b2 (chargeF S p) ∧ Below B w w' ∧ KeptT b2 (fun t => t = tQ) w w') :=
  (RCharge_any hS h.2 p hB).mono fun _ _ ⟨h1, h2, h3, h4⟩ => ⟨h1, .of (h.1.keptR h.2 h4) h2 (charge_rest S p), h3, h4⟩
theorem BWeigh_any (hS : OkG S) (h : Both B w b b2 S) (p q : Int) (hB : B ≤ w.heap.size) : Calls Tryd.prog 16 #[.pointer (some ⟨b, 0, none⟩), .int .i64 p, .int .i64 q] w
    (fun e w' => e = .returned (.bool (isP S.l p)) ∧ (LgAt B w' b (weighF S p q) ∧ RfAt B w' b2 S.l S.sl S.cr S.fl (fun i => S.act.testBit i)) ∧ Below B w w' ∧ KeptT b (fun t => t = tP) w w') :=
  (Weigh_any hS h.a p q hB).mono fun _ _ ⟨h1, h2, h3, h4⟩ => ⟨h1, ⟨h2, h.r.keptT h.a h4⟩, h3, h4⟩
theorem BRWeigh_any {p q : Int} (hS : OkG S) (h : LgAt B w b (weighF S p q) ∧ RfAt B w b2 S.l S.sl S.cr S.fl (fun i => S.act.testBit i)) (hB : B ≤ w.heap.size) : Calls Tryd.prog 17 #[.pointer (some ⟨b2, 0, none⟩), .int .i64 p, .int .i64 q] w
    (fun e w' => e = .returned (.bool (isP S.l p)) ∧ Both B w' b b2 (weighF S p q) ∧ Below B w w' ∧ KeptT b2 (fun t => t = tQ) w w') :=
  (RWeigh_any hS h.2 p q hB).mono fun _ _ ⟨h1, h2, h3, h4⟩ => ⟨h1, .of (h.1.keptR h.2 h4) h2 (weigh_rest S p q), h3, h4⟩
theorem BSettle_any (hS : OkG S) (h : Both B w b b2 S) (hZ : Tz w) (hZB : 0 < B) (hB : B ≤ w.heap.size) (s : Nat) (hs : s < 18446744073709551616) : Calls Tryd.prog 14 #[.pointer (some ⟨b, 0, none⟩), .int .u64 s] w
    (fun e w' => e = .returned (.tuple #[]) ∧ (LgAt B w' b (settleF S s) ∧ RfAt B w' b2 S.l S.sl S.cr S.fl (fun i => S.act.testBit i)) ∧ Below B w w' ∧ KeptT b (fun t => t = tP) w w') :=
  (Settle_any hS h.a hZ hZB hB s hs).mono fun _ _ ⟨h1, h2, h3, h4⟩ => ⟨h1, ⟨h2, h.r.keptT h.a h4⟩, h3, h4⟩
theorem BRSettle_any (hS : OkG S) {s : Nat} (h : LgAt B w b (settleF S s) ∧ RfAt B w b2 S.l S.sl S.cr S.fl (fun i => S.act.testBit i)) (hB : B ≤ w.heap.size) : Calls Tryd.prog 15 #[.pointer (some ⟨b2, 0, none⟩), .int .u64 s] w
    (fun e w' => e = .returned (.tuple #[]) ∧ Both B w' b b2 (settleF S s) ∧ Below B w w' ∧ KeptT b2 (fun t => t = tQ) w w') :=
  (RSettle_any hS h.2 hB s).mono fun _ _ ⟨h1, h2, h3, h4⟩ => ⟨h1, ⟨h.1.keptR h.2 h4, h2⟩, h3, h4⟩
end
/-- Both in memory, and a deed's box. -/
structure St (B : Nat) (w1 : World) (b b2 : Nat) (S : Lg) (X : Nat) (d : Deed) (w : World) : Prop where
  both : Both B w b b2 S
  bel : Below B w1 w
  box : Rec w X tD #[.int .u8 d.k, .int .i64 d.p, .int .i64 d.w, .int .u64 (d.s : Int)]
structure Md (B : Nat) (w1 : World) (b b2 : Nat) (S S2 : Lg) (X : Nat) (d : Deed) (w : World) : Prop where
  both : LgAt B w b S2 ∧ RfAt B w b2 S.l S.sl S.cr S.fl (fun i => S.act.testBit i)
  bel : Below B w1 w
  box : Rec w X tD #[.int .u8 d.k, .int .i64 d.p, .int .i64 d.w, .int .u64 (d.s : Int)]
section
variable {B : Nat} {w1 w w' : World} {b b2 X : Nat} {S S2 : Lg} {d : Deed}
theorem St.far (h : St B w1 b b2 S X d w) (hB : B ≤ w1.heap.size) (hb : Below w.heap.size w w') : St B w1 b b2 S X d w' :=
  ⟨h.both.far hb, h.bel.trans (hb.mono (Nat.le_trans hB h.bel.size)), h.box.below hb (Nat.le_refl _)⟩
theorem box_cells {w : World} (h : Rec w X tD #[.int .u8 d.k, .int .i64 d.p, .int .i64 d.w, .int .u64 (d.s : Int)]) : w.cell? ⟨X, 1, none⟩ = some (.int .i64 d.p) ∧ w.cell? ⟨X, 2, none⟩ = some (.int .i64 d.w) ∧ w.cell? ⟨X, 3, none⟩ = some (.int .u64 (d.s : Int)) :=
  ⟨by rw [Rec.cell h 1]; rfl, by rw [Rec.cell h 2]; rfl, by rw [Rec.cell h 3]; rfl⟩
theorem St.mid (h : St B w1 b b2 S X d w) (h2 : LgAt B w' b S2 ∧ RfAt B w' b2 S.l S.sl S.cr S.fl (fun i => S.act.testBit i)) (h3 : Below B w w') (h4 : KeptT b (fun t => t = tP) w w') : Md B w1 b b2 S S2 X d w' := by
  obtain ⟨_, _, g1, _⟩ := h.both.a.ex
  exact ⟨h2, h.bel.trans h3, Rec.keptT h.box h4 (ne_of_recs h.box g1 (by decide)) (by show ¬ tD = tP; decide)⟩
theorem Md.fin (h : Md B w1 b b2 S S2 X d w) (h2 : Both B w' b b2 S2) (h3 : Below B w w') (h4 : KeptT b2 (fun t => t = tQ) w w') : St B w1 b b2 S2 X d w' := by
  obtain ⟨_, _, g1, _⟩ := h.both.2.ex
  exact ⟨h2, h.bel.trans h3, Rec.keptT h.box h4 (ne_of_recs h.box g1 (by decide)) (by show ¬ tD = tQ; decide)⟩
theorem SCharge (hS : OkG S) (hB : B ≤ w1.heap.size) (h : St B w1 b b2 S X d w) : Calls Tryd.prog 8 #[.pointer (some ⟨b, 0, none⟩), .int .i64 d.p] w
    (fun e w' => e = .returned (.bool (isP S.l d.p)) ∧ Md B w1 b b2 S (chargeF S d.p) X d w' ∧ w'.cell? ⟨X, 1, none⟩ = some (.int .i64 d.p) ∧ w'.cell? ⟨X, 2, none⟩ = some (.int .i64 d.w)) :=
  (BCharge_any hS h.both d.p (Nat.le_trans hB h.bel.size)).mono fun _ _ ⟨h1, h2, h3, h4⟩ => by
    have := h.mid h2 h3 h4
    exact ⟨h1, this, (box_cells this.box).1, (box_cells this.box).2.1⟩
theorem SRCharge (hS : OkG S) (hB : B ≤ w1.heap.size) (h : Md B w1 b b2 S (chargeF S d.p) X d w) : Calls Tryd.prog 13 #[.pointer (some ⟨b2, 0, none⟩), .int .i64 d.p] w
    (fun e w' => e = .returned (.bool (isP S.l d.p)) ∧ St B w1 b b2 (chargeF S d.p) X d w' ∧ w'.cell? ⟨X, 1, none⟩ = some (.int .i64 d.p) ∧ w'.cell? ⟨X, 2, none⟩ = some (.int .i64 d.w)) :=
  (BRCharge_any hS h.both (Nat.le_trans hB h.bel.size)).mono fun _ _ ⟨h1, h2, h3, h4⟩ => by
    have := h.fin h2 h3 h4
    exact ⟨h1, this, (box_cells this.box).1, (box_cells this.box).2.1⟩
theorem SWeigh (hS : OkG S) (hB : B ≤ w1.heap.size) (h : St B w1 b b2 S X d w) : Calls Tryd.prog 16 #[.pointer (some ⟨b, 0, none⟩), .int .i64 d.p, .int .i64 d.w] w
    (fun e w' => e = .returned (.bool (isP S.l d.p)) ∧ Md B w1 b b2 S (weighF S d.p d.w) X d w' ∧ w'.cell? ⟨X, 1, none⟩ = some (.int .i64 d.p) ∧ w'.cell? ⟨X, 2, none⟩ = some (.int .i64 d.w)) :=
  (BWeigh_any hS h.both d.p d.w (Nat.le_trans hB h.bel.size)).mono fun _ _ ⟨h1, h2, h3, h4⟩ => by
    have := h.mid h2 h3 h4
    exact ⟨h1, this, (box_cells this.box).1, (box_cells this.box).2.1⟩
theorem SRWeigh (hS : OkG S) (hB : B ≤ w1.heap.size) (h : Md B w1 b b2 S (weighF S d.p d.w) X d w) : Calls Tryd.prog 17 #[.pointer (some ⟨b2, 0, none⟩), .int .i64 d.p, .int .i64 d.w] w
    (fun e w' => e = .returned (.bool (isP S.l d.p)) ∧ St B w1 b b2 (weighF S d.p d.w) X d w' ∧ w'.cell? ⟨X, 1, none⟩ = some (.int .i64 d.p) ∧ w'.cell? ⟨X, 2, none⟩ = some (.int .i64 d.w)) :=
  (BRWeigh_any hS h.both (Nat.le_trans hB h.bel.size)).mono fun _ _ ⟨h1, h2, h3, h4⟩ => by
    have := h.fin h2 h3 h4
    exact ⟨h1, this, (box_cells this.box).1, (box_cells this.box).2.1⟩
theorem SSettle (hS : OkG S) (hB : B ≤ w1.heap.size) (hZ : Tz w1) (hZB : 0 < B) (hs : d.s < 18446744073709551616) (h : St B w1 b b2 S X d w) : Calls Tryd.prog 14 #[.pointer (some ⟨b, 0, none⟩), .int .u64 (d.s : Int)] w
    (fun e w' => e = .returned (.tuple #[]) ∧ Md B w1 b b2 S (settleF S d.s) X d w') :=
  (BSettle_any hS h.both (hZ.belowB hZB h.bel) hZB (Nat.le_trans hB h.bel.size) d.s hs).mono fun _ _ ⟨h1, h2, h3, h4⟩ => ⟨h1, h.mid h2 h3 h4⟩
theorem SRSettle (hS : OkG S) (hB : B ≤ w1.heap.size) (h : Md B w1 b b2 S (settleF S d.s) X d w) : Calls Tryd.prog 15 #[.pointer (some ⟨b2, 0, none⟩), .int .u64 (d.s : Int)] w
    (fun e w' => e = .returned (.tuple #[]) ∧ St B w1 b b2 (settleF S d.s) X d w') :=
  (BRSettle_any hS h.both (Nat.le_trans hB h.bel.size)).mono fun _ _ ⟨h1, h2, h3, h4⟩ => ⟨h1, h.fin h2 h3 h4⟩
/-- Two new ones. -/
structure N1 (w1 : World) (ws : List Int) (s c : Int) (b : Nat) (w : World) : Prop where
  a : LgAt w1.heap.size w b (newF ws s c)
  bel : Below w1.heap.size w1 w
theorem SNew {A : Option Addr} {ca n Y : Nat} {ws : List Int} (en : ws.length = n) (hca : n ≤ ca) (hn : n ≤ maxLen) (s c : Int) (hc : Cells w1 A (i64s ws)) (hY : Rec w1 Y 35 #[.int .i64 s, .int .i64 c]) :
    Calls Tryd.prog 7 #[.slice A n ca, .int .i64 s, .int .i64 c] w1.drew (fun e w' => ∃ b, e = .returned (.pointer (some ⟨b, 0, none⟩)) ∧ N1 w1 ws s c b w' ∧ w'.cell? ⟨Y, 0, none⟩ = some (.int .i64 s) ∧ w'.cell? ⟨Y, 1, none⟩ = some (.int .i64 c)) :=
  (New_any A ca n ws en hca hn s c w1.drew hc.drew).mono fun _ w' ⟨b, h1, h2, h3⟩ => by
    have hb : Below w1.heap.size w1 w' := (Below.refl _ w1).drew.trans h3
    have hY' := hY.below hb (Nat.le_refl _)
    exact ⟨b, h1, ⟨h2, hb⟩, by rw [Rec.cell hY' 0]; rfl, by rw [Rec.cell hY' 1]; rfl⟩
theorem SRNew {A : Option Addr} {ca n Y : Nat} {ws : List Int} (en : ws.length = n) (hca : n ≤ ca) (hn : n ≤ maxLen) {s c : Int} (hc : Cells w1 A (i64s ws)) (hY : Rec w1 Y 35 #[.int .i64 s, .int .i64 c]) (h : N1 w1 ws s c b w) :
    Calls Tryd.prog 12 #[.slice A n ca, .int .i64 s, .int .i64 c] w (fun e w' => ∃ b2, e = .returned (.pointer (some ⟨b2, 0, none⟩)) ∧ (Both w1.heap.size w' b b2 (newF ws s c) ∧ Below w1.heap.size w1 w') ∧ w'.cell? ⟨Y, 0, none⟩ = some (.int .i64 s) ∧ w'.cell? ⟨Y, 1, none⟩ = some (.int .i64 c)) :=
  (RNew_any A ca n ws en hca hn s c w (hc.below h.bel)).mono fun _ w' ⟨b2, h1, h2, h3⟩ => by
    have hb : Below w1.heap.size w1 w' := h.bel.trans (h3.mono h.bel.size)
    have hY' := hY.below hb (Nat.le_refl _)
    obtain ⟨A', c', r1, r2⟩ := h2.ex
    exact ⟨b2, h1, ⟨⟨h.a.far h3, RfAt.same ⟨Nat.le_trans h.bel.size h2.big, A', c', r1, own_base r2 h.bel.size⟩ (fun i _ => by simp [newF])⟩, hb⟩, by rw [Rec.cell hY' 0]; rfl, by rw [Rec.cell hY' 1]; rfl⟩
end
/-- What the law asks of both behind a deed. -/
structure AskB (b b2 : Nat) (S : Lg) (p : Int) (s : Nat) (w : World) : Prop where
  fl : ∀ x, Calls Tryd.prog 18 #[.pointer (some ⟨b, 0, none⟩)] (w.past x) (Gives (.int .u64 S.fl) (w.past x))
  ac : ∀ x, Calls Tryd.prog 19 #[.pointer (some ⟨b, 0, none⟩)] (w.past x) (Gives (.int .u64 (S.act : Int)) (w.past x))
  rac : ∀ x, Calls Tryd.prog 20 #[.pointer (some ⟨b2, 0, none⟩)] (w.past x) (Gives (.int .u64 (S.act : Int)) (w.past x))
  len : ∀ x, Calls Tryd.prog 21 #[.pointer (some ⟨b, 0, none⟩)] (w.past x) (Gives (.int .i64 (S.l.length : Int)) (w.past x))
  le : ∀ x, Calls Tryd.prog 10 #[.pointer (some ⟨b, 0, none⟩), .int .u64 (s : Int)] (w.past x) (Gives (.int .i64 (encB (leastF S.l s))) (w.past x))
  rle : ∀ x, Calls Tryd.prog 22 #[.pointer (some ⟨b2, 0, none⟩), .int .u64 (s : Int)] (w.past x) (Gives (.int .i64 (encB (leastF S.l s))) (w.past x))
  be : ∀ x, Calls Tryd.prog 9 #[.pointer (some ⟨b, 0, none⟩), .int .i64 p, .int .u64 (s : Int)] (w.past x) (Gives (.int .i64 (behF S.l p s)) (w.past x))
  rbe : ∀ x, Calls Tryd.prog 23 #[.pointer (some ⟨b2, 0, none⟩), .int .i64 p, .int .u64 (s : Int)] (w.past x) (Gives (.int .i64 (behF S.l p s)) (w.past x))
theorem askB_any {B b b2 : Nat} {S : Lg} {w : World} (hS : OkG S) (h : Both B w b b2 S) (hZ : Tz w) (p : Int) (s : Nat) (hs : s < 18446744073709551616) : AskB b b2 S p s w :=
  ⟨fun x => Floor_any (h.past x).a, fun x => Active_any (h.past x).a, fun x => RActive_any hS.len hS.act (h.past x).r, fun x => Len_any (h.past x).a,
   fun x => Least_any hS.len (.inr ⟨b, rfl, (h.past x).a⟩) (hZ.past x) s hs, fun x => RLeast_any hS.len (h.past x).r s,
   fun x => Behind_any hS.len (fun k hk => (hS.at hk).1) (.inr ⟨b, rfl, (h.past x).a⟩) (hZ.past x) p s hs, fun x => RBehind_any hS.len (fun k hk => (hS.at hk).1) (h.past x).r p s⟩
end Go.Proofs.YtookaodcdglhfaaDoor
