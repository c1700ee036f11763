/-
  Layer 05: what a queue is, as a list; what push and take leave. No program in sight.
-/
import Derived.Test.YtngokihncjkiaaaDoorAppC
import Derived.Maps.Own
import Derived.Maps.OwnSet
import Derived.Maps.OwnOps
import Derived.Maps.Views
namespace Go
open Go.RowKit Go.Maps
def upd (f : Int → Option Int) (x : Int) (y : Option Int) (z : Int) : Option Int := if z = x then y else f z
/-- Block b is a map of c entries that reads as f. -/
def MapI (P : Program) (t : TypeId) (w : World) (b : Nat) (f : Int → Option Int) (c : Nat) : Prop :=
  ∃ D : DataW Unit, w.ownsMap P t (plainElem P t) b c D ∧ Maps.size D = c ∧
    ∀ x, Maps.has D (.int .i64 x) = (f x).isSome ∧ ∀ y, f x = some y → ∀ z, D.atKey (.int .i64 x) z = .lit (.int .i64 y)
theorem wf_of_i64 {n : Int} (h : I64 n) : (Lit.int .i64 n).wf = true := by
  simp [Lit.wf, IntKind.min, IntKind.max, IntKind.signed, IntKind.bits]
  exact h
theorem key_i64 (x : Int) : WideAt.IsKeyLit (.int .i64 x) := trivial
theorem World.ownsMap.exact {H : Type} {P : Program} {k : TypeId} {R : Value → Option (DataW H × List MemPlace)} {w : World} {b n : Nat} {D : DataW H} (h : w.ownsMap P k R b n D) : w.ownsMap P k R b (Maps.size D) D := by
  obtain ⟨es, clock, hb, F, hs, hD⟩ := h
  exact ⟨es, clock, hb, F, by rw [hD]; simp [Maps.size, length_sorted], hD⟩
section
variable {P : Program} {t m : TypeId} {w w' : World} {b c : Nat} {f : Int → Option Int} {x y : Int}
theorem MapI.made (w : World) : MapI P t (w.alloc (.map #[] 0)) w.heap.size (fun _ => none) 0 :=
  ⟨.map [], World.ownsMap_made w P t _, rfl, fun x => ⟨rfl, fun y h => by cases h⟩⟩
theorem MapI.lt (h : MapI P t w b f c) : b < w.heap.size := by obtain ⟨D, h1, _⟩ := h; exact h1.lt
theorem MapI.grown {row : Option Nat} (h : MapI P t w b f c) (hg : w.grownBy w' row) (hne : some b ≠ row) : MapI P t w' b f c := by
  obtain ⟨D, h1, h2, h3⟩ := h
  exact ⟨D, h1.kept hg hne, h2, h3⟩
theorem MapI.block (h : MapI P t w b f c) (hb : w'.heap[b]? = w.heap[b]?) : MapI P t w' b f c := by
  obtain ⟨D, ⟨es, clock, h1, F, hs, hD⟩, h2, h3⟩ := h
  exact ⟨D, ⟨es, clock, hb.trans h1, F, hs, hD⟩, h2, h3⟩
theorem MapI.below {B : Nat} (h : MapI P t w b f c) (hb : Below B w w') (hB : b < B) : MapI P t w' b f c := h.block (hb.block b hB)
theorem MapI.ext {g : Int → Option Int} (h : MapI P t w b f c) (hg : ∀ z, f z = g z) : MapI P t w b g c := by
  obtain ⟨D, h1, h2, h3⟩ := h
  exact ⟨D, h1, h2, fun x => by rw [← hg x]; exact h3 x⟩
/-- 'v, ok := m[k]'. -/
theorem MapI.look (h : MapI P t w b f c) (hm : P.underlying m = some (.map t t)) (ht : P.underlying t = some (.int .i64)) (hz : (zeroValue t).run P w = .ok (.int .i64 0) w) (hx : I64 x) :
    (Instr.lookup m (.map (some b)) (.int .i64 x) true).run P w = .ok (.tuple #[.int .i64 ((f x).getD 0), .bool (f x).isSome]) w := by
  obtain ⟨D, h1, h2, h3⟩ := h
  obtain ⟨v, ps, hrun, hv⟩ := h1.look_ok (int_keyed ht) hm hz (plainElem_int ht (by decide)) (keyOf_int_mk ht (wf_of_i64 hx))
  obtain ⟨d1, d2⟩ := h3 x
  rw [hrun, d1]
  obtain ⟨a, rfl, ha, _⟩ := plainElem_int_inv ht hv
  simp only [Prod.mk.injEq] at ha
  cases e : f x with
  | none =>
    rw [e] at d1
    have := ha.1
    rw [atKey_of_not_has d1] at this
    simp only [DataW.lit.injEq, Lit.int.injEq, true_and] at this
    rw [← this]; rfl
  | some y =>
    have := ha.1
    rw [d2 y e] at this
    simp only [DataW.lit.injEq, Lit.int.injEq, true_and] at this
    rw [← this]; rfl
/-- 'm[k]'. -/
theorem MapI.look1 (h : MapI P t w b f c) (hm : P.underlying m = some (.map t t)) (ht : P.underlying t = some (.int .i64)) (hz : (zeroValue t).run P w = .ok (.int .i64 0) w) (hx : I64 x) :
    (Instr.lookup m (.map (some b)) (.int .i64 x) false).run P w = .ok (.int .i64 ((f x).getD 0)) w := by
  obtain ⟨D, h1, h2, h3⟩ := h
  obtain ⟨a, hrun, ha, _⟩ := h1.lookup_int (int_keyed ht) hm ht hz (keyOf_int_mk ht (wf_of_i64 hx))
  obtain ⟨d1, d2⟩ := h3 x
  rw [hrun]
  cases e : f x with
  | none =>
    rw [e] at d1
    rw [atKey_of_not_has d1] at ha
    simp only [DataW.lit.injEq, Lit.int.injEq, true_and] at ha
    rw [← ha]; rfl
  | some y =>
    rw [d2 y e] at ha
    simp only [DataW.lit.injEq, Lit.int.injEq, true_and] at ha
    rw [← ha]; rfl
/-- 'm[k] = v'. -/
theorem MapI.store (h : MapI P t w b f c) (hm : P.underlying m = some (.map t t)) (ht : P.underlying t = some (.int .i64)) (hx : I64 x) (hy : I64 y) (hc : c < maxLen) :
    ∃ w', (Instr.mapUpdate m (.map (some b)) (.int .i64 x) (.int .i64 y)).run P w = .ok () w' ∧ MapI P t w' b (upd f x (some y)) (if (f x).isSome then c else c + 1) ∧ w.grownBy w' (some b) ∧ w.mapTurned w' b := by
  obtain ⟨D, h1, h2, h3⟩ := h
  obtain ⟨w', hrun, ho, hg⟩ := h1.store (int_keyed ht) hm hc (keyOf_int_mk ht (wf_of_i64 hx)) (plainElem_int ht (wf_of_i64 hy))
  have htidy := h1.tidy (int_keyed ht)
  have hsz := size_put (k := .int .i64 x) htidy (.lit (.int .i64 y))
  rw [(h3 x).1, h2] at hsz
  have hex := ho.exact
  rw [hsz] at hex
  refine ⟨w', hrun, ⟨_, hex, hsz, fun z => ?_⟩, hg.grown, hg⟩
  unfold upd
  by_cases e : z = x
  · subst e
    rw [if_pos rfl]
    refine ⟨has_put_same htidy.isMap (key_i64 z) _, fun y' hy' z' => ?_⟩
    injection hy' with hy'
    subst hy'
    exact atKey_put_same htidy.isMap (key_i64 z) _ z'
  · rw [if_neg e]
    have hne : Lit.int .i64 z ≠ .int .i64 x := fun h => by injection h with _ h; exact e h
    refine ⟨by rw [has_put_other hne]; exact (h3 z).1, fun y' hy' z' => by rw [atKey_put_other hne]; exact (h3 z).2 y' hy' z'⟩
/-- 'delete(m, k)'. -/
theorem MapI.drop (h : MapI P t w b f c) (hm : P.underlying m = some (.map t t)) (ht : P.underlying t = some (.int .i64)) (hx : I64 x) (ty : TypeId) :
    ∃ w', (Builtin.delete_ #[m, t] ty #[.map (some b), .int .i64 x]).run P w = .ok (.tuple #[]) w' ∧ MapI P t w' b (upd f x none) (if (f x).isSome then c - 1 else c) ∧ w.grownBy w' (some b) ∧ w.mapTurned w' b := by
  obtain ⟨D, h1, h2, h3⟩ := h
  obtain ⟨w', hrun, ho, hg⟩ := h1.drop (int_keyed ht) hm (keyOf_int_mk ht (wf_of_i64 hx)) ty
  have htidy := h1.tidy (int_keyed ht)
  have hsz0 := size_del (k := .int .i64 x) htidy
  rw [(h3 x).1, h2] at hsz0
  have hsz : Maps.size (D.del (.int .i64 x)) = if (f x).isSome then c - 1 else c := by
    split
    · rename_i e; rw [e, if_pos rfl] at hsz0; omega
    · rename_i e; rw [if_neg e] at hsz0; omega
  have hex := ho.exact
  rw [hsz] at hex
  refine ⟨w', hrun, ⟨_, hex, hsz, fun z => ?_⟩, hg.grown, hg⟩
  unfold upd
  by_cases e : z = x
  · subst e
    rw [if_pos rfl]
    exact ⟨has_del_same, fun y' hy' => by cases hy'⟩
  · rw [if_neg e]
    have hne : Lit.int .i64 z ≠ .int .i64 x := fun h => by injection h with _ h; exact e h
    refine ⟨by rw [has_del_other hne]; exact (h3 z).1, fun y' hy' z' => by rw [atKey_del_other hne]; exact (h3 z).2 y' hy' z'⟩
end
end Go
namespace Go.Proofs.YtngokihncjkiaaaDoor
open Go.RowKit
abbrev LkG (α : Type) := α × Int × Int × Int
structure Fq (α : Type) where
  S : Ar (LkG α)
  fi : Int
  la : Int
section
variable {α : Type} (z : LkG α)
/-- The one half of join. -/
def joA (q : Fq α) (a b : Int) : Fq α :=
  if isA z q.S.l a = true then ⟨setA z q.S a ((getA z q.S a).1.1, (getA z q.S a).1.2.1, (getA z q.S a).1.2.2.1, b), q.fi, q.la⟩ else ⟨q.S, b, q.la⟩
def joB (q : Fq α) (a b : Int) : Fq α :=
  if isA z q.S.l b = true then ⟨setA z q.S b ((getA z q.S b).1.1, (getA z q.S b).1.2.1, a, (getA z q.S b).1.2.2.2), q.fi, q.la⟩ else ⟨q.S, q.fi, a⟩
def joinF (q : Fq α) (a b : Int) : Fq α := joB z (joA z q a b) a b
end
/-- Behind a push into a place. -/
def pushQ {α : Type} (z : LkG α) (q : Fq α) (S' : Ar (LkG α)) (p : Int) : Fq α := ⟨(joinF z ⟨S', q.fi, q.la⟩ q.la p).S, (joinF z ⟨S', q.fi, q.la⟩ q.la p).fi, p⟩
/-- Behind what is taken off a place. -/
def takeQ {α : Type} (z : LkG α) (q : Fq α) (p : Int) : Fq α := if isA z q.S.l p = true then joinF z ⟨dropA z q.S p, q.fi, q.la⟩ (getA z q.S p).1.2.2.1 (getA z q.S p).1.2.2.2 else q
theorem getA_2 {β : Type} {z : β} {S : Ar β} {i : Int} : (getA z S i).2 = isA z S.l i := by
  unfold getA; by_cases h : isA z S.l i = true
  · rw [if_pos h, h]
  · rw [if_neg h, Bool.eq_false_iff.2 h]
/-- The blocks of a queue. -/
def ft (b ba mb : Nat) (G : Option Nat) (k : Nat) : Prop := k = b ∨ k = ba ∨ k = mb ∨ some k = G
theorem MapI.cells {P : Program} {t T : TypeId} {w : World} {mb k c : Nat} {f : Int → Option Int} {cs : Array Value} (h : MapI P t w mb f c) (hk : w.heap[k]? = some (.cells cs T (0, 0))) : k ≠ mb := by
  rintro rfl
  obtain ⟨D, ⟨es, clock, h1, _⟩, _⟩ := h
  rw [h1] at hk; cases hk
theorem kept_one {F : Nat → Prop} {m : Nat} {w w' : World} (h : Kept (fun k => k = m) w w') (hm : F m) : Kept F w w' := h.mono fun k _ e => by rw [e]; exact hm
end Go.Proofs.YtngokihncjkiaaaDoor
namespace Go.Proofs.YtngokihncjkiaaaDoor
open Go.RowKit
section
variable {α : Type} {z : LkG α}
/-- The chain of free places. -/
def ChainQ {β : Type} (z : β) (l : List (Slot β)) : Nat → List Nat → Prop
  | f, [] => f = 0
  | f, k :: ks => f = k + 1 ∧ k < l.length ∧ (slotA z l k).2.1 = false ∧ ChainQ z l (slotA z l k).2.2 ks
theorem ChainQ.congr {β : Type} {z : β} {l l' : List (Slot β)} (hl : l.length ≤ l'.length) : ∀ {f : Nat} {ks : List Nat}, ChainQ z l f ks → (∀ k ∈ ks, slotA z l' k = slotA z l k) → ChainQ z l' f ks
  | _, [], h, _ => h
  | _, k :: ks, ⟨h1, h2, h3, h4⟩, he => ⟨h1, by omega, by rw [he k (by simp)]; exact h3, by rw [he k (by simp)]; exact h4.congr hl (fun j hj => he j (by simp [hj]))⟩
theorem ChainQ.off {β : Type} {z : β} {l : List (Slot β)} : ∀ {f : Nat} {ks : List Nat}, ChainQ z l f ks → ∀ k ∈ ks, k < l.length ∧ (slotA z l k).2.1 = false
  | _, [], _, _, h => by cases h
  | _, k :: ks, ⟨_, h2, h3, h4⟩, j, hj => by
    rcases List.mem_cons.1 hj with rfl | hj
    · exact ⟨h2, h3⟩
    · exact h4.off j hj
theorem setA_slot (S : Ar (LkG α)) (i : Int) (v : LkG α) (k : Nat) : slotA z (setA z S i v).l k = if isA z S.l i = true ∧ (k : Int) = i then (v, true, (slotA z S.l k).2.2) else slotA z S.l k := by
  unfold setA
  by_cases h : isA z S.l i = true
  · rw [if_pos h]
    obtain ⟨a, b, _⟩ := isA_iff.1 h
    rw [slot_set (by omega)]
    by_cases e : k = i.toNat
    · rw [if_pos e, if_pos ⟨h, by omega⟩, e]
    · rw [if_neg e, if_neg (fun q => e (by omega))]
  · rw [if_neg h, if_neg (fun q => h q.1)]
theorem setA_len (S : Ar (LkG α)) (i : Int) (v : LkG α) : (setA z S i v).l.length = S.l.length ∧ (setA z S i v).free = S.free ∧ (setA z S i v).n = S.n := by
  unfold setA
  split
  · exact ⟨by simp, rfl, rfl⟩
  · exact ⟨rfl, rfl, rfl⟩
theorem isA_congr {l l' : List (Slot (LkG α))} (hl : l'.length = l.length) (h : ∀ k, (slotA z l' k).2.1 = (slotA z l k).2.1) (i : Int) : isA z l' i = isA z l i := by
  unfold isA; rw [hl, h]
theorem setA_isA (S : Ar (LkG α)) (i : Int) (v : LkG α) (j : Int) : isA z (setA z S i v).l j = isA z S.l j := by
  refine isA_congr (setA_len S i v).1 (fun k => ?_) j
  rw [setA_slot]
  by_cases h : isA z S.l i = true ∧ (k : Int) = i
  · rw [if_pos h]
    obtain ⟨h1, h2⟩ := h
    obtain ⟨_, _, h3⟩ := isA_iff.1 h1
    rw [← h2] at h3
    simp only [Int.toNat_natCast] at h3
    exact h3.symm
  · rw [if_neg h]
theorem getA_slot (S : Ar (LkG α)) (k : Nat) (h : isA z S.l k = true) : (getA z S (k : Int)).1 = (slotA z S.l k).1 := by
  unfold getA; rw [if_pos h]; simp
/-- What join leaves. -/
theorem join_spec (q : Fq α) {a b : Int} (hab : isA z q.S.l a = true → a ≠ b) :
    (joinF z q a b).S.l.length = q.S.l.length ∧ (joinF z q a b).S.free = q.S.free ∧ (joinF z q a b).S.n = q.S.n ∧
    (joinF z q a b).fi = (if isA z q.S.l a = true then q.fi else b) ∧ (joinF z q a b).la = (if isA z q.S.l b = true then q.la else a) ∧
    (∀ k : Nat, slotA z (joinF z q a b).S.l k =
      if isA z q.S.l b = true ∧ (k : Int) = b then (((slotA z q.S.l k).1.1, (slotA z q.S.l k).1.2.1, a, (slotA z q.S.l k).1.2.2.2), true, (slotA z q.S.l k).2.2)
      else if isA z q.S.l a = true ∧ (k : Int) = a then (((slotA z q.S.l k).1.1, (slotA z q.S.l k).1.2.1, (slotA z q.S.l k).1.2.2.1, b), true, (slotA z q.S.l k).2.2)
      else slotA z q.S.l k) := by
  have A1 : ∀ j, isA z (joA z q a b).S.l j = isA z q.S.l j := fun j => by
    unfold joA; split
    · exact setA_isA _ _ _ _
    · rfl
  have A2 : (joA z q a b).S.l.length = q.S.l.length ∧ (joA z q a b).S.free = q.S.free ∧ (joA z q a b).S.n = q.S.n := by
    unfold joA; split
    · exact setA_len _ _ _
    · exact ⟨rfl, rfl, rfl⟩
  have A3 : ∀ k : Nat, slotA z (joA z q a b).S.l k = if isA z q.S.l a = true ∧ (k : Int) = a then (((slotA z q.S.l k).1.1, (slotA z q.S.l k).1.2.1, (slotA z q.S.l k).1.2.2.1, b), true, (slotA z q.S.l k).2.2) else slotA z q.S.l k := fun k => by
    unfold joA
    by_cases h : isA z q.S.l a = true
    · rw [if_pos h, setA_slot]
      by_cases e : (k : Int) = a
      · rw [if_pos ⟨h, e⟩, if_pos ⟨h, e⟩, ← e, getA_slot _ _ (by rw [e]; exact h)]
      · rw [if_neg (fun q => e q.2), if_neg (fun q => e q.2)]
    · rw [if_neg h, if_neg (fun q => h q.1)]
  have A4 : (joA z q a b).fi = (if isA z q.S.l a = true then q.fi else b) ∧ (joA z q a b).la = q.la := by
    unfold joA; split
    · exact ⟨rfl, rfl⟩
    · exact ⟨rfl, rfl⟩
  unfold joinF
  obtain ⟨q1, e1⟩ : ∃ q1, joA z q a b = q1 := ⟨_, rfl⟩
  rw [e1] at A1 A2 A3 A4 ⊢
  clear e1
  unfold joB
  by_cases h : isA z q.S.l b = true
  · rw [A1 b, if_pos h]
    obtain ⟨l1, l2, l3⟩ := setA_len (z := z) q1.S b ((getA z q1.S b).1.1, (getA z q1.S b).1.2.1, a, (getA z q1.S b).1.2.2.2)
    refine ⟨l1.trans A2.1, l2.trans A2.2.1, l3.trans A2.2.2, A4.1, by rw [if_pos h]; exact A4.2, fun k => ?_⟩
    show slotA z (setA z q1.S b _).l k = _
    rw [setA_slot, A1 b]
    by_cases e : (k : Int) = b
    · rw [if_pos ⟨h, e⟩, if_pos ⟨h, e⟩, ← e, getA_slot _ _ (by rw [e, A1]; exact h), A3 k, if_neg (fun q => hab q.1 (by rw [← q.2, e]))]
    · rw [if_neg (fun q => e q.2), if_neg (fun q => e q.2), A3 k]
  · rw [A1 b, if_neg h]
    refine ⟨A2.1, A2.2.1, A2.2.2, A4.1, by rw [if_neg h], fun k => ?_⟩
    show slotA z q1.S.l k = _
    rw [if_neg (fun q => h q.1), A3 k]
end
end Go.Proofs.YtngokihncjkiaaaDoor
namespace Go.Proofs.YtngokihncjkiaaaDoor
open Go.RowKit
section
variable {α : Type} {z : LkG α}
/-- A place, a ticket, a value. -/
abbrev ItQ (α : Type) := Nat × Int × α
def plc (Q : List (ItQ α)) (i : Nat) : Int := match Q[i]? with | some x => (x.1 : Int) | none => -1
def pv (Q : List (ItQ α)) (i : Nat) : Int := if i = 0 then -1 else plc Q (i - 1)
structure InvQ (z : LkG α) (q : Fq α) (tk : Int) (f : Int → Option Int) (c : Nat) (Q : List (ItQ α)) (ks : List Nat) : Prop where
  nd : (Q.map (·.1) ++ ks).Nodup
  len : q.S.l.length = Q.length + ks.length
  n : q.S.n = Q.length
  chain : ChainQ z q.S.l q.S.free ks
  lt : ∀ x ∈ Q, x.1 < q.S.l.length
  link : ∀ i x, Q[i]? = some x → (slotA z q.S.l x.1).1 = (x.2.2, x.2.1, pv Q i, plc Q (i + 1)) ∧ (slotA z q.S.l x.1).2.1 = true
  fi : q.fi = plc Q 0
  la : q.la = pv Q Q.length
  f : ∀ t p, f t = some p ↔ ∃ x ∈ Q, x.2.1 = t ∧ p = (x.1 : Int)
  tk : ∀ x ∈ Q, 1 ≤ x.2.1 ∧ x.2.1 ≤ tk
  tnd : (Q.map (·.2.1)).Pairwise (· < ·)
  c : c = Q.length
theorem plc_some {Q : List (ItQ α)} {i : Nat} {x : ItQ α} (h : Q[i]? = some x) : plc Q i = (x.1 : Int) := by unfold plc; rw [h]
theorem plc_none {Q : List (ItQ α)} {i : Nat} (h : Q.length ≤ i) : plc Q i = -1 := by unfold plc; rw [List.getElem?_eq_none h]
theorem isA_neg {l : List (Slot (LkG α))} {i : Int} (h : i < 0) : isA z l i = false := by unfold isA; rw [decide_eq_false (by omega)]; rfl
theorem InvQ.isA {q : Fq α} {tk : Int} {f : Int → Option Int} {c : Nat} {Q : List (ItQ α)} {ks : List Nat} (h : InvQ z q tk f c Q ks) {i : Nat} {x : ItQ α} (hx : Q[i]? = some x) : Go.Proofs.YtngokihncjkiaaaDoor.isA z q.S.l (x.1 : Int) = true :=
  isA_iff.2 ⟨by omega, by have := h.lt x (List.mem_of_getElem? hx); omega, by simp only [Int.toNat_natCast]; exact (h.link i x hx).2⟩
theorem place_inj {Q : List (ItQ α)} {ks : List Nat} (nd : (Q.map (·.1) ++ ks).Nodup) {i j : Nat} {x y : ItQ α} (hx : Q[i]? = some x) (hy : Q[j]? = some y) (e : x.1 = y.1) : i = j := by
  have n1 := (List.nodup_append.1 nd).1
  have h1 : (Q.map (·.1))[i]? = some x.1 := by rw [List.getElem?_map, hx]; rfl
  have h2 : (Q.map (·.1))[j]? = some x.1 := by rw [List.getElem?_map, hy]; simp [e]
  exact (List.getElem?_inj (List.getElem?_eq_some_iff.1 h1).1 n1).1 (h1.trans h2.symm)
theorem place_free {Q : List (ItQ α)} {ks : List Nat} (nd : (Q.map (·.1) ++ ks).Nodup) {x : ItQ α} (hx : x ∈ Q) {k : Nat} (hk : k ∈ ks) : x.1 ≠ k :=
  (List.nodup_append.1 nd).2.2 _ (List.mem_map_of_mem hx) _ hk
theorem erase_perm {β : Type} : ∀ {Q : List β} {i : Nat} (h : i < Q.length), (Q[i] :: Q.eraseIdx i).Perm Q
  | _ :: _, 0, _ => List.Perm.refl _
  | x :: Q, i + 1, h => by
    have h2 : i < Q.length := by simpa using h
    exact (List.Perm.swap x (Q[i]) (Q.eraseIdx i)).trans ((erase_perm h2).cons x)
/-- An item is taken off. -/
theorem take_inv {q : Fq α} {tk : Int} {f : Int → Option Int} {c : Nat} {Q : List (ItQ α)} {ks : List Nat} (h : InvQ z q tk f c Q ks) {i : Nat} {x : ItQ α} (hx : Q[i]? = some x) :
    InvQ z (takeQ z q (x.1 : Int)) tk (upd f x.2.1 none) (c - 1) (Q.eraseIdx i) (x.1 :: ks) := by
  have hil := (List.getElem?_eq_some_iff.1 hx).1
  have hxm := List.mem_of_getElem? hx
  have his := h.isA hx
  have hsl := h.link i x hx
  have hg : (getA z q.S (x.1 : Int)).1 = (x.2.2, x.2.1, pv Q i, plc Q (i + 1)) := by rw [getA_slot _ _ his]; exact hsl.1
  have hT : takeQ z q (x.1 : Int) = joinF z ⟨dropA z q.S (x.1 : Int), q.fi, q.la⟩ (pv Q i) (plc Q (i + 1)) := by unfold takeQ; rw [if_pos his, hg]
  have hD : dropA z q.S (x.1 : Int) = ⟨q.S.l.set x.1 (z, false, q.S.free), x.1 + 1, q.S.n - 1⟩ := by unfold dropA; rw [if_pos his]; simp
  have hxl := h.lt x hxm
  -- the neighbours
  have e1 : ∀ j y, Q[j]? = some y → j ≠ i → (Go.Proofs.YtngokihncjkiaaaDoor.isA z (dropA z q.S (x.1 : Int)).l (y.1 : Int) = true) := fun j y hy hj => by
    rw [hD]
    refine isA_iff.2 ⟨by omega, by simp; exact h.lt y (List.mem_of_getElem? hy), ?_⟩
    simp only [Int.toNat_natCast]
    rw [slot_set hxl, if_neg (fun e => hj (place_inj h.nd hy hx e))]
    exact (h.link j y hy).2
  have hpv : (i = 0 ∧ pv Q i = -1) ∨ (0 < i ∧ ∃ y, Q[i - 1]? = some y ∧ pv Q i = (y.1 : Int)) := by
    unfold pv
    by_cases h0 : i = 0
    · exact .inl ⟨h0, by rw [if_pos h0]⟩
    · refine .inr ⟨by omega, Q[i - 1], List.getElem?_eq_getElem (by omega), ?_⟩
      rw [if_neg h0, plc_some (List.getElem?_eq_getElem (by omega))]
  have hnx : (Q.length ≤ i + 1 ∧ plc Q (i + 1) = -1) ∨ (i + 1 < Q.length ∧ ∃ y, Q[i + 1]? = some y ∧ plc Q (i + 1) = (y.1 : Int)) := by
    by_cases h0 : i + 1 < Q.length
    · exact .inr ⟨h0, Q[i + 1], List.getElem?_eq_getElem h0, plc_some (List.getElem?_eq_getElem h0)⟩
    · exact .inl ⟨by omega, plc_none (by omega)⟩
  obtain ⟨S1, eS1⟩ : ∃ S1, dropA z q.S (x.1 : Int) = S1 := ⟨_, rfl⟩
  rw [eS1] at hT e1
  have hl1 : S1.l.length = q.S.l.length := by rw [← eS1, hD]; simp
  have hs1 : ∀ k, slotA z S1.l k = if k = x.1 then (z, false, q.S.free) else slotA z q.S.l k := fun k => by rw [← eS1, hD]; exact slot_set hxl
  have haA : Go.Proofs.YtngokihncjkiaaaDoor.isA z S1.l (pv Q i) = decide (0 < i) := by
    rcases hpv with ⟨h0, h1⟩ | ⟨h0, y, hy, h1⟩
    · rw [h1, isA_neg (by omega)]; simp [h0]
    · rw [h1, e1 _ y hy (by omega)]; simp [h0]
  have hbB : Go.Proofs.YtngokihncjkiaaaDoor.isA z S1.l (plc Q (i + 1)) = decide (i + 1 < Q.length) := by
    rcases hnx with ⟨h0, h1⟩ | ⟨h0, y, hy, h1⟩
    · rw [h1, isA_neg (by omega)]; simp; omega
    · rw [h1, e1 _ y hy (by omega)]; simp [h0]
  have hab : Go.Proofs.YtngokihncjkiaaaDoor.isA z S1.l (pv Q i) = true → pv Q i ≠ plc Q (i + 1) := fun ha e => by
    rw [haA] at ha
    have ha := of_decide_eq_true ha
    rcases hpv with ⟨h0, _⟩ | ⟨_, y, hy, h1⟩
    · omega
    · rcases hnx with ⟨h2, h3⟩ | ⟨_, y', hy', h3⟩
      · rw [h1, h3] at e; omega
      · rw [h1, h3] at e
        have := place_inj h.nd hy hy' (by omega)
        omega
  obtain ⟨j1, j2, j3, j4, j5, j6⟩ := join_spec (z := z) (⟨S1, q.fi, q.la⟩ : Fq α) hab
  rw [← hT] at j1 j2 j3 j4 j5 j6
  simp only at j1 j2 j3 j4 j5 j6
  rw [haA] at j4 j6
  rw [hbB] at j5 j6
  have hoff : ∀ k, (slotA z S1.l k).2.1 = false → slotA z (takeQ z q (x.1 : Int)).S.l k = slotA z S1.l k := fun k hk => by
    rw [j6]
    have n1 : ¬ (decide (i + 1 < Q.length) = true ∧ (k : Int) = plc Q (i + 1)) := by
      rintro ⟨g1, g2⟩
      rw [← hbB, ← g2] at g1
      have := (isA_iff.1 g1).2.2
      simp only [Int.toNat_natCast] at this
      rw [hk] at this; cases this
    have n2 : ¬ (decide (0 < i) = true ∧ (k : Int) = pv Q i) := by
      rintro ⟨g1, g2⟩
      rw [← haA, ← g2] at g1
      have := (isA_iff.1 g1).2.2
      simp only [Int.toNat_natCast] at this
      rw [hk] at this; cases this
    rw [if_neg n1, if_neg n2]
  have hel : (Q.eraseIdx i).length = Q.length - 1 := List.length_eraseIdx_of_lt hil
  have hP : ∀ j, plc (Q.eraseIdx i) j = if j < i then plc Q j else plc Q (j + 1) := fun j => by
    unfold plc
    rw [List.getElem?_eraseIdx]
    by_cases hj : j < i
    · rw [if_pos hj, if_pos hj]
    · rw [if_neg hj, if_neg hj]
  have hsub : ∀ y ∈ Q.eraseIdx i, y ∈ Q := fun y hy => List.mem_of_mem_eraseIdx hy
  have hperm : (Q.map (·.1) ++ ks).Perm ((Q.eraseIdx i).map (·.1) ++ x.1 :: ks) := by
    have h1 : (x :: Q.eraseIdx i).Perm Q := by
      have := erase_perm hil
      rwa [(List.getElem?_eq_some_iff.1 hx).2] at this
    have h2 := (h1.map (·.1)).symm.append_right ks
    exact h2.trans List.perm_middle.symm
  refine ⟨(hperm.nodup_iff).1 h.nd, ?_, ?_, ?_, fun y hy => ?_, fun j y hy => ?_, ?_, ?_, fun t p => ?_, fun y hy => h.tk y (hsub y hy), ?_, ?_⟩
  · rw [j1, hl1, h.len, hel]; simp; omega
  · rw [j3, ← eS1, hD, h.n, hel]; simp; omega
  · refine ⟨by rw [j2, ← eS1, hD], by rw [j1, hl1]; exact hxl, ?_, ?_⟩
    · rw [hoff _ (by rw [hs1, if_pos rfl]), hs1, if_pos rfl]
    · rw [hoff _ (by rw [hs1, if_pos rfl]), hs1, if_pos rfl]
      refine h.chain.congr (by rw [j1, hl1]; exact Nat.le_refl _) (fun k hk => ?_)
      have hk1 : k ≠ x.1 := fun e => place_free h.nd hxm hk e.symm
      have hk2 : slotA z S1.l k = slotA z q.S.l k := by rw [hs1, if_neg hk1]
      rw [hoff k (by rw [hk2]; exact (h.chain.off k hk).2), hk2]
  · rw [j1, hl1]; exact h.lt y (hsub y hy)
  · rw [List.getElem?_eraseIdx] at hy
    have hjy : ∃ m, Q[m]? = some y ∧ m ≠ i ∧ ((j < i ∧ m = j) ∨ (i ≤ j ∧ m = j + 1)) := by
      split at hy
      · rename_i hj; exact ⟨j, hy, by omega, .inl ⟨hj, rfl⟩⟩
      · rename_i hj; exact ⟨j + 1, hy, by omega, .inr ⟨by omega, rfl⟩⟩
    obtain ⟨m, hm, hmi, hmj⟩ := hjy
    have hml := (List.getElem?_eq_some_iff.1 hm).1
    have hne : y.1 ≠ x.1 := fun e => hmi (place_inj h.nd hm hx e)
    have hk2 : slotA z S1.l y.1 = slotA z q.S.l y.1 := by rw [hs1, if_neg hne]
    obtain ⟨g1, g2⟩ := h.link m y hm
    have hb1 : (decide (i + 1 < Q.length) = true ∧ (y.1 : Int) = plc Q (i + 1)) ↔ m = i + 1 := by
      constructor
      · rintro ⟨c1, c2⟩
        rcases hnx with ⟨h0, _⟩ | ⟨_, y', hy', h3⟩
        · have := of_decide_eq_true c1; omega
        · exact place_inj h.nd hm hy' (by omega)
      · intro e
        subst e
        exact ⟨by simpa using hml, (plc_some hm).symm⟩
    have ha1 : (decide (0 < i) = true ∧ (y.1 : Int) = pv Q i) ↔ m + 1 = i := by
      constructor
      · rintro ⟨c1, c2⟩
        rcases hpv with ⟨h0, _⟩ | ⟨h0, y', hy', h3⟩
        · have := of_decide_eq_true c1; omega
        · have := place_inj h.nd hm hy' (by omega); omega
      · intro e
        subst e
        refine ⟨by simp, ?_⟩
        unfold pv
        rw [if_neg (by omega), Nat.add_sub_cancel]
        exact (plc_some hm).symm
    rw [j6, hk2]
    have pe : pv (Q.eraseIdx i) j = if m = i + 1 then pv Q i else pv Q m := by
      unfold pv
      rcases hmj with ⟨c1, c2⟩ | ⟨c1, c2⟩
      · rw [if_neg (show ¬ m = i + 1 by omega), c2]
        split
        · rfl
        · rw [hP, if_pos (by omega)]
      · by_cases c3 : m = i + 1
        · rw [if_pos c3, show j = i by omega]
          split
          · rfl
          · rw [hP, if_pos (by omega)]
        · rw [if_neg c3, if_neg (show ¬ j = 0 by omega), if_neg (show ¬ m = 0 by omega), hP, if_neg (show ¬ j - 1 < i by omega), show j - 1 + 1 = m - 1 by omega]
    have ne : plc (Q.eraseIdx i) (j + 1) = if m + 1 = i then plc Q (i + 1) else plc Q (m + 1) := by
      rw [hP]
      rcases hmj with ⟨c1, c2⟩ | ⟨c1, c2⟩
      · by_cases c3 : m + 1 = i
        · rw [if_pos c3, if_neg (by omega), show j + 1 + 1 = i + 1 by omega]
        · rw [if_neg c3, if_pos (by omega), c2]
      · rw [if_neg (by omega), if_neg (show ¬ m + 1 = i by omega), c2]
    rw [pe, ne]
    by_cases c3 : m = i + 1
    · rw [if_pos (hb1.2 c3), if_pos c3, if_neg (show ¬ m + 1 = i by omega), g1]
      exact ⟨rfl, rfl⟩
    · rw [if_neg (fun q => c3 (hb1.1 q)), if_neg c3]
      by_cases c4 : m + 1 = i
      · rw [if_pos (ha1.2 c4), if_pos c4, g1]
        exact ⟨rfl, rfl⟩
      · rw [if_neg (fun q => c4 (ha1.1 q)), if_neg c4]
        exact ⟨g1, g2⟩
  · rw [j4, hP]
    by_cases c1 : 0 < i
    · rw [if_pos (by simpa using c1), if_pos c1]; exact h.fi
    · rw [if_neg (by simpa using c1), if_neg c1, show i = 0 by omega]
  · rw [j5, hel]
    by_cases c1 : i + 1 < Q.length
    · rw [if_pos (by simpa using c1), h.la]
      unfold pv
      rw [if_neg (by omega), if_neg (by omega), hP, if_neg (by omega), show Q.length - 1 - 1 + 1 = Q.length - 1 by omega]
    · rw [if_neg (by simpa using c1), show Q.length - 1 = i by omega]
      unfold pv
      split
      · rfl
      · rw [hP, if_pos (by omega)]
  · unfold upd
    have htk : ∀ y ∈ Q.eraseIdx i, y.2.1 ≠ x.2.1 := by
      intro y hy e
      obtain ⟨j, hj⟩ := List.getElem?_of_mem hy
      rw [List.getElem?_eraseIdx] at hj
      have hjy : ∃ m, Q[m]? = some y ∧ m ≠ i := by
        split at hj
        · exact ⟨j, hj, by omega⟩
        · exact ⟨j + 1, hj, by omega⟩
      obtain ⟨m, hm, hmi⟩ := hjy
      have hpw := List.pairwise_iff_getElem.1 h.tnd
      have hml := (List.getElem?_eq_some_iff.1 hm).1
      have ey := (List.getElem?_eq_some_iff.1 hm).2
      have ex := (List.getElem?_eq_some_iff.1 hx).2
      rcases Nat.lt_or_gt_of_ne hmi with g | g
      · have := hpw m i (by simpa using hml) (by simpa using hil) g
        simp only [List.getElem_map, ex, ey] at this
        omega
      · have := hpw i m (by simpa using hil) (by simpa using hml) g
        simp only [List.getElem_map, ex, ey] at this
        omega
    by_cases c1 : t = x.2.1
    · rw [if_pos c1]
      constructor
      · intro e; cases e
      · rintro ⟨y, hy, e, _⟩
        exact (htk y hy (by rw [e, c1])).elim
    · rw [if_neg c1, h.f]
      constructor
      · rintro ⟨y, hy, e, hp⟩
        refine ⟨y, ?_, e, hp⟩
        have h1 : (x :: Q.eraseIdx i).Perm Q := by
          have := erase_perm hil
          rwa [(List.getElem?_eq_some_iff.1 hx).2] at this
        rcases List.mem_cons.1 (h1.mem_iff.2 hy) with rfl | h2
        · exact (c1 e.symm).elim
        · exact h2
      · rintro ⟨y, hy, e, hp⟩
        exact ⟨y, hsub y hy, e, hp⟩
  · exact h.tnd.sublist ((List.eraseIdx_sublist Q i).map _)
  · rw [hel, h.c]
/-- Where a value is put. -/
theorem put_spec {q : Fq α} {tk : Int} {f : Int → Option Int} {c : Nat} {Q : List (ItQ α)} {ks : List Nat} (h : InvQ z q tk f c Q ks) {most : Int} (hr : q.S.n < most) (v : LkG α) :
    ∃ S' p ks', putA z most q.S v = (S', p, 0) ∧ S'.l.length = Q.length + 1 + ks'.length ∧ q.S.l.length ≤ S'.l.length ∧ p < S'.l.length ∧ p ≤ q.S.l.length ∧ S'.n = (Q.length : Int) + 1 ∧ ChainQ z S'.l S'.free ks' ∧
      (∀ k, slotA z S'.l k = if k = p then (v, true, 0) else slotA z q.S.l k) ∧ (Q.map (·.1) ++ p :: ks').Nodup ∧ (S'.l.length = q.S.l.length ∨ S'.l.length = Q.length + 1) := by
  have hlen := h.len
  have hch := h.chain
  have hnd := h.nd
  unfold putA
  rw [if_neg (show ¬ most ≤ q.S.n by omega)]
  cases ks with
  | nil =>
    have h0 : q.S.free = 0 := hch
    rw [if_pos h0]
    refine ⟨_, _, [], rfl, by simp at hlen; simp; omega, by simp, by simp, Nat.le_refl _, by rw [h.n], rfl, fun k => slot_snoc k, ?_, .inr (by simp at hlen; simp; omega)⟩
    rw [List.nodup_append] at hnd ⊢
    refine ⟨hnd.1, by simp, fun a ha b hb => ?_⟩
    simp only [List.mem_cons, List.not_mem_nil, or_false] at hb
    obtain ⟨y, hy, rfl⟩ := List.mem_map.1 ha
    have := h.lt y hy
    omega
  | cons k ks =>
    obtain ⟨h1, hk, h3, h4⟩ := hch
    rw [if_neg (by omega), h1, Nat.add_sub_cancel]
    refine ⟨_, _, ks, rfl, by simp at hlen; simp; omega, by simp, by simpa using hk, Nat.le_of_lt hk, by rw [h.n], ?_, fun j => slot_set hk, hnd, .inl (by simp)⟩
    refine h4.congr (by simp) (fun j hj => ?_)
    rw [slot_set hk, if_neg]
    rintro rfl
    have h5 := (List.nodup_append.1 hnd).2.1
    rw [List.nodup_cons] at h5
    exact h5.1 hj
/-- An item is put at the end. -/
theorem push_inv {q : Fq α} {tk : Int} {f : Int → Option Int} {c : Nat} {Q : List (ItQ α)} {ks : List Nat} (h : InvQ z q tk f c Q ks) (htk : 0 ≤ tk) {most : Int} (hr : q.S.n < most) (v : α) :
    ∃ S' p ks', putA z most q.S (v, tk + 1, -1, -1) = (S', p, 0) ∧ p ≤ q.S.l.length ∧ f (tk + 1) = none ∧ (S'.l.length = q.S.l.length ∨ S'.l.length = Q.length + 1) ∧
      InvQ z (pushQ z q S' (p : Int)) (tk + 1) (upd f (tk + 1) (some (p : Int))) (c + 1) (Q ++ [(p, tk + 1, v)]) ks' := by
  obtain ⟨S', p, ks', hput, l1, l2, l3, l4, hn, hch, hs, hnd, hll⟩ := put_spec h hr (v, tk + 1, -1, -1)
  have hpf : ∀ y ∈ Q, y.1 ≠ p := fun y hy => (List.nodup_append.1 hnd).2.2 _ (List.mem_map_of_mem hy) _ (by simp)
  have hfn : f (tk + 1) = none := by
    cases e : f (tk + 1) with
    | none => rfl
    | some r => obtain ⟨y, hy, h1, _⟩ := (h.f _ _).1 e; have := (h.tk y hy).2; omega
  refine ⟨S', p, ks', hput, l4, hfn, hll, ?_⟩
  have hla := h.la
  have e1 : ∀ (j : Nat) (y : ItQ α), Q[j]? = some y → Go.Proofs.YtngokihncjkiaaaDoor.isA z S'.l (y.1 : Int) = true := fun j y hy => by
    have hym := List.mem_of_getElem? hy
    refine isA_iff.2 ⟨by omega, by have := h.lt y hym; omega, ?_⟩
    simp only [Int.toNat_natCast]
    rw [hs, if_neg (hpf y hym)]
    exact (h.link j y hy).2
  have hpv : (Q = [] ∧ pv Q Q.length = -1) ∨ (0 < Q.length ∧ ∃ y, Q[Q.length - 1]? = some y ∧ pv Q Q.length = (y.1 : Int)) := by
    unfold pv
    by_cases h0 : Q.length = 0
    · exact .inl ⟨List.eq_nil_of_length_eq_zero h0, by rw [if_pos h0]⟩
    · refine .inr ⟨by omega, Q[Q.length - 1], List.getElem?_eq_getElem (by omega), ?_⟩
      rw [if_neg h0, plc_some (List.getElem?_eq_getElem (by omega))]
  have haA : Go.Proofs.YtngokihncjkiaaaDoor.isA z S'.l (pv Q Q.length) = decide (0 < Q.length) := by
    rcases hpv with ⟨h0, h1⟩ | ⟨h0, y, hy, h1⟩
    · rw [h1, isA_neg (by omega), h0]; rfl
    · rw [h1, e1 _ y hy]; simp [h0]
  have hbB : Go.Proofs.YtngokihncjkiaaaDoor.isA z S'.l (p : Int) = true := isA_iff.2 ⟨by omega, by omega, by simp only [Int.toNat_natCast]; rw [hs, if_pos rfl]⟩
  have hab : Go.Proofs.YtngokihncjkiaaaDoor.isA z S'.l (pv Q Q.length) = true → pv Q Q.length ≠ (p : Int) := fun _ e => by
    rcases hpv with ⟨_, h1⟩ | ⟨_, y, hy, h1⟩
    · omega
    · exact hpf y (List.mem_of_getElem? hy) (by omega)
  obtain ⟨j1, j2, j3, j4, j5, j6⟩ := join_spec (z := z) (⟨S', q.fi, q.la⟩ : Fq α) (a := pv Q Q.length) (b := (p : Int)) hab
  have hQ : pushQ z q S' (p : Int) = ⟨(joinF z ⟨S', q.fi, q.la⟩ (pv Q Q.length) (p : Int)).S, (joinF z ⟨S', q.fi, q.la⟩ (pv Q Q.length) (p : Int)).fi, p⟩ := by unfold pushQ; rw [hla]
  rw [hQ]
  obtain ⟨J, eJ⟩ : ∃ J, joinF z (⟨S', q.fi, q.la⟩ : Fq α) (pv Q Q.length) (p : Int) = J := ⟨_, rfl⟩
  rw [eJ] at j1 j2 j3 j4 j5 j6 ⊢
  simp only at j1 j2 j3 j4 j5 j6
  rw [haA] at j4 j6
  rw [hbB] at j6
  have hoff : ∀ k, (slotA z S'.l k).2.1 = false → slotA z J.S.l k = slotA z S'.l k := fun k hk => by
    rw [j6]
    have n1 : ¬ (true = true ∧ (k : Int) = (p : Int)) := by
      rintro ⟨_, g2⟩
      have : k = p := by omega
      subst this
      rw [hs, if_pos rfl] at hk; cases hk
    have n2 : ¬ (decide (0 < Q.length) = true ∧ (k : Int) = pv Q Q.length) := by
      rintro ⟨g1, g2⟩
      rw [← haA, ← g2] at g1
      have := (isA_iff.1 g1).2.2
      simp only [Int.toNat_natCast] at this
      rw [hk] at this; cases this
    rw [if_neg n1, if_neg n2]
  have hP : ∀ j, plc (Q ++ [(p, tk + 1, v)]) j = if j < Q.length then plc Q j else if j = Q.length then (p : Int) else -1 := fun j => by
    unfold plc
    by_cases g1 : j < Q.length
    · rw [if_pos g1, List.getElem?_append_left g1]
    · rw [if_neg g1, List.getElem?_append_right (by omega)]
      by_cases g2 : j = Q.length
      · rw [if_pos g2, g2, Nat.sub_self]; rfl
      · rw [if_neg g2, List.getElem?_eq_none (by simp; omega)]
  have hpve : ∀ j, j ≤ Q.length → pv (Q ++ [(p, tk + 1, v)]) j = pv Q j := fun j hj => by
    unfold pv
    split
    · rfl
    · rw [hP, if_pos (by omega)]
  refine ⟨?_, ?_, ?_, ?_, fun y hy => ?_, fun j y hy => ?_, ?_, ?_, fun t r => ?_, fun y hy => ?_, ?_, ?_⟩
  · simp only [List.map_append, List.map_cons, List.map_nil, List.append_assoc, List.cons_append, List.nil_append]; exact hnd
  · show J.S.l.length = _
    rw [j1, l1]; simp
  · show J.S.n = _
    rw [j3, hn]; simp
  · show ChainQ z J.S.l J.S.free ks'
    rw [j2]
    refine hch.congr (by rw [j1]; exact Nat.le_refl _) (fun k hk => hoff k (hch.off k hk).2)
  · show y.1 < J.S.l.length
    rw [j1]
    rcases List.mem_append.1 hy with hy | hy
    · have := h.lt y hy; omega
    · simp only [List.mem_cons, List.not_mem_nil, or_false] at hy
      rw [hy]; exact l3
  · show (slotA z J.S.l y.1).1 = _ ∧ (slotA z J.S.l y.1).2.1 = true
    rw [j6]
    by_cases g1 : j < Q.length
    · rw [List.getElem?_append_left g1] at hy
      have hym := List.mem_of_getElem? hy
      obtain ⟨k1, k2⟩ := h.link j y hy
      have hk2 : slotA z S'.l y.1 = slotA z q.S.l y.1 := by rw [hs, if_neg (hpf y hym)]
      rw [if_neg (fun q => hpf y hym (by have := q.2; omega)), hk2, hpve j (by omega), hP]
      by_cases g2 : j + 1 < Q.length
      · have n2 : ¬ (decide (0 < Q.length) = true ∧ (y.1 : Int) = pv Q Q.length) := by
          rintro ⟨_, c2⟩
          rcases hpv with ⟨h0, _⟩ | ⟨_, y', hy', h3⟩
          · rw [h0] at g1; simp at g1
          · have := place_inj h.nd hy hy' (by omega); omega
        rw [if_neg n2, if_pos g2]
        exact ⟨k1, k2⟩
      · have e : j = Q.length - 1 := by omega
        have n2 : decide (0 < Q.length) = true ∧ (y.1 : Int) = pv Q Q.length := by
          refine ⟨by simp; omega, ?_⟩
          unfold pv
          rw [if_neg (by omega), ← e, plc_some hy]
        rw [if_pos n2, if_neg g2, if_pos (by omega), k1]
        exact ⟨rfl, rfl⟩
    · rw [List.getElem?_append_right (by omega)] at hy
      have hj : j = Q.length := by
        have := (List.getElem?_eq_some_iff.1 hy).1
        simp at this; omega
      subst hj
      rw [Nat.sub_self] at hy
      simp only [List.getElem?_cons_zero, Option.some.injEq] at hy
      subst hy
      rw [if_pos ⟨rfl, rfl⟩, hs, if_pos rfl, hpve _ (Nat.le_refl _), hP, if_neg (by omega), if_neg (by omega)]
      exact ⟨rfl, rfl⟩
  · show J.fi = _
    rw [j4, hP]
    by_cases g1 : 0 < Q.length
    · rw [if_pos (by simpa using g1), if_pos g1]; exact h.fi
    · rw [if_neg (by simpa using g1), if_neg g1, if_pos (by omega)]
  · show (p : Int) = _
    unfold pv
    rw [if_neg (by simp), hP, if_neg (by simp), if_pos (by simp)]
  · unfold upd
    by_cases c1 : t = tk + 1
    · rw [if_pos c1]
      constructor
      · intro e
        injection e with e
        exact ⟨(p, tk + 1, v), by simp, c1.symm, e.symm⟩
      · rintro ⟨y, hy, e, hp⟩
        rcases List.mem_append.1 hy with hy | hy
        · have := (h.tk y hy).2; omega
        · simp only [List.mem_cons, List.not_mem_nil, or_false] at hy
          rw [hp, hy]
    · rw [if_neg c1, h.f]
      constructor
      · rintro ⟨y, hy, e, hp⟩; exact ⟨y, by simp [hy], e, hp⟩
      · rintro ⟨y, hy, e, hp⟩
        rcases List.mem_append.1 hy with hy | hy
        · exact ⟨y, hy, e, hp⟩
        · simp only [List.mem_cons, List.not_mem_nil, or_false] at hy
          rw [hy] at e
          exact (c1 e.symm).elim
  · rcases List.mem_append.1 hy with hy | hy
    · have := h.tk y hy; omega
    · simp only [List.mem_cons, List.not_mem_nil, or_false] at hy
      rw [hy]
      show 1 ≤ tk + 1 ∧ tk + 1 ≤ tk + 1
      omega
  · rw [List.map_append, List.pairwise_append]
    refine ⟨h.tnd, by simp, fun a ha b hb => ?_⟩
    obtain ⟨y, hy, rfl⟩ := List.mem_map.1 ha
    simp only [List.map_cons, List.map_nil, List.mem_cons, List.not_mem_nil, or_false] at hb
    have := (h.tk y hy).2
    omega
  · rw [h.c]; simp
/-- None. -/
theorem InvQ.nil (z : LkG α) : InvQ z ⟨⟨[], 0, 0⟩, -1, -1⟩ 0 (fun _ => none) 0 [] [] :=
  ⟨by simp, rfl, rfl, rfl, (fun x hx => by cases hx), (fun i x hx => by simp at hx), rfl, rfl, (fun t p => by simp), (fun x hx => by cases hx), by simp, rfl⟩
/-- All is small. -/
theorem InvQ.ok {q : Fq α} {tk : Int} {f : Int → Option Int} {c : Nat} {Q : List (ItQ α)} {ks : List Nat} (h : InvQ z q tk f c Q ks) : OkA q.S.l.length q.S := by
  have h1 := h.len
  have h2 := h.n
  have h3 : q.S.free ≤ q.S.l.length := by
    have := h.chain
    cases ks with
    | nil => have h0 : q.S.free = 0 := this; omega
    | cons k ks => obtain ⟨h0, h4, _⟩ := this; omega
  exact ⟨Nat.le_refl _, h3, by omega, by omega⟩
theorem map_eraseIdx {β γ : Type} (g : β → γ) : ∀ (l : List β) (i : Nat), (l.eraseIdx i).map g = (l.map g).eraseIdx i
  | [], _ => rfl
  | _ :: _, 0 => rfl
  | x :: l, i + 1 => by simp [List.eraseIdx, map_eraseIdx g l i]
theorem join_len (q : Fq α) (a b : Int) : (joinF z q a b).S.l.length = q.S.l.length := by
  have A2 : (joA z q a b).S.l.length = q.S.l.length := by
    unfold joA; split
    · exact (setA_len _ _ _).1
    · rfl
  unfold joinF joB
  split
  · exact (setA_len _ _ _).1.trans A2
  · exact A2
end
end Go.Proofs.YtngokihncjkiaaaDoor
