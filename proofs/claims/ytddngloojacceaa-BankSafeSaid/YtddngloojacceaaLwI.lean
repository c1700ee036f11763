/-
  Layer 44's BankSafe: what a safe bank lets be asked leaves it safe, and so does what is given back, all of which is free then; nothing is lost. No condition.
-/
import Derived.Test.YtddngloojacceaaLwD
import Derived.Test.YtddngloojacceaaLwH
import Derived.Test.YtddngloojacceaaBkQ
namespace Go.Proofs.Ytddngloojacceaa
open Go.RowKit Go.Shelf Go.ChangeShapes Go.WideShapes Go.ChangeAt
open Go
attribute [local go_sem] Oper.semAt_some
/-- A deed: given back?, who, where the numbers lie. -/
structure De where
  b : Bool
  who : Int
  r : Rw
def deV (d : De) : List Value := [.bool d.b, .int .i64 d.who, .slice d.r.1 d.r.2.2.length d.r.2.1]
theorem deV_length (d : De) : (deV d).length = 3 := rfl
structure Dees (w : World) (A : Option Addr) (l : List De) : Prop where
  cells : Cells w A (tab deV l)
  each : ∀ d ∈ l, Cells w d.r.1 (i64s d.r.2.2) ∧ d.r.2.2.length ≤ maxLen
theorem Dees.at {w : World} {A : Option Addr} {l : List De} (h : Dees w A l) {i : Nat} (hi : i < l.length) :
    ∃ (b o : Nat) (d : De), d ∈ l ∧ A = some ⟨b, o, none⟩ ∧ w.cell? ⟨b, o + i * 3, none⟩ = some (.bool d.b) ∧ w.cell? ⟨b, o + i * 3 + 1, none⟩ = some (.int .i64 d.who) ∧ w.cell? ⟨b, o + i * 3 + 2, none⟩ = some (.slice d.r.1 d.r.2.2.length d.r.2.1) := by
  obtain ⟨b, o, e, hc⟩ := h.cells.tab_at deV_length (k := i) (x := l[i]) (List.getElem?_eq_getElem hi) (by omega)
  exact ⟨b, o, l[i], List.getElem_mem hi, e, hc 0 _ rfl, hc 1 _ rfl, hc 2 _ rfl⟩
/-- A bank's parts behind a store into another bank's cells. -/
theorem in_store3 {y : Bk} {w : World} {b B : Nat} {z0 z1 z2 : Value} (h : y.In w) (hf : FarB y B) (hb : b < B) (hr : Rec w b 25 #[z0, z1, z2]) (hz : (∀ x, z0 ≠ .int .i64 x) ∧ (∀ x, z1 ≠ .int .i64 x) ∧ ∀ x, z2 ≠ .int .i64 x) (v0 v1 v2 : Value) :
    y.In (((w.setCell ⟨b, 0, none⟩ v0).setCell ⟨b, 1, none⟩ v1).setCell ⟨b, 2, none⟩ v2) := by
  have hk : Kept (fun k => k = b) w (((w.setCell ⟨b, 0, none⟩ v0).setCell ⟨b, 1, none⟩ v1).setCell ⟨b, 2, none⟩ v2) := (((Kept.refl (fun k => k = b) w).setCell (p := ⟨b, 0, none⟩) (.inr rfl) v0).setCell (p := ⟨b, 1, none⟩) (.inr rfl) v1).setCell (p := ⟨b, 2, none⟩) (.inr rfl) v2
  have hz' : ∀ (i : Nat) (x : Int), (#[z0, z1, z2] : Array Value)[i]? ≠ some (Value.int .i64 x) := fun i x => by
    match i with
    | 0 => simpa using hz.1 x
    | 1 => simpa using hz.2.1 x
    | 2 => simpa using hz.2.2 x
    | i + 3 => simp
  have hrow : ∀ {A : Option Addr} {l : List Rw}, RowsW w A l → (∀ b' o, A = some ⟨b', o, none⟩ → B ≤ b') → RowsW (((w.setCell ⟨b, 0, none⟩ v0).setCell ⟨b, 1, none⟩ v1).setCell ⟨b, 2, none⟩ v2) A l := fun {A l} hR hA => by
    refine ⟨fun hne => ?_, fun i hi => Cells.not_bank (hR.each i hi) hr hz' hk⟩
    obtain ⟨b1, o1, e, hc⟩ := hR.cells hne
    refine ⟨b1, o1, e, fun i v hi => hk.cell (hc i v hi) (fun (e2 : b1 = b) => ?_)⟩
    have := hA b1 o1 e
    omega
  exact ⟨Cells.not_bank h.f hr hz' hk, hrow h.h hf.1, hrow h.m hf.2⟩
/-- What holds between two deeds: the bank that is, and all there is. -/
structure SfW (w wr : World) (bb k : Nat) (A0 : Option Addr) (n0 d0 : Nat) (A1 : Option Addr) (n1 d1 : Nat) (A2 : Option Addr) (n2 d2 : Nat) (x : Bk) (sv : Value) (S : List Int) : Prop where
  below : Below w.heap.size w wr
  box : Rec wr bb 25 #[.slice A0 n0 d0, .slice A1 n1 d1, .slice A2 n2 d2]
  cs : x.cs = #[.slice A0 n0 d0, .slice A1 n1 d1, .slice A2 n2 d2]
  inn : x.In wr
  sum : wr.ownsRow w.heap.size 3 1 sv k (i64s S)
  may : mayB x = true
  safe : orderF x ≠ none
  tot : totalF x = S
  len : x.F.2.2.length = k
theorem SfW.far {w wr w' : World} {bb k : Nat} {A0 : Option Addr} {n0 d0 : Nat} {A1 : Option Addr} {n1 d1 : Nat} {A2 : Option Addr} {n2 d2 : Nat} {x : Bk} {sv : Value} {S : List Int} (h : SfW w wr bb k A0 n0 d0 A1 n1 d1 A2 n2 d2 x sv S) (hb : Below wr.heap.size wr w') : SfW w w' bb k A0 n0 d0 A1 n1 d1 A2 n2 d2 x sv S :=
  ⟨h.below.trans (hb.mono h.below.size), h.box.below hb (Nat.le_refl _), h.cs, h.inn.below hb, own_below h.sum hb (Nat.le_refl _), h.may, h.safe, h.tot, h.len⟩
theorem sm_of_may {x : Bk} (h : mayB x = true) : x.Sm := by
  have ok := Bk.Ok.of h
  have k4 := ok.k4
  have h8 := ok.h8
  refine ⟨by omega, by omega, fun i => ⟨?_, ?_⟩⟩
  · by_cases hi : i < x.H.length
    · rw [ok.hl i hi]; omega
    · unfold hasR rAt; rw [List.getElem?_eq_none (by omega)]; simp
  · by_cases hi : i < x.H.length
    · rw [ok.ml i hi]; omega
    · unfold mostR rAt; rw [List.getElem?_eq_none (by have := ok.em; omega)]; simp
theorem totalF_eqv {x y : Bk} (e : Eqv x y) : totalF x = totalF y := by
  unfold totalF
  rw [e.hl, e.f]
  have : ∀ (l F : List Int), freeA x F l = freeA y F l := fun l => by
    induction l with
    | nil => intro F; rfl
    | cons a l ih =>
      intro F
      show freeA x (plusF F (hasR x a.toNat) 1) l = freeA y (plusF F (hasR y a.toNat) 1) l
      rw [ih, e.has]
  exact this _ _
/-- What comes of a deed that was done. -/
theorem deed_ok {x y : Bk} (hm : mayB x = true) (ho : orderF x ≠ none) {who : Int} {n : List Int} {b : Bool} (hc : (if b then giveE x who n else askE x who n) = 0) (he : Eqv y (movedB x who.toNat n (if b then -1 else 1))) :
    mayB y = true ∧ orderF y ≠ none ∧ totalF y = totalF x ∧ y.F.2.2.length = x.F.2.2.length := by
  have ok := Bk.Ok.of hm
  have hf : fitsF x who n = true := by
    cases h : fitsF x who n with
    | true => rfl
    | false =>
      cases b
      · simp only [Bool.false_eq_true, if_false] at hc; unfold askE at hc; rw [if_pos h] at hc; cases hc
      · simp only [if_true] at hc; unfold giveE at hc; rw [if_pos h] at hc; cases hc
  obtain ⟨_, j, rfl, hj, hl, hp⟩ := fits_of hf
  rw [Int.toNat_natCast] at he
  have ht := totalF_eqv he
  rw [total_moved ok hj] at ht
  have hlen : y.F.2.2.length = x.F.2.2.length := by rw [he.f, movedB_free, plusF_length]
  cases b with
  | true =>
    simp only [if_true] at hc he
    unfold giveE at hc
    rw [if_neg (by rw [hf]; decide)] at hc
    rw [Int.toNat_natCast] at hc
    have h1 : roomK x.F.2.2 n x.F.2.2.length = true := by
      cases h : roomK x.F.2.2 n x.F.2.2.length with
      | true => rfl
      | false => rw [if_pos h] at hc; cases hc
    rw [if_neg (by rw [h1]; decide)] at hc
    have h2 : withK n (hasR x j) n.length = true := by
      cases h : withK n (hasR x j) n.length with
      | true => rfl
      | false => rw [if_pos h] at hc; cases hc
    obtain ⟨g1, g2⟩ := give_safe ok hm ho hj hl (fun i hi => hp i (by omega)) (fun i hi => withK_iff.1 h2 i (by omega)) (fun i hi => roomK_iff.1 h1 i hi)
    exact ⟨by rw [he.may]; exact g1, by rw [he.order]; exact g2, ht, hlen⟩
  | false =>
    simp only [Bool.false_eq_true, if_false] at hc he
    unfold askE at hc
    rw [if_neg (by rw [hf]; decide)] at hc
    rw [Int.toNat_natCast] at hc
    have h1 : withK n (plusF (mostR x j) (hasR x j) (-1)) n.length = true := by
      cases h : withK n (plusF (mostR x j) (hasR x j) (-1)) n.length with
      | true => rfl
      | false => rw [if_pos h] at hc; cases hc
    rw [if_neg (by rw [h1]; decide)] at hc
    have h2 : withK n x.F.2.2 n.length = true := by
      cases h : withK n x.F.2.2 n.length with
      | true => rfl
      | false => rw [if_pos h] at hc; cases hc
    rw [if_neg (by rw [h2]; decide)] at hc
    have hs : orderF (movedB x j n 1) ≠ none := fun h => by rw [if_pos h] at hc; cases hc
    have hmv : mayB (movedB x j n 1) = true := movedB_may ok hj hl (fun i hi => by
      have a1 := hp i (by omega)
      have a2 := withK_iff.1 h2 i (by omega)
      have a3 := ok.fv i hi
      omega) (fun i hi => by
      have a1 := hp i (by omega)
      have a2 := withK_iff.1 h1 i (by omega)
      have a3 := ok.hv j hj i hi
      rw [plusF_at (by rw [ok.ml j hj]; exact hi)] at a2
      omega)
    exact ⟨by rw [he.may]; exact hmv, by rw [he.order]; exact hs, ht, hlen⟩
end Go.Proofs.Ytddngloojacceaa
