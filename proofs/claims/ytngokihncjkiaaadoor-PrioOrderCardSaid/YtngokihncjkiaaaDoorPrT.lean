/-
  Layer 39: how many there are at all levels together. No program in sight.
-/
import Derived.Test.YtngokihncjkiaaaDoorLift
import Derived.Test.YtngokihncjkiaaaDoorRows
import Derived.Test.YtngokihncjkiaaaDoorIdset
import Derived.WalkKit
import Derived.WalkSpells
import Derived.WalkLawsBesides
import Derived.Laws.Bits64b
import Derived.Test.YtngokihncjkiaaaDoorAppC
namespace Go.Proofs.YtngokihncjkiaaaDoor
open Go.RowKit
attribute [local go_sem] Oper.semAt_some
theorem bits_andNot_u64_nat (a b : Nat) (ha : a < 18446744073709551616) (hb : b < 18446744073709551616) : ∃ r : Nat, bits .andNot .u64 (a : Int) (b : Int) = (r : Int) ∧ r < 18446744073709551616 ∧ ∀ i, r.testBit i = (a.testBit i && !b.testBit i) := by
  have h1 : (BitVec.ofInt 64 (a : Int)).toNat = a := by
    rw [BitVec.ofInt_natCast, BitVec.toNat_ofNat]; exact Nat.mod_eq_of_lt (by omega)
  have h2 : (BitVec.ofInt 64 (b : Int)).toNat = b := by
    rw [BitVec.ofInt_natCast, BitVec.toNat_ofNat]; exact Nat.mod_eq_of_lt (by omega)
  have hlt : (BitVec.ofInt 64 (a : Int) &&& ~~~ BitVec.ofInt 64 (b : Int)).toNat < 2 ^ 64 := BitVec.isLt _
  refine ⟨(BitVec.ofInt 64 (a : Int) &&& ~~~ BitVec.ofInt 64 (b : Int)).toNat, ?_, by omega, fun i => ?_⟩
  · show IntKind.u64.wrap ((BitVec.ofInt 64 (a : Int) &&& ~~~ BitVec.ofInt 64 (b : Int)).toNat : Int) = _
    rw [IntKind.wrap_u64]
    omega
  · rw [BitVec.toNat_and, Nat.testBit_and, h1]
    by_cases hi : i < 64
    · rw [BitVec.testBit_toNat, BitVec.getLsbD_not, ← BitVec.testBit_toNat, h2]
      simp [hi]
    · rw [Nat.testBit_lt_two_pow (x := a) (Nat.lt_of_lt_of_le (show a < 2 ^ 64 by omega) (Nat.pow_le_pow_right (by omega) (by omega)))]
      simp
/-- The set of those levels that are f. -/
def IsSet (s : Nat) (f : Nat → Bool) : Prop := s < 18446744073709551616 ∧ ∀ i, i < 64 → s.testBit i = f i
theorem IsSet.uniq {s s' : Nat} {f : Nat → Bool} (h : IsSet s f) (h' : IsSet s' f) : s = s' := by
  apply Nat.eq_of_testBit_eq
  intro i
  by_cases hi : i < 64
  · rw [h.2 i hi, h'.2 i hi]
  · have h64 : 2 ^ 64 ≤ 2 ^ i := Nat.pow_le_pow_right (by omega) (by omega)
    rw [Nat.testBit_lt_two_pow (Nat.lt_of_lt_of_le h.1 h64), Nat.testBit_lt_two_pow (Nat.lt_of_lt_of_le h'.1 h64)]
theorem wrap_pow (n : Nat) (h : n ≤ 63) : IntKind.u64.wrap ((2 : Int) ^ n) = 2 ^ n := by
  have h2 : (2 : Int) ^ n ≤ 2 ^ 63 := by
    have := Nat.pow_le_pow_right (n := 2) (by omega) h
    exact_mod_cast this
  have h3 : (0 : Int) < 2 ^ n := Int.pow_pos (by omega)
  generalize (2 : Int) ^ n = x at *
  simp [IntKind.wrap, IntKind.min, IntKind.max, IntKind.signed, IntKind.bits]
  omega
theorem pow_lt64 {k : Nat} (h : k < 64) : 2 ^ k < 18446744073709551616 := by
  have := Nat.pow_lt_pow_right (a := 2) (by omega) h
  simpa using this
set_option maxHeartbeats 400000 in
theorem bit_any (k : Nat) (hk : k < 64) (w : World) : Calls Tryd.prog 67 #[.int .i64 (k : Int)] w (Gives (.int .u64 ((2 : Int) ^ k)) w) := by
  have h1 : ¬ (k : Int) < 0 := by omega
  have h2 : ¬ 63 < (k : Int) := by omega
  have h3 := wrap_pow k (by omega)
  go_enter Tryd.func67, Tryd.ntmps67
  go_wp2
  go_ret
  refine Gives.refl ?_
  first | rfl | (show Array.getD _ _ _ = _; simp [h3])
theorem With_any (s k : Nat) (hs : s < 18446744073709551616) (hk : k < 64) (w : World) : Calls Tryd.prog 51 #[.int .u64 (s : Int), .int .i64 (k : Int)] w (Gives (.int .u64 ((s ||| 2 ^ k : Nat) : Int)) w) := by
  have HB := hid (fun W => bit_any k hk W)
  have HE := hid (show bits .or .u64 (s : Int) ((2 : Int) ^ k) = ((s ||| 2 ^ k : Nat) : Int) by rw [← bits_or_u64_nat s (2 ^ k) hs (pow_lt64 hk)]; simp)
  go_enter Tryd.func51, Tryd.ntmps51
  go_wp2_with (go_at_call 67; refine (HB.out _).mono ?_; rintro _ _ ⟨rfl, x1, rfl⟩)
  go_ret
  exact Gives.mk (by rw [HE.out]; rfl) (by (repeat (first | exact Below.refl _ _ | refine RowKit.Below.past ?_ _ | refine RowKit.Below.alloc' ?_ _ | refine RowKit.Below.drew' ?_ | refine RowKit.Below.drewN' ?_ _ | refine RowKit.Below.setCell' ?_ (by simp [go_sem]) _)))
theorem With_set {s k : Nat} {f : Nat → Bool} (h : IsSet s f) (hk : k < 64) : IsSet (s ||| 2 ^ k) (fun i => decide (i = k) || f i) := by
  refine ⟨Nat.or_lt_two_pow (n := 64) (by have := h.1; omega) (by have := pow_lt64 hk; omega), fun i hi => ?_⟩
  rw [Nat.testBit_or, Nat.testBit_two_pow, h.2 i hi, Bool.or_comm]
  congr 1
  by_cases e : k = i
  · subst e; simp
  · simp [e, Ne.symm e]
theorem Without_any (s k : Nat) (hs : s < 18446744073709551616) (hk : k < 64) (w : World) : ∃ r : Nat, r < 18446744073709551616 ∧ (∀ i, r.testBit i = (s.testBit i && decide (i ≠ k))) ∧ ∀ W, Calls Tryd.prog 49 #[.int .u64 (s : Int), .int .i64 (k : Int)] W (Gives (.int .u64 (r : Int)) W) := by
  obtain ⟨r, h1, h2, h3⟩ := bits_andNot_u64_nat s (2 ^ k) hs (pow_lt64 hk)
  refine ⟨r, h2, fun i => ?_, fun W => ?_⟩
  · rw [h3, Nat.testBit_two_pow]
    congr 1
    by_cases e : k = i
    · subst e; simp
    · simp [e, Ne.symm e]
  · have HB := hid (fun W => bit_any k hk W)
    have HE := hid (show bits .andNot .u64 (s : Int) ((2 : Int) ^ k) = (r : Int) by rw [← h1]; simp)
    clear h1
    go_enter Tryd.func49, Tryd.ntmps49
    go_wp2_with (go_at_call 67; refine (HB.out _).mono ?_; rintro _ _ ⟨rfl, x1, rfl⟩)
    go_ret
    exact Gives.mk (by rw [HE.out]; rfl) (by (repeat (first | exact Below.refl _ _ | refine RowKit.Below.past ?_ _ | refine RowKit.Below.alloc' ?_ _ | refine RowKit.Below.drew' ?_ | refine RowKit.Below.drewN' ?_ _ | refine RowKit.Below.setCell' ?_ (by simp [go_sem]) _)))
theorem Without_set {s k r : Nat} {f : Nat → Bool} (h : IsSet s f) (h1 : r < 18446744073709551616) (h2 : ∀ i, r.testBit i = (s.testBit i && decide (i ≠ k))) : IsSet r (fun i => f i && decide (i ≠ k)) :=
  ⟨h1, fun i hi => by rw [h2, h.2 i hi]⟩
theorem First_any (s : Nat) (h0 : s ≠ 0) (hs : s < 18446744073709551616) (w : World) (hZ : Tz w) : Calls Tryd.prog 31 #[.int .u64 (s : Int)] w (Gives (.int .i64 ((Lib.ctz 64 s : Nat) : Int)) w) := by
  have HT := hid (tz_any s h0 hs w hZ)
  have hne : ((s : Int) == 0) = false := by simp; omega
  have hn2 : ¬ (s : Int) = 0 := by omega
  clear hZ
  go_enter Tryd.func31, Tryd.ntmps31
  go_wp2_with (go_at_call 52; refine HT.out.mono ?_; rintro _ w1 ⟨rfl, h1⟩; rw [h1]; clear h1 w1)
  go_ret
  exact Gives.refl rfl
theorem First_zero (w : World) : Calls Tryd.prog 31 #[.int .u64 0] w (Gives (.int .i64 (-1)) w) := by
  go_enter Tryd.func31, Tryd.ntmps31
  go_wp2
  go_ret
  exact Gives.refl rfl
/-- The first level of a set. -/
theorem first_of {s : Nat} {f : Nat → Bool} (h : IsSet s f) (hne : ∃ j, j < 64 ∧ f j ≠ false) : ∃ i, i < 64 ∧ f i = true ∧ (∀ j, j < i → f j = false) ∧ s ≠ 0 ∧ ∀ w, Tz w → Calls Tryd.prog 31 #[.int .u64 (s : Int)] w (Gives (.int .i64 (i : Int)) w) := by
  have h0 : s ≠ 0 := by
    rintro rfl
    obtain ⟨j, hj, hf⟩ := hne
    rw [← h.2 j hj] at hf
    simp at hf
  obtain ⟨hb, hn, hk⟩ := bits_next h0 h.1
  have hm : Lib.ctz 64 s ∈ bitsL s := by rw [hb]; exact List.mem_cons_self
  have hm2 := mem_bits.1 hm
  refine ⟨Lib.ctz 64 s, hk, by rw [← h.2 _ hk]; exact hm2.2, fun j hj => ?_, h0, fun w hZ => First_any s h0 h.1 w hZ⟩
  rw [← h.2 j (by omega)]
  apply Classical.byContradiction
  intro hf
  have hjm : j ∈ bitsL s := mem_bits.2 ⟨by omega, by simpa using hf⟩
  have hp : (bitsL s).Pairwise (· < ·) := List.Pairwise.filter _ List.pairwise_lt_range
  rw [hb] at hp hjm
  rcases List.mem_cons.1 hjm with e | e
  · omega
  · have := (List.pairwise_cons.1 hp).1 j e
    omega
end Go.Proofs.YtngokihncjkiaaaDoor
namespace Go.Proofs.YtngokihncjkiaaaDoor
open Go.RowKit
def ptrO (o : Option Nat) : Value := .pointer (o.map fun q => ⟨q, 0, none⟩)
def cellsL (most : Int) (rp : Nat → Option Nat) (so : Nat) (n : Int) : List Value := Value.int .i64 most :: ((List.range 64).map fun i => ptrO (rp i)) ++ [.int .u64 (so : Int), .int .i64 n]
def cellsP (most : Int) (rp : Nat → Option Nat) (so : Nat) (n : Int) : Array Value := (cellsL most rp so n).toArray
theorem cellsP_0 (most : Int) (rp : Nat → Option Nat) (so : Nat) (n : Int) : (cellsP most rp so n)[0]? = some (.int .i64 most) := by simp [cellsP, cellsL]
theorem cellsP_row (most : Int) (rp : Nat → Option Nat) (so : Nat) (n : Int) {i : Nat} (hi : i < 64) : (cellsP most rp so n)[1 + i]? = some (ptrO (rp i)) := by
  rw [Nat.add_comm]
  simp [cellsP, cellsL, List.getElem?_append, hi]
theorem cellsP_65 (most : Int) (rp : Nat → Option Nat) (so : Nat) (n : Int) : (cellsP most rp so n)[65]? = some (.int .u64 (so : Int)) := by
  simp [cellsP, cellsL, List.getElem?_append]
theorem cellsP_66 (most : Int) (rp : Nat → Option Nat) (so : Nat) (n : Int) : (cellsP most rp so n)[66]? = some (.int .i64 n) := by
  simp [cellsP, cellsL, List.getElem?_append]
def updN {α : Type} (f : Nat → α) (i : Nat) (v : α) : Nat → α := fun k => if k = i then v else f k
theorem updN_same {α : Type} (f : Nat → α) (i : Nat) (v : α) : updN f i v i = v := if_pos rfl
theorem updN_ne {α : Type} (f : Nat → α) {i : Nat} (v : α) {k : Nat} (h : k ≠ i) : updN f i v k = f k := if_neg h
theorem updN_self {α : Type} (f : Nat → α) (i : Nat) : updN f i (f i) = f := by
  funext k; unfold updN; split
  · rename_i h; rw [h]
  · rfl
theorem cellsP_ext {most most' : Int} {rp rp' : Nat → Option Nat} {so so' : Nat} {n n' : Int} {o : Nat} {u : Value} (h0 : ∀ k, k < 67 → (if o = k then some u else (cellsP most rp so n)[k]?) = (cellsP most' rp' so' n')[k]?) : (cellsP most rp so n).setIfInBounds o u = cellsP most' rp' so' n' := by
  have hs : ∀ (m : Int) (r : Nat → Option Nat) (s : Nat) (c : Int), (cellsP m r s c).size = 67 := fun m r s c => by simp [cellsP, cellsL]
  apply Array.ext_getElem?
  intro k
  by_cases hk : k < 67
  · rw [← h0 k hk, Array.getElem?_setIfInBounds, hs]
    by_cases e : o = k
    · subst e; rw [if_pos rfl, if_pos rfl, if_pos hk]
    · rw [if_neg e, if_neg e]
  · rw [Array.getElem?_eq_none (by rw [Array.size_setIfInBounds, hs]; omega), Array.getElem?_eq_none (by rw [hs]; omega)]
theorem cellsP_set_n (most : Int) (rp : Nat → Option Nat) (so : Nat) (n n' : Int) : (cellsP most rp so n).setIfInBounds 66 (.int .i64 n') = cellsP most rp so n' := by
  simp [cellsP, cellsL]
theorem cellsP_set_so (most : Int) (rp : Nat → Option Nat) (so so' : Nat) (n : Int) : (cellsP most rp so n).setIfInBounds 65 (.int .u64 (so' : Int)) = cellsP most rp so' n := by
  simp [cellsP, cellsL]
theorem cellsP_set_row (most : Int) (rp : Nat → Option Nat) (so : Nat) (n : Int) {i : Nat} (hi : i < 64) (q : Nat) : (cellsP most rp so n).setIfInBounds (1 + i) (.pointer (some ⟨q, 0, none⟩)) = cellsP most (updN rp i (some q)) so n := by
  refine cellsP_ext fun k hk => ?_
  by_cases e : 1 + i = k
  · subst e
    rw [if_pos rfl, cellsP_row _ _ _ _ hi, updN_same]; rfl
  · rw [if_neg e]
    by_cases h0 : k = 0
    · subst h0; rw [cellsP_0, cellsP_0]
    · by_cases h1 : k ≤ 64
      · obtain ⟨j, rfl⟩ : ∃ j, k = 1 + j := ⟨k - 1, by omega⟩
        rw [cellsP_row _ _ _ _ (show j < 64 by omega), cellsP_row _ _ _ _ (show j < 64 by omega), updN_ne _ _ (by omega)]
      · by_cases h2 : k = 65
        · subst h2; rw [cellsP_65, cellsP_65]
        · obtain rfl : k = 66 := by omega
          rw [cellsP_66, cellsP_66]
/-- From some blocks to others: all else is kept. -/
structure Rl (F : Nat → Prop) (w : World) (F' : Nat → Prop) (w' : World) : Prop where
  new : ∀ k, F' k → F k ∨ w.heap.size ≤ k
  kp : Kept F w w'
theorem Rl.refl (F : Nat → Prop) (w : World) : Rl F w F w := ⟨fun _ h => .inl h, Kept.refl _ _⟩
theorem Rl.far {F F' : Nat → Prop} {w w' w'' : World} (h : Rl F w F' w') (hb : Below w'.heap.size w' w'') : Rl F w F' w'' := ⟨h.new, h.kp.trans (Kept.of_below hb F)⟩
theorem Rl.step {F F1 F2 : Nat → Prop} {w w1 w2 : World} (h : Rl F w F1 w1) (hn : ∀ k, F2 k → F1 k ∨ w1.heap.size ≤ k) (hk : Kept F1 w1 w2) : Rl F w F2 w2 := by
  have hs := h.kp.size
  refine ⟨fun k hk => ?_, h.kp.trans' hk (fun i hi hF => ?_)⟩
  · rcases hn k hk with e | e
    · exact h.new k e
    · exact .inr (Nat.le_trans hs e)
  · rcases h.new i hF with e | e
    · exact e
    · omega
theorem Rl.after {O : Ob} {F F1 : Nat → Prop} {w w1 : World} (h : Rl F w F1 w1) (hO : O w1 F1) : After O F w w1 := ⟨F1, hO, h.new, h.kp⟩
end Go.Proofs.YtngokihncjkiaaaDoor
namespace Go.Proofs.YtngokihncjkiaaaDoor
def totTo {α : Type} (L : Nat → List α) : Nat → Nat
  | 0 => 0
  | k + 1 => totTo L k + (L k).length
def tot {α : Type} (L : Nat → List α) : Nat := totTo L 64
theorem totTo_upd {α : Type} (L : Nat → List α) (i : Nat) (L' : List α) : ∀ k, totTo (updN L i L') k + (if i < k then (L i).length else 0) = totTo L k + (if i < k then L'.length else 0)
  | 0 => by simp [totTo]
  | k + 1 => by
    have ih := totTo_upd L i L' k
    simp only [totTo]
    by_cases e : i = k
    · subst e
      rw [updN_same, if_pos (by omega), if_pos (by omega)]
      rw [if_neg (by omega), if_neg (by omega)] at ih
      omega
    · rw [updN_ne _ _ (Ne.symm e)]
      by_cases hlt : i < k
      · rw [if_pos (by omega), if_pos (by omega)]
        rw [if_pos hlt, if_pos hlt] at ih
        omega
      · rw [if_neg (by omega), if_neg (by omega)]
        rw [if_neg hlt, if_neg hlt] at ih
        omega
theorem tot_upd {α : Type} (L : Nat → List α) {i : Nat} (hi : i < 64) (L' : List α) : tot (updN L i L') + (L i).length = tot L + L'.length := by
  have := totTo_upd L i L' 64
  rwa [if_pos hi, if_pos hi] at this
theorem len_le_tot {α : Type} (L : Nat → List α) {i : Nat} (hi : i < 64) : (L i).length ≤ tot L := by
  have := tot_upd L hi []
  simp at this
  omega
theorem totTo_zero {α : Type} {L : Nat → List α} : ∀ k, (∀ j, j < k → L j = []) → totTo L k = 0
  | 0, _ => rfl
  | k + 1, h => by
    simp only [totTo]
    rw [totTo_zero k (fun j hj => h j (by omega)), h k (by omega)]; rfl
theorem tot_zero {α : Type} {L : Nat → List α} (h : ∀ j, j < 64 → L j = []) : tot L = 0 := totTo_zero 64 h
end Go.Proofs.YtngokihncjkiaaaDoor
