/-
  Layer 06: sets of small numbers: what the iterator hands on; the document's bits. No condition (the table of the library's that is read is a fact that is asked for).
-/
import Derived.Test.YtngokihncjkiaaaDoorRangeN
import Derived.Test.YtngokihncjkiaaaDoorPastRd
import Derived.Test.YtngokihncjkiaaaDoorLift
import Derived.Test.YtngokihncjkiaaaDoorRows
import Derived.Shelf.Spec.TrailingZeros
import Derived.RangeFuncBox
import Derived.RangeFuncLeaves
import Derived.WalkKit
import Derived.WalkSpells
import Derived.BigQuiet
import Derived.OwnWalkIn
import Derived.TacticsInMore
import Derived.LoopNIn
import Derived.LoopIn
namespace Go.Proofs.YtngokihncjkiaaaDoor
open Go.RowKit
attribute [local go_sem] Oper.semAt_some
/-! The numbers in a set. -/
def bitsL (s : Nat) : List Nat := (List.range 64).filter fun i => s.testBit i
theorem filter_first {p q : Nat → Bool} {c : Nat} (h0 : ∀ i, i < c → p i = false) (hc : p c = true) (hq : ∀ i, q i = (p i && decide (i ≠ c))) : ∀ n, c < n → (List.range n).filter p = c :: (List.range n).filter q
  | 0, h => by omega
  | n + 1, h => by
    rw [List.range_succ, List.filter_append, List.filter_append]
    by_cases hn : c < n
    · rw [filter_first h0 hc hq n hn, List.cons_append]
      congr 2
      have : q n = p n := by rw [hq n]; simp; omega
      simp [List.filter_cons, this]
    · obtain rfl : c = n := by omega
      have e1 : (List.range c).filter p = [] := List.filter_eq_nil_iff.2 fun i hi => by rw [h0 i (List.mem_range.1 hi)]; decide
      have e2 : (List.range c).filter q = [] := List.filter_eq_nil_iff.2 fun i hi => by rw [hq i, h0 i (List.mem_range.1 hi)]; simp
      have e3 : q c = false := by rw [hq c]; simp
      rw [e1, e2]
      simp [List.filter_cons, hc, e3]
theorem bits_zero : bitsL 0 = [] := List.filter_eq_nil_iff.2 fun i _ => by simp
theorem bits_next {s : Nat} (h0 : s ≠ 0) (hs : s < 18446744073709551616) : bitsL s = Lib.ctz 64 s :: bitsL (s &&& (s - 1)) ∧ s &&& (s - 1) < 18446744073709551616 ∧ Lib.ctz 64 s < 64 := by
  obtain ⟨m, hm, hk⟩ := Lib.ctzFrom_spec 64 s (by omega) (by omega)
  have hc : Lib.ctz 64 s = Lib.ctzFrom 64 s := by unfold Lib.ctz; rw [if_neg h0]
  rw [hc]
  obtain ⟨c, ec⟩ : ∃ c, Lib.ctzFrom 64 s = c := ⟨_, rfl⟩
  rw [ec] at hm hk ⊢
  have hp : 0 < 2 ^ c := Nat.two_pow_pos c
  have b1 : ∀ j, s.testBit j = if j < c then false else (2 * m + 1).testBit (j - c) := fun j => by
    have := Nat.testBit_two_pow_mul_add (2 * m + 1) (b := 0) (i := c) hp j
    rw [Nat.add_zero, ← hm] at this
    rw [this]; simp
  have b2 : ∀ j, (s - 1).testBit j = if j < c then (2 ^ c - 1).testBit j else (2 * m).testBit (j - c) := fun j => by
    have e : s - 1 = 2 ^ c * (2 * m) + (2 ^ c - 1) := by rw [hm, Nat.mul_add]; omega
    rw [e]
    exact Nat.testBit_two_pow_mul_add (2 * m) (by omega) j
  refine ⟨?_, Nat.lt_of_le_of_lt Nat.and_le_left hs, hk⟩
  unfold bitsL
  refine filter_first (fun i hi => by rw [b1 i, if_pos hi]) (by rw [b1 c, if_neg (by omega)]; simp) (fun i => ?_) 64 hk
  rw [Nat.testBit_and, b1 i, b2 i]
  by_cases h : i < c
  · rw [if_pos h]; simp
  · rw [if_neg h, if_neg h]
    by_cases he : i = c
    · subst he; simp
    · obtain ⟨j, rfl⟩ : ∃ j, i = c + (j + 1) := ⟨i - c - 1, by omega⟩
      have e3 : c + (j + 1) - c = j + 1 := by omega
      rw [e3, Nat.testBit_succ, Nat.testBit_succ, show (2 * m + 1) / 2 = m by omega, show 2 * m / 2 = m by omega]
      simp
theorem mem_bits {s i : Nat} : i ∈ bitsL s ↔ i < 64 ∧ s.testBit i = true := by simp [bitsL]
theorem bits_length (s : Nat) : (bitsL s).length ≤ 64 := by
  have := List.length_filter_le (fun i => s.testBit i) (List.range 64)
  rwa [List.length_range] at this
def natU : Value → Nat | .int _ z => z.toNat | _ => 0
/-! The table of the library's. -/
abbrev Tz (w : World) : Prop := TabAt 0 Lib.deBruijn64tab w
theorem Tz.keep {w w' : World} (h : Tz w) (hk : ∀ a v, w.cell? a = some v → w'.cell? a = some v) : Tz w' := fun j hj => hk _ _ (h j hj)
theorem Tz.below {w w' : World} (h : Tz w) (hb : Below w.heap.size w w') : Tz w' := h.keep (below_cell hb (Nat.le_refl _))
theorem Tz.past {w : World} (h : Tz w) (x : Past) : Tz (w.past x) := h.below (w.below_past x)
theorem Tz.lt {w : World} (h : Tz w) : 0 < w.heap.size := by
  have := h 0 (by decide)
  rcases Nat.lt_or_ge 0 w.heap.size with h | h
  · exact h
  · simp [World.cell?, Array.getElem?_eq_none h] at this
set_option maxHeartbeats 1000000 in
theorem tz_core (x k idx : Nat) (w : World) (hx0 : ((x : Int) == 0) = false)
    (key : IntKind.u64.wrap (bits BinOp.and IntKind.u64 (x : Int) (IntKind.u64.wrap (-(x : Int))) * 285870213051353865) / 288230376151711744 = (idx : Int))
    (hi : idx < 64) (hk : k < 64) (hcell : w.cell? ⟨0, idx, none⟩ = some (.int .u8 k)) :
    Calls Tryd.prog 52 #[.int .u64 x] w fun e w' => e = .returned (.int .i64 k) ∧ w' = w := by
  go_enter Tryd.func52, Tryd.ntmps52
  go_wp2_with (simp only [key])
  go_ret
  exact ⟨rfl, rfl⟩
theorem tz_any (x : Nat) (h0 : x ≠ 0) (hx : x < 18446744073709551616) (w : World) (hT : Tz w) :
    Calls Tryd.prog 52 #[.int .u64 x] w fun e w' => e = .returned (.int .i64 (Lib.ctz 64 x : Nat)) ∧ w' = w := by
  obtain ⟨hlow, hk⟩ := Lib.lowest_bit 64 x h0 hx
  obtain ⟨hi, htab⟩ := Lib.deBruijn64_at _ hk
  have hcell := hT _ hi
  rw [htab] at hcell
  exact tz_core x _ _ w (by simp; omega) (tz64_key x _ hx h0 hlow) hi hk hcell
/-! The iterator. -/
def encN (x : Nat) : Array Value := #[.int .i64 (x : Int)]
theorem yield_two {e : Ending} {p q : Prop} (h : (e = .returned (.bool true) ∧ p) ∨ (e = .returned (.bool false) ∧ q)) : ∃ bb : Bool, e = .returned (.bool bb) ∧ ((bb = true ∧ p) ∨ (bb = false ∧ q)) := by
  rcases h with ⟨h, hp⟩ | ⟨h, hq⟩
  · exact ⟨true, h, .inl ⟨rfl, hp⟩⟩
  · exact ⟨false, h, .inr ⟨rfl, hq⟩⟩
set_option maxRecDepth 100000 in
set_option maxHeartbeats 1000000 in
theorem idAll_seq (m : Nat) (hm : 1 ≤ m) (w0 : World) (Bx s : Nat) (hs : s < 18446744073709551616) (T : Nat → Prop) (hBx : w0.cell? ⟨Bx, 0, none⟩ = some (.int .u64 (s : Int))) (hBT : ¬ T Bx) (hZ : Tz w0) (hZT : ¬ T 0) :
    SeqE Fence.wide m Tryd.prog 55 #[.pointer (some ⟨Bx, 0, none⟩)] encN T (fun ys => ys = bitsL s) (fun pre => pre <+: bitsL s) 64 w0 := by
  intro lp J Jx W hW _ _ hY h0
  have cbx := hW.cell hBT hBx
  have hZ1 : Tz W := fun j hj => hW.cell hZT (hZ j hj)
  have nZ : ¬ TT T w0.heap.size W.heap.size 0 := by rintro (h | ⟨h, _⟩); exact hZT h; have := hZ.lt; omega
  have KZ := hid (fun wr (hk : KS (TT T w0.heap.size W.heap.size) W wr) => (fun j hj => hk.cell nZ (hZ1 j hj) : Tz wr))
  have HY := hid hY
  clear hBx hBT hY hW hZ hZT hZ1 nZ
  refine callsIn_of_wp Tryd.func55 rfl trivial ?_ rfl
  simp only [Tryd.ntmps55, List.size_toArray, List.length_cons, List.length_nil, Nat.reduceAdd, Nat.reduceSub, Array.replicate_succ, Array.replicate_zero, List.push_toArray, List.append_toArray, List.nil_append, List.cons_append]
  gi_wp2
  clear cbx
  gi_loopw [3] (fun v wr => ∃ (pre : List Nat) (lf : Nat), v = .int .u64 (lf : Int) ∧ lf < 18446744073709551616 ∧ Hid (bitsL s = pre ++ bitsL lf) ∧ J pre wr ∧ KS (TT T w0.heap.size W.heap.size) W wr) (fun v _ => (bitsL (natU v)).length)
  case atStart => exact ⟨[], s, rfl, hs, hid rfl, h0, KS.refl _ _⟩
  case round =>
    clear h0
    obtain ⟨pre, lf, rfl, hlf, HE, hJ, hS⟩ := hrel
    by_cases h0 : lf = 0
    · subst h0
      have e := HE.out
      rw [bits_zero, List.append_nil] at e
      gi_wp2
      go_end0
      exact ⟨⟨_, rfl⟩, .inl ⟨_, e.symm, hJ⟩⟩
    · obtain ⟨hnx, hlt2, hk⟩ := bits_next h0 hlf
      have e := HE.out
      rw [hnx] at e
      have hpre : pre ++ [Lib.ctz 64 lf] <+: bitsL s := ⟨bitsL (lf &&& (lf - 1)), by rw [e]; simp⟩
      have hlen : pre.length < 64 := by
        have := bits_length s
        rw [e] at this; simp at this; omega
      obtain ⟨fy, ty, asy, bdy, hyy, hRy⟩ := HY.out pre (Lib.ctz 64 lf) wr hS.size hJ hlen hpre
      simp only [encN] at hyy hRy
      have TZ := hid (callsIn_wide (n := m - 1).2 (tz_any lf h0 hlf wr (KZ.out wr hS)))
      obtain ⟨x, ex⟩ : ∃ x, Lib.ctz 64 lf = x := ⟨_, rfl⟩
      rw [ex] at hyy hRy hpre TZ
      have HRY := hid hRy
      have HPRE := hid hpre
      have HS := hid hS
      have HE2 := hid (show bitsL s = (pre ++ [x]) ++ bitsL (lf &&& (lf - 1)) by rw [e, ex]; simp)
      have HN := hid (show (bitsL (lf &&& (lf - 1))).length < (bitsL lf).length by rw [hnx]; simp)
      have hne : ((lf : Int) == 0) = false := by simp; omega
      have hw : IntKind.u64.wrap ((lf : Int) - 1) = ((lf - 1 : Nat) : Int) := by rw [IntKind.wrap_u64]; omega
      have hand : bits .and .u64 (lf : Int) ((lf - 1 : Nat) : Int) = ((lf &&& (lf - 1) : Nat) : Int) := bits_and_u64_nat _ _ hlf (by omega)
      clear hRy hJ hnx hpre hS e ex HE h0
      gi_wp2_with (first | (refine TZ.out.mono ?_; rintro _ _ ⟨rfl, rfl⟩) | (refine HRY.out.mono ?_; rintro e W3 hE; obtain ⟨bb, eE, hE2⟩ := yield_two hE; clear hE; subst eE))
      · rename_i hb
        rcases hE2 with ⟨rfl, _⟩ | ⟨rfl, hJx, _⟩
        · cases hb
        · refine bodyPost_ret (results_none rfl _ _ _) rfl ?_
          exact ⟨⟨_, rfl⟩, .inr ⟨_, HPRE.out, hJx⟩⟩
      · rename_i hb
        rcases hE2 with ⟨rfl, hJ3, hk3⟩ | ⟨rfl, _⟩
        · go_roundw
          case rel => exact ⟨_, _, rfl, hlt2, HE2, hJ3, HS.out.trans hk3⟩
          case measure => simpa [natU] using HN.out
        · cases hb
theorem idAll_any (s : Int) (w : World) :
    Calls Tryd.prog 37 #[.int .u64 s] w (fun e w' => e = .returned (.func (.func 55) #[] #[.pointer (some ⟨w.heap.size, 0, none⟩)]) ∧
      Below w.heap.size w w' ∧ w'.heap.size = w.heap.size + 1 ∧ w'.cell? ⟨w.heap.size, 0, none⟩ = some (.int .u64 s)) := by
  go_enter Tryd.func37, Tryd.ntmps37
  go_wp2
  go_ret
  exact ⟨rfl, (Below.refl _ w).alloc (Nat.le_refl _) _, by simp, by simp [go_sem]⟩
end Go.Proofs.YtngokihncjkiaaaDoor
