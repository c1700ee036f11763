/-
  Layer 44: may a row of numbers be? No condition.
-/
import Derived.Test.YtddngloojacceaaBkA
namespace Go.Proofs.Ytddngloojacceaa
open Go Go.RowKit
/-- May they all be? -/
def mayR (l : List Int) : Bool := l.all mayN
theorem mayR_iff {l : List Int} : mayR l = true ↔ ∀ j, j < l.length → mayN (atL l j) = true := by
  unfold mayR
  rw [List.all_eq_true]
  constructor
  · intro h j hj
    exact h _ (by unfold atL; rw [List.getElem?_eq_getElem hj]; exact List.getElem_mem _)
  · intro h x hx
    obtain ⟨i, hi⟩ := List.mem_iff_getElem?.1 hx
    have hlt := (List.getElem?_eq_some_iff.1 hi).1
    have := h i hlt
    rw [atL, hi] at this
    exact this
set_option maxHeartbeats 1000000 in
theorem indexBad_any (A : Option Addr) (ca n : Nat) (l : List Int) (en : l.length = n) (hn : n ≤ 1000000) (w : World) (ha : Cells w A (i64s l)) :
    Calls Try.prog 35 #[.slice A n ca, .func (.func 42) #[] #[]] w (fun e w' => ∃ (r : Int) (x : Past), e = .returned (.int .i64 r) ∧ w' = w.past x ∧ decide (0 ≤ r) = !mayR l) := by
  have EN := hid en
  have HA := hid ha
  clear en ha
  go_enter Try.func35, Try.ntmps35
  go_wp2
  go_loopw [8] (fun i wr => ∃ (k : Nat) (x : Past), i = .int .i64 k ∧ k ≤ n ∧ wr = w.past x ∧ Hid (∀ j, j < k → mayN (atL l j) = true)) (fun i _ => n - (intOf i).toNat)
  case atStart => exact ⟨0, _, rfl, by omega, World.past_refl w, hid (fun j h => by omega)⟩
  case round =>
    obtain ⟨k, x, rfl, hk, rfl, HJ⟩ := hrel
    by_cases hlt : k < n
    · obtain ⟨b1, o1, rfl, hc1⟩ := i64_at HA.out (k := k) (by rw [EN.out]; exact hlt)
      have hb := bad_any (atL l k) (w.past x)
      obtain ⟨r, hr⟩ : ∃ r, mayN (atL l k) = r := ⟨_, rfl⟩
      rw [hr] at hb
      have HR := hid hr
      have HB := hid hb
      clear hr hb
      cases r
      · have hf : mayR l = false := by
          cases h : mayR l with
          | false => rfl
          | true => have := mayR_iff.1 h k (by rw [EN.out]; exact hlt); rw [HR.out] at this; cases this
        have HF := hid hf
        clear hf
        go_wp2_with (go_at_call 42; refine HB.out.mono ?_; rintro _ _ ⟨rfl, _, rfl⟩)
        go_ret
        exact ⟨k, _, rfl, rfl, by rw [HF.out]; simp⟩
      · go_wp2_with (go_at_call 42; refine HB.out.mono ?_; rintro _ _ ⟨rfl, _, rfl⟩)
        go_roundw
        case rel => exact ⟨k + 1, _, by go_num, by omega, by first | rfl | trivial, hid (fun j hj => by
          by_cases e : j = k
          · subst e; exact HR.out
          · exact HJ.out j (by omega))⟩
        case measure => simp [intOf]; omega
    · obtain rfl : k = n := by omega
      have HF := hid (mayR_iff.2 (fun j hj => HJ.out j (by rw [← EN.out]; exact hj)))
      go_wp2
      go_ret
      exact ⟨-1, _, rfl, rfl, by rw [HF.out]; rfl⟩
theorem hasBad_any (A : Option Addr) (ca n : Nat) (l : List Int) (en : l.length = n) (hn : n ≤ 1000000) (w : World) (ha : Cells w A (i64s l)) :
    Calls Try.prog 39 #[.slice A n ca, .func (.func 42) #[] #[]] w (Gives (.bool (!mayR l)) w) := by
  have HI := hid (indexBad_any A ca n l en hn w ha)
  clear ha
  go_enter Try.func39, Try.ntmps39
  go_wp2_with fail
  refine HI.out.mono ?_
  rintro _ _ ⟨r, x, rfl, rfl, hr⟩
  have HRR := hid hr
  clear hr HI
  go_wp2
  go_ret
  refine Gives.mk (by rw [← HRR.out]; rfl) ?_
  (repeat (first | exact Below.refl _ _ | refine RowKit.Below.past ?_ _ | refine RowKit.Below.alloc' ?_ _ | refine RowKit.Below.drew' ?_ | refine RowKit.Below.drewN' ?_ _ | refine RowKit.Below.setCell' ?_ (by simp [go_sem]) _))
def rowF (l : List Int) (k : Int) : Bool := ((l.length : Int) == k) && mayR l
theorem row_any (A : Option Addr) (ca n : Nat) (l : List Int) (en : l.length = n) (hn : n ≤ 1000000) (k : Int) (w : World) (ha : Cells w A (i64s l)) :
    Calls Try.prog 31 #[.slice A n ca, .int .i64 k] w (Gives (.bool (rowF l k)) w) := by
  obtain ⟨r, hr⟩ : ∃ r, mayR l = r := ⟨_, rfl⟩
  have HB := hid (hr ▸ hasBad_any A ca n l en hn w ha)
  obtain ⟨q, hq⟩ : ∃ q, ((n : Int) == k) = q := ⟨_, rfl⟩
  have hf : rowF l k = (q && r) := by unfold rowF; rw [en, hq, hr]
  have HF := hid hf
  clear hf hr ha en
  cases q with
  | false =>
    go_enter Try.func31, Try.ntmps31
    go_wp2_with fail
    go_ret
    refine Gives.mk (by rw [HF.out]; rfl) ?_
    (repeat (first | exact Below.refl _ _ | refine RowKit.Below.past ?_ _ | refine RowKit.Below.alloc' ?_ _ | refine RowKit.Below.drew' ?_ | refine RowKit.Below.drewN' ?_ _ | refine RowKit.Below.setCell' ?_ (by simp [go_sem]) _))
  | true =>
    cases r
    all_goals
      go_enter Try.func31, Try.ntmps31
      go_wp2_with (go_at_call 39; refine HB.out.mono ?_; rintro _ _ ⟨rfl, x1, rfl⟩)
      go_ret
      refine Gives.mk (by rw [HF.out]; rfl) ?_
      (repeat (first | exact Below.refl _ _ | refine RowKit.Below.past ?_ _ | refine RowKit.Below.alloc' ?_ _ | refine RowKit.Below.drew' ?_ | refine RowKit.Below.drewN' ?_ _ | refine RowKit.Below.setCell' ?_ (by simp [go_sem]) _))
end Go.Proofs.Ytddngloojacceaa
