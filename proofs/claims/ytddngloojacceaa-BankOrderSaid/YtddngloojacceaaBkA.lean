/-
  Layer 44: rows of numbers: is each within the other, may it be? No condition.
-/
import Derived.Test.YtddngloojacceaaFixq
import Derived.Test.YtddngloojacceaaRows
import Derived.Test.YtddngloojacceaaOwn
import Derived.BigQuiet
namespace Go.Proofs.Ytddngloojacceaa
open Go Go.RowKit
theorem info_i64 : (Try.prog.info? 3).map (fun i => (i.zero, i.size, i.bytes)) = some (some (.int .i64 0), 1, 8) := by kernel_rfl
/-- Is each of the first k within? -/
def withK (a b : List Int) (k : Nat) : Bool := (List.range k).all fun i => decide (atL a i ≤ atL b i)
theorem withK_iff {a b : List Int} {k : Nat} : withK a b k = true ↔ ∀ i, i < k → atL a i ≤ atL b i := by simp [withK]
set_option maxHeartbeats 1000000 in
theorem within_any (A B : Option Addr) (ca cb n m : Nat) (a b : List Int) (ea : a.length = n) (eb : b.length = m) (hnm : n ≤ m) (hn : n ≤ 1000000) (w : World) (ha : Cells w A (i64s a)) (hb : Cells w B (i64s b)) :
    Calls Try.prog 25 #[.slice A n ca, .slice B m cb] w (Gives (.bool (withK a b n)) w) := by
  have EA := hid ea
  have EB := hid eb
  have HA := hid ha
  have HB := hid hb
  clear ea eb ha hb
  go_enter Try.func25, Try.ntmps25
  go_wp2
  go_loopw [8] (fun i wr => ∃ (k : Nat) (x : Past), i = .int .i64 k ∧ k ≤ n ∧ wr = w.past x ∧ Hid (∀ j, j < k → atL a j ≤ atL b j)) (fun i _ => n - (intOf i).toNat)
  case atStart => exact ⟨0, _, rfl, by omega, World.past_refl w, hid (fun j h => by omega)⟩
  case round =>
    obtain ⟨k, x, rfl, hk, rfl, HJ⟩ := hrel
    by_cases hlt : k < n
    · obtain ⟨b1, o1, rfl, hc1⟩ := i64_at HA.out (k := k) (by rw [EA.out]; exact hlt)
      obtain ⟨b2, o2, rfl, hc2⟩ := i64_at HB.out (k := k) (by rw [EB.out]; omega)
      have hkm : k < m := by omega
      obtain ⟨u, eu⟩ : ∃ u, atL a k = u := ⟨_, rfl⟩
      obtain ⟨v, ev⟩ : ∃ v, atL b k = v := ⟨_, rfl⟩
      rw [eu] at hc1
      rw [ev] at hc2
      have EUV := hid (And.intro eu ev)
      clear eu ev
      by_cases hv : v < u
      · have hf : withK a b n = false := by
          cases h : withK a b n with
          | false => rfl
          | true => have := withK_iff.1 h k hlt; rw [EUV.out.1, EUV.out.2] at this; omega
        have HF := hid hf
        clear hf
        go_wp2_with fail
        refine wp_region_past (by kernel_rfl) (by kernel_rfl) ?_
        repeat (go_big_quiet_step ((first | (go_at_call 16; first | with_reducible exact Calls.in_past (True) | with_reducible exact Calls.in_past2 (True)) | (go_at_call 16; first | exact Calls.in_past (True) | exact Calls.in_past2 (True)))))
        refine wpQuiet_nil ?_
        rintro _ ⟨_, rfl⟩
        go_wp2_with fail
        go_ret
        refine Gives.mk (by rw [HF.out]; rfl) ?_
        (repeat (first | exact Below.refl _ _ | refine RowKit.Below.past ?_ _ | refine RowKit.Below.alloc' ?_ _ | refine RowKit.Below.drew' ?_ | refine RowKit.Below.drewN' ?_ _ | refine RowKit.Below.setCell' ?_ (by simp [go_sem]) _))
      · go_wp2_with fail
        refine wp_region_past (by kernel_rfl) (by kernel_rfl) ?_
        repeat (go_big_quiet_step ((first | (go_at_call 16; first | with_reducible exact Calls.in_past (True) | with_reducible exact Calls.in_past2 (True)) | (go_at_call 16; first | exact Calls.in_past (True) | exact Calls.in_past2 (True)))))
        refine wpQuiet_nil ?_
        rintro _ ⟨_, rfl⟩
        go_wp2_with fail
        go_roundw
        case rel => exact ⟨k + 1, _, by go_num, by omega, by first | rfl | trivial, hid (fun j hj => by
          by_cases e : j = k
          · subst e; rw [EUV.out.1, EUV.out.2]; omega
          · exact HJ.out j (by omega))⟩
        case measure => simp [intOf]; omega
    · obtain rfl : k = n := by omega
      have HF := hid (withK_iff.2 HJ.out)
      go_wp2_with fail
      go_ret
      refine Gives.mk (by rw [HF.out]; rfl) ?_
      (repeat (first | exact Below.refl _ _ | refine RowKit.Below.past ?_ _ | refine RowKit.Below.alloc' ?_ _ | refine RowKit.Below.drew' ?_ | refine RowKit.Below.drewN' ?_ _ | refine RowKit.Below.setCell' ?_ (by simp [go_sem]) _))
/-- A number that a bank may have. -/
def mayN (x : Int) : Bool := decide (0 ≤ x ∧ x ≤ 1000000)
set_option maxHeartbeats 400000 in
theorem bad_any (x : Int) (w : World) : Calls Try.prog 42 #[.int .i64 x] w (Gives (.bool (!mayN x)) w) := by
  by_cases h1 : x < 0
  · have hf : (!mayN x) = true := by simp [mayN]; omega
    have HF := hid hf
    clear hf
    go_enter Try.func42, Try.ntmps42
    go_wp2
    go_ret
    exact Gives.refl (by rw [HF.out]; rfl)
  · by_cases h2 : 1000000 < x
    · have hf : (!mayN x) = true := by simp [mayN]; omega
      have HF := hid hf
      clear hf
      go_enter Try.func42, Try.ntmps42
      go_wp2
      go_ret
      exact Gives.refl (by rw [HF.out]; rfl)
    · have hf : (!mayN x) = false := by simp [mayN]; omega
      have HF := hid hf
      clear hf
      go_enter Try.func42, Try.ntmps42
      go_wp2
      go_ret
      exact Gives.refl (by rw [HF.out]; rfl)
end Go.Proofs.Ytddngloojacceaa
