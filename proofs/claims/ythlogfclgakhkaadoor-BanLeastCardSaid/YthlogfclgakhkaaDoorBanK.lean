/-
  Layer 21: the document's least one. No condition.
-/
import Derived.Test.YthlogfclgakhkaaDoorBanJ
namespace Go.Proofs.YthlogfclgakhkaaDoor
open Go.RowKit Go.Shelf
attribute [local go_sem] Oper.semAt_some
theorem leastK_lt {v : List Int} {has : Nat → Bool} : ∀ (n : Nat), n ≤ v.length → ∀ j, leastK v has n = some j → j < v.length := fun n hn j h => by
  have := (leastK_spec n hn j h).1; omega
set_option maxRecDepth 100000 in
set_option maxHeartbeats 4000000 in
theorem RLeast_any {w : World} {d n c wt : Nat} {A : Option Addr} {v : List Int} (en : v.length = n) (h8 : n ≤ 8) (hd3 : w.cell? ⟨d, 3, none⟩ = some (.int .u64 (wt : Int))) (hd4 : w.cell? ⟨d, 4, none⟩ = some (.slice A n c)) (hA : Cells w A (u64s v)) :
    Calls Tryd.prog 6 #[.pointer (some ⟨d, 0, none⟩)] w (Gives (.int .i64 (encB (leastV v wt))) w) := by
  have HA := hid hA
  have EN := hid en
  have HF := hid (show leastV v wt = leastK v (fun i => wt.testBit i) n by unfold leastV; rw [en])
  have HHS := hid (fun k (hk : k < n) W => RHasN_gives wt k (by omega) W)
  have hdl : d < w.heap.size := World.block_lt_of_cell? w _ hd3
  clear hA en
  go_enter Tryd.func6, Tryd.ntmps6
  go_wp2_with fail
  go_loopw [3, 4] (fun b i wr => ∃ (k : Nat) (x : Past), i = .int .i64 (k : Int) ∧ k ≤ n ∧ b = .int .i64 (encB (leastK v (fun i => wt.testBit i) k)) ∧ wr = w.past x) (fun _ i _ => n - natI i)
  case atStart => exact ⟨0, _, rfl, Nat.zero_le _, rfl, w.past_refl⟩
  case round =>
    obtain ⟨k, x, rfl, hk, rfl, rfl⟩ := hrel
    by_cases hlt : k < n
    · obtain ⟨g, o, e, ck⟩ := u64_at HA.out (k := k) (by rw [EN.out]; exact hlt)
      subst e
      have HH := hid (HHS.out k hlt)
      have HSU := hid (show leastK v (fun i => wt.testBit i) (k + 1) = if wt.testBit k then stepV v (leastK v (fun i => wt.testBit i) k) k else leastK v (fun i => wt.testBit i) k from rfl)
      have HLT := hid (leastK_lt (v := v) (has := fun i => wt.testBit i) k (by rw [EN.out]; omega))
      obtain ⟨bo, ebo⟩ : ∃ b, leastK v (fun i => wt.testBit i) k = b := ⟨_, rfl⟩
      rw [ebo] at HSU HLT ⊢
      clear ebo
      rcases Bool.eq_false_or_eq_true (wt.testBit k) with hb | hb
      · rw [hb] at HH HSU
        clear hb
        cases bo with
        | none =>
          have HS := hid (show leastK v (fun i => wt.testBit i) (k + 1) = some k by rw [HSU.out, if_pos rfl]; unfold stepV; rw [if_pos ⟨by rw [EN.out]; exact hlt, fun j h => by cases h⟩])
          simp only [encB]
          go_wp2_with fail
          refine wp_region_past (by kernel_rfl) (by kernel_rfl) ?_
          repeat (go_big_quiet_step ((first | (go_at_call 11; first | with_reducible exact Calls.in_past (HH.out _) | with_reducible exact Calls.in_past2 (HH.out _)) | (go_at_call 11; first | exact Calls.in_past (HH.out _) | exact Calls.in_past2 (HH.out _)))))
          refine wpQuiet_nil ?_
          rintro _ ⟨_, rfl⟩
          go_wp2
          go_roundw
          case rel => exact ⟨k + 1, _, by go_num, by omega, by rw [HS.out], rfl⟩
          case measure => simp [natI]; omega
        | some j =>
          have hj : j < n := by have := HLT.out j rfl; rw [EN.out] at this; exact this
          obtain ⟨g2, o2, e2, cj⟩ := u64_at HA.out (k := j) (by rw [EN.out]; exact hj)
          cases e2
          have hj0 : decide ((j : Int) < 0) = false := by simp
          simp only [encB]
          by_cases hv : atD v k < atD v j
          · have HS := hid (show leastK v (fun i => wt.testBit i) (k + 1) = some k by rw [HSU.out, if_pos rfl]; unfold stepV; rw [if_pos ⟨by rw [EN.out]; exact hlt, fun i h => by cases h; exact hv⟩])
            have hvb : decide (atD v k < atD v j) = true := by simpa using hv
            clear hv
            go_wp2_with fail
            refine wp_region_past (by kernel_rfl) (by kernel_rfl) ?_
            repeat (go_big_quiet_step ((first | (go_at_call 11; first | with_reducible exact Calls.in_past (HH.out _) | with_reducible exact Calls.in_past2 (HH.out _)) | (go_at_call 11; first | exact Calls.in_past (HH.out _) | exact Calls.in_past2 (HH.out _)))))
            refine wpQuiet_nil ?_
            rintro _ ⟨_, rfl⟩
            go_wp2
            go_roundw
            case rel => exact ⟨k + 1, _, by go_num, by omega, by rw [HS.out], rfl⟩
            case measure => simp [natI]; omega
          · have HS := hid (show leastK v (fun i => wt.testBit i) (k + 1) = some j by rw [HSU.out, if_pos rfl]; unfold stepV; rw [if_neg (fun h => hv (h.2 j rfl))])
            have hvb : decide (atD v k < atD v j) = false := by simpa using hv
            clear hv
            go_wp2_with fail
            refine wp_region_past (by kernel_rfl) (by kernel_rfl) ?_
            repeat (go_big_quiet_step ((first | (go_at_call 11; first | with_reducible exact Calls.in_past (HH.out _) | with_reducible exact Calls.in_past2 (HH.out _)) | (go_at_call 11; first | exact Calls.in_past (HH.out _) | exact Calls.in_past2 (HH.out _)))))
            refine wpQuiet_nil ?_
            rintro _ ⟨_, rfl⟩
            go_wp2
            go_roundw
            case rel => exact ⟨k + 1, _, by go_num, by omega, by rw [HS.out], rfl⟩
            case measure => simp [natI]; omega
      · rw [hb] at HH HSU
        clear hb
        have HS := hid (show leastK v (fun i => wt.testBit i) (k + 1) = bo by rw [HSU.out, if_neg (by simp)])
        obtain ⟨eb, eeb⟩ : ∃ z, encB bo = z := ⟨_, rfl⟩
        have HE := hid eeb
        rw [eeb]
        clear eeb HSU
        go_wp2_with fail
        refine wp_region_past (by kernel_rfl) (by kernel_rfl) ?_
        repeat (go_big_quiet_step ((first | (go_at_call 11; first | with_reducible exact Calls.in_past (HH.out _) | with_reducible exact Calls.in_past2 (HH.out _)) | (go_at_call 11; first | exact Calls.in_past (HH.out _) | exact Calls.in_past2 (HH.out _)))))
        refine wpQuiet_nil ?_
        rintro _ ⟨_, rfl⟩
        go_wp2
        go_roundw
        case rel => exact ⟨k + 1, _, by go_num, by omega, by rw [HS.out, HE.out], rfl⟩
        case measure => simp [natI]; omega
    · obtain rfl : k = n := by omega
      rw [← HF.out]
      go_wp2_with fail
      go_ret
      exact Gives.mk rfl (w.below_past _)
end Go.Proofs.YthlogfclgakhkaaDoor
