/-
  Layer 18: the least of a set, who is behind whom, who is active, of the document's ledger. No condition.
-/
import Derived.Test.YtookaodcdglhfaaDoorRefW
import Derived.Test.YtookaodcdglhfaaDoorSetS
import Derived.Test.YtookaodcdglhfaaDoorHas
namespace Go.Proofs.YtookaodcdglhfaaDoor
open Go.RowKit
set_option maxRecDepth 100000 in
set_option maxHeartbeats 4000000 in
theorem RLeast_any {B b : Nat} {w : World} {l : List Pt} {sl cr fl : Int} {has : Nat → Bool} (hl8 : l.length ≤ 8) (h : RfAt B w b l sl cr fl has) (s : Nat) :
    Calls Tryd.prog 22 #[.pointer (some ⟨b, 0, none⟩), .int .u64 s] w (Gives (.int .i64 (encB (leastF l s))) w) := by
  obtain ⟨A, c, q0⟩ := h.len
  have HH := hid h
  obtain ⟨n, en⟩ : ∃ n, l.length = n := ⟨_, rfl⟩
  have HE := hid (show leastF l s = leastK l (fun i => s.testBit i) n by rw [← en]; rfl)
  have HP := hid (fun j (hj : j < n) => (show ∃ g cap, A = some ⟨g, 0, none⟩ ∧ w.cell? ⟨g, j * 4 + 1, none⟩ = some (.int .u64 (pt l j).v) by
    obtain ⟨g, cap, r0, _, r2, _⟩ := h.party (k := j) (by omega)
    rw [q0] at r0
    simp at r0
    exact ⟨g, cap, r0.1, r2⟩))
  have HB := hid (fun k hk => (leastK_is l (fun i => s.testBit i) k hk).2)
  rw [en] at q0 hl8 HB
  have EN := hid en
  clear h en
  go_enter Tryd.func22, Tryd.ntmps22
  go_wp2_with fail
  go_loopw [5, 6] (fun v i wr => ∃ (k : Nat) (x : Past), k ≤ n ∧ i = .int .i64 k ∧ v = .int .i64 (encB (leastK l (fun i => s.testBit i) k)) ∧ wr = w.past x) (fun _ i _ => n - natI i)
  case atStart => exact ⟨0, ⟨#[], w.drawn⟩, Nat.zero_le _, rfl, rfl, World.past_refl w⟩
  case round =>
    obtain ⟨k, x, hkn, rfl, rfl, rfl⟩ := hrel
    by_cases hlt : k < n
    · obtain ⟨g, cap, eA, c1⟩ := HP.out k hlt
      subst eA
      have HHS := hid (fun W => RHasN_gives s k (by omega) W)
      have HSUC := hid (show leastK l (fun i => s.testBit i) (k + 1) = if s.testBit k then stepL l (leastK l (fun i => s.testBit i) k) k else leastK l (fun i => s.testBit i) k from rfl)
      have HBK := hid (HB.out k (by omega))
      obtain ⟨bo, ebo⟩ : ∃ bo, leastK l (fun i => s.testBit i) k = bo := ⟨_, rfl⟩
      rw [ebo] at HSUC HBK ⊢
      clear ebo
      have fin : ∀ (v : Option Nat) (x : Past), leastK l (fun i => s.testBit i) (k + 1) = v → ∃ (k' : Nat) (x' : Past), k' ≤ n ∧ Value.int .i64 ((k : Int) + 1) = .int .i64 k' ∧ Value.int .i64 (encB v) = .int .i64 (encB (leastK l (fun i => s.testBit i) k')) ∧ w.past x = w.past x' := fun v x hv => ⟨k + 1, x, by omega, by go_num, by rw [hv], rfl⟩
      have HF := hid fin
      clear fin
      cases ht : s.testBit k with
      | false =>
        rw [ht] at HHS
        have HS := hid (show leastK l (fun i => s.testBit i) (k + 1) = bo by rw [HSUC.out, ht]; rfl)
        clear ht
        go_wp2_with fail
        refine wp_region_past (by kernel_rfl) (by kernel_rfl) ?_
        repeat (go_big_quiet_step ((first | (go_at_call 37; first | with_reducible exact Calls.in_past (HHS.out _) | with_reducible exact Calls.in_past2 (HHS.out _)) | (go_at_call 37; first | exact Calls.in_past (HHS.out _) | exact Calls.in_past2 (HHS.out _)))))
        refine wpQuiet_nil ?_
        rintro _ ⟨_, rfl⟩
        go_wp2
        go_roundw
        case rel => exact HF.out bo _ HS.out
        case measure => simp [natI]; omega
      | true =>
        rw [ht] at HHS
        cases bo with
        | none =>
          have HS := hid (show leastK l (fun i => s.testBit i) (k + 1) = some k by rw [HSUC.out, ht]; show stepL l none k = some k; unfold stepL; rw [if_pos ⟨by rw [EN.out]; exact hlt, fun j h => by cases h⟩])
          simp only [encB]
          clear ht
          go_wp2_with fail
          refine wp_region_past (by kernel_rfl) (by kernel_rfl) ?_
          repeat (go_big_quiet_step ((first | (go_at_call 37; first | with_reducible exact Calls.in_past (HHS.out _) | with_reducible exact Calls.in_past2 (HHS.out _)) | (go_at_call 37; first | exact Calls.in_past (HHS.out _) | exact Calls.in_past2 (HHS.out _)))))
          refine wpQuiet_nil ?_
          rintro _ ⟨_, rfl⟩
          go_wp2
          go_roundw
          case rel => exact HF.out (some k) _ HS.out
          case measure => simp [natI]; omega
        | some j =>
          have hj : j < k := (HBK.out j rfl).1
          obtain ⟨g2, cap2, eA2, d1⟩ := HP.out j (by omega)
          cases eA2
          have hj0 : decide ((j : Int) < 0) = false := by simp
          have hjn : j < n := by omega
          simp only [encB]
          by_cases hv : (pt l k).v < (pt l j).v
          · have HS := hid (show leastK l (fun i => s.testBit i) (k + 1) = some k by rw [HSUC.out, ht]; show stepL l (some j) k = some k; unfold stepL; rw [if_pos ⟨by rw [EN.out]; exact hlt, fun i h => by cases h; exact hv⟩])
            have hvb : decide ((pt l k).v < (pt l j).v) = true := by simpa using hv
            clear ht hv
            go_wp2_with fail
            refine wp_region_past (by kernel_rfl) (by kernel_rfl) ?_
            repeat (go_big_quiet_step ((first | (go_at_call 37; first | with_reducible exact Calls.in_past (HHS.out _) | with_reducible exact Calls.in_past2 (HHS.out _)) | (go_at_call 37; first | exact Calls.in_past (HHS.out _) | exact Calls.in_past2 (HHS.out _)))))
            refine wpQuiet_nil ?_
            rintro _ ⟨_, rfl⟩
            go_wp2
            go_roundw
            case rel => exact HF.out (some k) _ HS.out
            case measure => simp [natI]; omega
          · have HS := hid (show leastK l (fun i => s.testBit i) (k + 1) = some j by rw [HSUC.out, ht]; show stepL l (some j) k = some j; unfold stepL; rw [if_neg (fun h => hv (h.2 j rfl))])
            have hvb : decide ((pt l k).v < (pt l j).v) = false := by simpa using hv
            clear ht hv
            go_wp2_with fail
            refine wp_region_past (by kernel_rfl) (by kernel_rfl) ?_
            repeat (go_big_quiet_step ((first | (go_at_call 37; first | with_reducible exact Calls.in_past (HHS.out _) | with_reducible exact Calls.in_past2 (HHS.out _)) | (go_at_call 37; first | exact Calls.in_past (HHS.out _) | exact Calls.in_past2 (HHS.out _)))))
            refine wpQuiet_nil ?_
            rintro _ ⟨_, rfl⟩
            go_wp2
            go_roundw
            case rel => exact HF.out (some j) _ HS.out
            case measure => simp [natI]; omega
    · obtain rfl : k = n := by omega
      rw [← HE.out]
      go_wp2
      go_ret
      exact Gives.mk rfl (w.below_past _)
end Go.Proofs.YtookaodcdglhfaaDoor
