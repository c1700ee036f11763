/-
  Layer 34: the document's: a number that so many aren't above; what comes. No condition.
-/
import Derived.Test.YtccfamagckgamaaHisR
namespace Go.Proofs.Ytccfamagckgamaa
open Go.RowKit
set_option maxRecDepth 20000 in
set_option maxHeartbeats 1000000 in
theorem RBelow_any (bw : Nat) (L : List Cm) (hL : OkL L) (part parts : Int) (w : World) (h : RefR w bw L) :
    Calls Try.prog 24 #[.pointer (some ⟨bw, 0, none⟩), .int .i64 part, .int .i64 parts] w (Gives (.tuple #[.int .u64 (belowF L part parts).1, .bool (belowF L part parts).2]) w) := by
  have c0 := cnt_nonneg hL.each
  have c1 := hL.most
  have HC := hid (fun x => RCount_any bw L hL (w.past x) (h.below (w.below_past x)))
  have HC0 := hid (RCount_any bw L hL w h)
  have HAT := hid (fun p x => RAt_any bw L hL p (w.past x) (h.below (w.below_past x)))
  by_cases hbad : badF L part parts
  · have hr : belowF L part parts = (0, false) := by unfold belowF; rw [if_pos hbad]
    rw [hr]
    unfold badF at hbad
    clear h hr hL HAT
    by_cases g1 : parts < 1
    · go_enter Try.func24, Try.ntmps24
      go_wp2_with fail
      go_ret2
      exact Gives.mk rfl (Below.refl _ _)
    · by_cases g2 : 1048576 < parts
      · go_enter Try.func24, Try.ntmps24
        go_wp2_with fail
        go_ret2
        exact Gives.mk rfl (Below.refl _ _)
      · by_cases g3 : part < 0
        · go_enter Try.func24, Try.ntmps24
          go_wp2_with fail
          go_ret2
          exact Gives.mk rfl (Below.refl _ _)
        · by_cases g4 : parts < part
          · go_enter Try.func24, Try.ntmps24
            go_wp2_with fail
            go_ret2
            exact Gives.mk rfl (Below.refl _ _)
          · have g0 : cntF L = 0 := by omega
            rw [g0] at HC0
            go_enter Try.func24, Try.ntmps24
            go_wp2_with (go_at_call 15; refine HC0.out.mono ?_; rintro _ _ ⟨rfl, x1, rfl⟩)
            go_ret2
            exact Gives.mk rfl (World.below_past _ _)
  · obtain ⟨r, er⟩ : ∃ r, belowF L part parts = r := ⟨_, rfl⟩
    have hr : r = match findK L (needF L part parts) 65 with
      | some k => ((2 : Int) ^ k - 1, true)
      | none => (0, false) := by rw [← er]; unfold belowF; rw [if_neg hbad]; cases findK L (needF L part parts) 65 <;> rfl
    rw [er]
    unfold badF at hbad
    have g0 : ¬ cntF L = 0 := fun c => hbad (.inl c)
    have g0' : (cntF L == 0) = false := by simpa using g0
    have g1 : ¬ parts < 1 := fun c => hbad (.inr (.inl c))
    have g2 : ¬ 1048576 < parts := fun c => hbad (.inr (.inr (.inl c)))
    have g3 : ¬ part < 0 := fun c => hbad (.inr (.inr (.inr (.inl c))))
    have g4 : ¬ parts < part := fun c => hbad (.inr (.inr (.inr (.inr c))))
    have b1 : 0 ≤ cntF L * part := Int.mul_nonneg (by omega) (by omega)
    have b2 : cntF L * part ≤ 1099511627776 * 1048576 := by
      have h1 := Int.mul_le_mul_of_nonneg_right c1 (show 0 ≤ part by omega)
      have h2 := Int.mul_le_mul_of_nonneg_left (show part ≤ 1048576 by omega) (show (0 : Int) ≤ 1099511627776 by omega)
      omega
    have e1 : IntKind.i64.wrap (cntF L * part) = cntF L * part := by rw [IntKind.wrap_i64]; omega
    have e2 : IntKind.i64.wrap (cntF L * part + parts) = cntF L * part + parts := by rw [IntKind.wrap_i64]; omega
    have e3 : IntKind.i64.wrap (cntF L * part + parts - 1) = cntF L * part + parts - 1 := by rw [IntKind.wrap_i64]; omega
    obtain ⟨need, hnd⟩ : ∃ need, needF L part parts = need := ⟨_, rfl⟩
    have b3 : 0 ≤ need ∧ need ≤ cntF L * part + parts := by
      rw [← hnd]; unfold needF
      refine ⟨Int.ediv_nonneg (by omega) (by omega), ?_⟩
      have := Int.ediv_le_self parts (show 0 ≤ cntF L * part + parts - 1 by omega)
      omega
    have e4 : wrap64 ((cntF L * part + parts - 1).tdiv parts) = need := by
      rw [Int.tdiv_eq_ediv_of_nonneg (by omega), show (cntF L * part + parts - 1) / parts = need from hnd]
      unfold wrap64
      omega
    rw [hnd] at hr
    have hpos : ¬ parts = 0 := by omega
    have HRR := hid hr
    have HL := hid hL
    clear h hr hL hbad hnd b1 b2 b3
    go_enter Try.func24, Try.ntmps24
    go_wp2_with (go_at_call 15; first | ((with_reducible refine HC0.out.mono ?_); rintro _ _ ⟨rfl, x1, rfl⟩) | ((with_reducible refine (HC.out _).mono ?_); rintro _ _ ⟨rfl, x2, rfl⟩))
    rw [e4]
    clear e1 e2 e3 e4 g0 g0' g1 g2 g3 g4 hpos HC HC0
    go_loopw [9, 10] (fun n i wr => ∃ (k : Nat) (x : Past), i = .int .i64 k ∧ n = .int .i64 (prefF L k) ∧ k ≤ 65 ∧ wr = w.past x ∧ Hid (findK L need k = none)) (fun _ i _ => 65 - numOf i)
    case atStart => exact ⟨0, _, rfl, rfl, by omega, rfl, hid rfl⟩
    case round =>
      obtain ⟨k, x, rfl, rfl, hk, rfl, HF⟩ := hrel
      by_cases hlt : k < 65
      · have hat := HAT.out k x
        have HA := hid hat
        have hle : (k : Int) ≤ 64 := by omega
        have h1 := pref_range HL.out.each k
        have h2 := pref_range HL.out.each (k + 1)
        have h3 : ((k + 1 : Nat) : Int) * cntF L ≤ 65 * 1099511627776 := by
          have h4 := Int.mul_le_mul_of_nonneg_left c1 (show 0 ≤ ((k + 1 : Nat) : Int) by omega)
          have h5 := Int.mul_le_mul_of_nonneg_right (show ((k + 1 : Nat) : Int) ≤ 65 by omega) (show (0 : Int) ≤ 1099511627776 by omega)
          omega
        have hpe : prefF L (k + 1) = prefF L k + atF L k := rfl
        have w5 : IntKind.i64.wrap (prefF L k + atF L k) = prefF L (k + 1) := by rw [IntKind.wrap_i64, hpe]; rw [hpe] at h2; omega
        have e2 : IntKind.i64.wrap ((k : Int) + 1) = (k : Int) + 1 := by rw [IntKind.wrap_i64]; omega
        by_cases hn : need ≤ prefF L (k + 1)
        · have hf : findK L need 65 = some k := findK_some (k := k + 1) (by rw [findK, HF.out, if_pos hn]) (by omega)
          have hRR : r = ((2 : Int) ^ k - 1, true) := by rw [HRR.out, hf]
          have HR2 := hid hRR
          have HTOP := hid (fun w => top_any k (by omega) w)
          clear hf hRR HRR h1 h2 h3 hpe HF HL c0 c1 hat HAT
          go_wp2_with (first | (go_at_call 27; (with_reducible refine HA.out.mono ?_); rintro _ _ ⟨rfl, _, rfl⟩) | (go_at_call 31; (with_reducible refine (HTOP.out _).mono ?_); rintro _ _ ⟨rfl, _, rfl⟩))
          go_ret2
          exact Gives.mk (by rw [HR2.out]; rfl) (World.below_past _ _)
        · have hf : findK L need (k + 1) = none := by rw [findK, HF.out, if_neg hn]
          have HF2 := hid hf
          clear hf HRR h1 h2 h3 hpe HF HL c0 c1 hat HAT
          go_wp2_with (go_at_call 27; (with_reducible refine HA.out.mono ?_); rintro _ _ ⟨rfl, _, rfl⟩)
          go_roundw
          case rel => exact ⟨k + 1, _, by go_num, rfl, by omega, rfl, HF2⟩
          case measure => simp [numOf]; omega
      · obtain rfl : k = 65 := by omega
        have hRR : r = (0, false) := by rw [HRR.out, HF.out]
        have HR2 := hid hRR
        clear hRR HRR HF HL c0 c1 HAT
        go_wp2
        go_ret2
        exact Gives.mk (by rw [HR2.out]; rfl) (World.below_past _ _)
end Go.Proofs.Ytccfamagckgamaa
