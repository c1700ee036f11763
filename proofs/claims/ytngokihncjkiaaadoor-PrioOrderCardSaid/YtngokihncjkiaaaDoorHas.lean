/-
  Layer 06: the document's bits of a set, by natural numbers. No condition.
-/
import Derived.Test.YtngokihncjkiaaaDoorLift
import Derived.Test.YtngokihncjkiaaaDoorFixq
import Derived.Laws.Bits64b
import Derived.Test.YtngokihncjkiaaaDoorRows
namespace Go.Proofs.YtngokihncjkiaaaDoor
open Go.RowKit
theorem bit_and (s q : Nat) (hs : s < 18446744073709551616) : bits .and .u64 ((s : Int) / 2 ^ q) 1 = if s.testBit q then 1 else 0 := by
  have e : (s : Int) / 2 ^ q = ((s / 2 ^ q : Nat) : Int) := by simp
  have h1 := bits_and_u64_nat (s / 2 ^ q) 1 (Nat.lt_of_le_of_lt (Nat.div_le_self _ _) hs) (by omega)
  rw [e]
  rw [show ((1 : Nat) : Int) = 1 from rfl] at h1
  rw [h1, Nat.and_one_is_mod, Nat.testBit_eq_decide_div_mod_eq]
  have hr : s / 2 ^ q % 2 < 2 := Nat.mod_lt _ (by omega)
  generalize s / 2 ^ q % 2 = r at hr ⊢
  by_cases h : r = 1
  · rw [if_pos (by simpa using h), h]; rfl
  · rw [if_neg (by simpa using h)]
    have : r = 0 := by omega
    rw [this]; rfl
set_option maxHeartbeats 400000 in
theorem RHasN_any (s k : Nat) (hk : k < 64) (w : World) :
    Calls Tryd.prog 35 #[.int .u64 (s : Int), .int .i64 (k : Int)] w (fun e w' => e = .returned (.bool (s.testBit k)) ∧ w' = w) := by
  go_enter Tryd.func35, Tryd.ntmps35
  go_wp2
  go_ret
  refine ⟨?_, rfl⟩
  show Ending.returned (Value.bool (((s : Int) / 2 ^ k).tmod 2 == 1)) = Ending.returned (Value.bool (s.testBit k))
  rw [Nat.testBit_eq_decide_div_mod_eq]
  have e : ((s : Int) / 2 ^ k).tmod 2 = ((s / 2 ^ k % 2 : Nat) : Int) := by
    have : ((s : Int) / 2 ^ k) = ((s / 2 ^ k : Nat) : Int) := by simp
    rw [this]; rfl
  rw [e]
  generalize s / 2 ^ k % 2 = r
  congr 2
  rw [Bool.eq_iff_iff, beq_iff_eq, decide_eq_true_iff]
  omega
theorem RHasN_gives (s k : Nat) (hk : k < 64) (w : World) : Calls Tryd.prog 35 #[.int .u64 (s : Int), .int .i64 (k : Int)] w (Gives (.bool (s.testBit k)) w) :=
  (RHasN_any s k hk w).mono fun _ _ ⟨h1, h2⟩ => by subst h2; subst h1; exact Gives.refl rfl
set_option maxHeartbeats 400000 in
theorem RWithN_any (s k : Nat) (hk : k < 63) (hb : s.testBit k = false) (hs : s + 2 ^ k < 18446744073709551616) (w : World) :
    Calls Tryd.prog 15 #[.int .u64 (s : Int), .int .i64 (k : Int)] w (Gives (.int .u64 ((s + 2 ^ k : Nat) : Int)) w) := by
  have HH := hid (RHasN_gives s k (by omega))
  have HS := hid (show IntKind.u64.wrap ((s : Int) + 2 ^ k) = ((s + 2 ^ k : Nat) : Int) by
    have : (2 : Int) ^ k = ((2 ^ k : Nat) : Int) := by simp
    rw [this]
    generalize 2 ^ k = q at hs ⊢
    rw [IntKind.wrap_u64]; omega)
  have HP := hid (show IntKind.u64.wrap ((2 : Int) ^ k) = 2 ^ k by
    have : (2 : Int) ^ k = ((2 ^ k : Nat) : Int) := by simp
    rw [this]
    generalize 2 ^ k = q at hs ⊢
    rw [IntKind.wrap_u64]; omega)
  clear hs
  rw [hb] at HH
  clear hb
  have h1 : decide ((63 : Int) < (k : Int)) = false := by simp; omega
  have h2 : decide ((k : Int) < 0) = false := by simp
  go_enter Tryd.func15, Tryd.ntmps15
  go_wp2_with (go_at_call 35; refine (HH.out _).mono ?_; rintro _ _ ⟨rfl, x1, rfl⟩)
  go_ret
  refine Gives.mk ?_ (w.below_past _)
  show Value.int .u64 (IntKind.u64.wrap ((s : Int) + IntKind.u64.wrap (2 ^ k))) = _
  rw [HP.out, HS.out]
end Go.Proofs.YtngokihncjkiaaaDoor
