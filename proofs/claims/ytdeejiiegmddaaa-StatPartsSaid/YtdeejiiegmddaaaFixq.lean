/-
  The walks over layer 1's Add, Sub, Mul, and over the library's Add64, Sub64, Mul64: plain numbers. No condition.
-/
import Derived.Test.YtdeejiiegmddaaaRows
import Derived.WalkKit
import Derived.WalkSpells
import Derived.WalkLawsBesides
import Derived.Lib.Mul64
import Derived.BigQuiet
import Derived.Test.YtdeejiiegmddaaaLift
namespace Go.Proofs.Ytdeejiiegmddaaa
open Go.RowKit
/-! Numbers of 64 bits, their sums and products, under names: no walk looks into them. -/
def top64 : Int := 18446744073709551616
def sumF (a b c : Int) : Int := (a + b + c) % top64
def carF (a b c : Int) : Int := (a + b + c) / top64
def difF (a b c : Int) : Int := (a - b - c) % top64
def borF (a b c : Int) : Int := if a < b + c then 1 else 0
def hiF (a b : Int) : Int := a * b / top64
def loF (a b : Int) : Int := a * b % top64
theorem hi_word {a b : Int} (ha : U64 a) (hb : U64 b) : U64 (hiF a b) := by
  unfold hiF top64
  refine ⟨Int.ediv_nonneg (Int.mul_nonneg ha.1 hb.1) (by omega), Int.ediv_lt_of_lt_mul (by omega) ?_⟩
  have := Int.mul_le_mul_of_nonneg_left (show b ≤ 18446744073709551616 by have := hb.2; omega) ha.1
  have := ha.2
  omega
theorem lo_word (a b : Int) : U64 (loF a b) := by
  unfold loF top64
  exact ⟨by omega, by omega⟩
theorem dec_cases (p : Prop) [Decidable p] : decide p = true ∨ decide p = false := by by_cases h : p <;> simp [h]
theorem beq_cases (a b : Int) : (a == b) = true ∨ (a == b) = false := by by_cases h : a = b <;> simp [h]
theorem bne_cases (a b : Int) : (a != b) = true ∨ (a != b) = false := by by_cases h : a = b <;> simp [h]
theorem add64_run (x y c : Int) (hx : U64 x) (hy : U64 y) (hc : 0 ≤ c ∧ c ≤ 1) (w : World) : (callFunc 29 #[.int .u64 x, .int .u64 y, .int .u64 c]).run Try.prog w =
    .ok (.value (.tuple #[.int .u64 (sumF x y c), .int .u64 (carF x y c)])) w := by
  rw [run_callFunc_extern Try.func29 (by kernel_rfl) (by kernel_rfl) (by kernel_rfl) (e := add64Entry) (by kernel_rfl), run_add64 x y c hx.1 hy.1 hc.1 hc.2]
  rfl
theorem mul64_mask (a : Nat) (ha : a < 18446744073709551616) : bits .and .u64 (a : Int) 4294967295 = ((a % 4294967296 : Nat) : Int) := by
  have h := u64_and_nat a 4294967295 ha (by omega)
  have e : a &&& 4294967295 = a % 4294967296 := Nat.and_two_pow_sub_one_eq_mod a 32
  rw [e] at h
  exact h
theorem divN (a : Nat) : (a : Int) / 4294967296 = ((a / 4294967296 : Nat) : Int) := by omega
theorem mulN (a b : Nat) : (a : Int) * (b : Int) = ((a * b : Nat) : Int) := (Int.natCast_mul a b).symm
theorem addN (a b : Nat) : (a : Int) + (b : Int) = ((a + b : Nat) : Int) := (Int.natCast_add a b).symm
theorem wrapN (a : Nat) (ha : a < 18446744073709551616) : IntKind.u64.wrap (a : Int) = (a : Int) := by rw [IntKind.wrap_u64]; omega
theorem wrapM (a : Nat) : IntKind.u64.wrap (a : Int) = ((a % 18446744073709551616 : Nat) : Int) := by rw [IntKind.wrap_u64]; omega
/-! Layer 1. -/
def addF (a b : Int) : Int := if carF a b 0 == 0 then sumF a b 0 else 18446744073709551615
def addE (a b : Int) : Int := if carF a b 0 == 0 then 0 else 2
def subF (a b : Int) : Int := if decide (a < b) then 0 else a - b
def subE (a b : Int) : Int := if decide (a < b) then 2 else 0
def mulF (a b : Int) : Int := if hiF a b == 0 then loF a b else 18446744073709551615
def mulE (a b : Int) : Int := if hiF a b == 0 then 0 else 2
theorem bne_of {a b : Int} {c : Bool} (h : (a == b) = c) : (a != b) = !c := by rw [bne, h]
set_option maxHeartbeats 400000 in
theorem Add_any (a b : Int) (ha : U64 a) (hb : U64 b) (w : World) :
    Calls Try.prog 21 #[.int .u64 a, .int .u64 b] w (Gives (.tuple #[.int .u64 (addF a b), .int .i64 (addE a b)]) w) := by
  have e := fun w => add64_run a b 0 ha hb ⟨by omega, by omega⟩ w
  clear ha hb
  rcases beq_cases (carF a b 0) 0 with h | h
  all_goals
    have h' := bne_of h
    go_enter Try.func21, Try.ntmps21
    go_wp2
    go_ret2
    exact Gives.refl (by simp [addF, addE, h])
set_option maxHeartbeats 400000 in
theorem Sub_any (a b : Int) (ha : U64 a) (hb : U64 b) (w : World) :
    Calls Try.prog 32 #[.int .u64 a, .int .u64 b] w (Gives (.tuple #[.int .u64 (subF a b), .int .i64 (subE a b)]) w) := by
  rcases dec_cases (a < b) with h | h
  · clear ha hb
    go_enter Try.func32, Try.ntmps32
    go_wp2
    go_ret2
    exact Gives.refl (by simp [subF, subE, h])
  · have e : IntKind.u64.wrap (a - b) = a - b := by
      rw [IntKind.wrap_u64]
      have := ha.2; have := hb.1
      simp at h
      omega
    clear ha hb
    go_enter Try.func32, Try.ntmps32
    go_wp2
    go_ret2
    exact Gives.refl (by simp [subF, subE, h, e])
end Go.Proofs.Ytdeejiiegmddaaa
