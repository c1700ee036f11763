/-
  The walks over layer 1's Add, Sub, Mul, and over the library's Add64, Sub64, Mul64: plain numbers. No condition.
-/
import Derived.Test.YthlogfclgakhkaaDoorRows
import Derived.WalkKit
import Derived.WalkSpells
import Derived.WalkLawsBesides
import Derived.Lib.Mul64
import Derived.BigQuiet
import Derived.Test.YthlogfclgakhkaaDoorLift
namespace Go.Proofs.YthlogfclgakhkaaDoor
open Go.RowKit
/-! Numbers of 64 bits, their sums and products, under names: no walk looks into them. -/
def top64 : Int := 18446744073709551616
def sumF (a b c : Int) : Int := (a + b + c) % top64
def carF (a b c : Int) : Int := (a + b + c) / top64
def difF (a b c : Int) : Int := (a - b - c) % top64
def borF (a b c : Int) : Int := if a < b + c then 1 else 0
def hiF (a b : Int) : Int := a * b / top64
def loF (a b : Int) : Int := a * b % top64
theorem hi_word {a b : Int} (ha : U64 a) (hb : U64 b) : U64 (hiF a b) := by
  unfold hiF top64
  refine ⟨Int.ediv_nonneg (Int.mul_nonneg ha.1 hb.1) (by omega), Int.ediv_lt_of_lt_mul (by omega) ?_⟩
  have := Int.mul_le_mul_of_nonneg_left (show b ≤ 18446744073709551616 by have := hb.2; omega) ha.1
  have := ha.2
  omega
theorem lo_word (a b : Int) : U64 (loF a b) := by
  unfold loF top64
  exact ⟨by omega, by omega⟩
theorem dec_cases (p : Prop) [Decidable p] : decide p = true ∨ decide p = false := by by_cases h : p <;> simp [h]
theorem beq_cases (a b : Int) : (a == b) = true ∨ (a == b) = false := by by_cases h : a = b <;> simp [h]
theorem bne_cases (a b : Int) : (a != b) = true ∨ (a != b) = false := by by_cases h : a = b <;> simp [h]
theorem add64_run (x y c : Int) (hx : U64 x) (hy : U64 y) (hc : 0 ≤ c ∧ c ≤ 1) (w : World) : (callFunc 35 #[.int .u64 x, .int .u64 y, .int .u64 c]).run Tryd.prog w =
    .ok (.value (.tuple #[.int .u64 (sumF x y c), .int .u64 (carF x y c)])) w := by
  rw [run_callFunc_extern Tryd.func35 (by kernel_rfl) (by kernel_rfl) (by kernel_rfl) (e := add64Entry) (by kernel_rfl), run_add64 x y c hx.1 hy.1 hc.1 hc.2]
  rfl
theorem mul64_mask (a : Nat) (ha : a < 18446744073709551616) : bits .and .u64 (a : Int) 4294967295 = ((a % 4294967296 : Nat) : Int) := by
  have h := u64_and_nat a 4294967295 ha (by omega)
  have e : a &&& 4294967295 = a % 4294967296 := Nat.and_two_pow_sub_one_eq_mod a 32
  rw [e] at h
  exact h
theorem divN (a : Nat) : (a : Int) / 4294967296 = ((a / 4294967296 : Nat) : Int) := by omega
theorem mulN (a b : Nat) : (a : Int) * (b : Int) = ((a * b : Nat) : Int) := (Int.natCast_mul a b).symm
theorem addN (a b : Nat) : (a : Int) + (b : Int) = ((a + b : Nat) : Int) := (Int.natCast_add a b).symm
theorem wrapN (a : Nat) (ha : a < 18446744073709551616) : IntKind.u64.wrap (a : Int) = (a : Int) := by rw [IntKind.wrap_u64]; omega
theorem wrapM (a : Nat) : IntKind.u64.wrap (a : Int) = ((a % 18446744073709551616 : Nat) : Int) := by rw [IntKind.wrap_u64]; omega
set_option maxHeartbeats 1000000 in
theorem Mul64_nat (x y : Nat) (hx : x < 18446744073709551616) (hy : y < 18446744073709551616) (w : World) :
    Calls Tryd.prog 33 #[.int .u64 x, .int .u64 y] w fun e w' => e = .returned (.tuple #[.int .u64 ((x * y / 18446744073709551616 : Nat) : Int), .int .u64 ((x * y % 18446744073709551616 : Nat) : Int)]) ∧ w' = w := by
  obtain ⟨bd, bt, bw, hhi⟩ := Lib.mul64_hi x y hx hy
  have ba := Lib.half_mul_le (a := x / 4294967296) (b := y / 4294967296) (by omega) (by omega)
  have bb := Lib.half_mul_le (a := x / 4294967296) (b := y % 4294967296) (by omega) (by omega)
  have bc := Lib.half_mul_le (a := x % 4294967296) (b := y / 4294967296) (by omega) (by omega)
  have ba' : x / 4294967296 * (y / 4294967296) < 18446744073709551616 := by omega
  have bb' : x / 4294967296 * (y % 4294967296) < 18446744073709551616 := by omega
  have bc' : x % 4294967296 * (y / 4294967296) < 18446744073709551616 := by omega
  have bh1 : x / 4294967296 * (y / 4294967296) + (x / 4294967296 * (y % 4294967296) + x % 4294967296 * (y % 4294967296) / 4294967296) / 4294967296 < 18446744073709551616 := by omega
  have bh : x / 4294967296 * (y / 4294967296) + (x / 4294967296 * (y % 4294967296) + x % 4294967296 * (y % 4294967296) / 4294967296) / 4294967296 + ((x / 4294967296 * (y % 4294967296) + x % 4294967296 * (y % 4294967296) / 4294967296) % 4294967296 + x % 4294967296 * (y / 4294967296)) / 4294967296 < 18446744073709551616 := by omega
  go_enter Tryd.func33, Tryd.ntmps33
  go_wp2
  simp only [mul64_mask x hx, mul64_mask y hy, divN, mulN, addN, wrapN _ bd, wrapN _ bb', wrapN _ bt, mul64_mask _ bt, wrapN _ bc', wrapN _ bw, wrapN _ ba', wrapN _ bh1, wrapN _ bh, wrapM (x * y)]
  rw [hhi]
  go_ret2
  exact ⟨rfl, rfl⟩
theorem Mul64_any (x y : Int) (hx : U64 x) (hy : U64 y) (w : World) :
    Calls Tryd.prog 33 #[.int .u64 x, .int .u64 y] w (Gives (.tuple #[.int .u64 (hiF x y), .int .u64 (loF x y)]) w) := by
  obtain ⟨x, rfl⟩ := Int.eq_ofNat_of_zero_le hx.1
  obtain ⟨y, rfl⟩ := Int.eq_ofNat_of_zero_le hy.1
  refine (Mul64_nat x y (by have := hx.2; omega) (by have := hy.2; omega) w).mono ?_
  rintro _ _ ⟨rfl, rfl⟩
  exact Gives.refl (by simp [hiF, loF, top64])
/-! Layer 1. -/
def addF (a b : Int) : Int := if carF a b 0 == 0 then sumF a b 0 else 18446744073709551615
def addE (a b : Int) : Int := if carF a b 0 == 0 then 0 else 2
def subF (a b : Int) : Int := if decide (a < b) then 0 else a - b
def subE (a b : Int) : Int := if decide (a < b) then 2 else 0
def mulF (a b : Int) : Int := if hiF a b == 0 then loF a b else 18446744073709551615
def mulE (a b : Int) : Int := if hiF a b == 0 then 0 else 2
theorem bne_of {a b : Int} {c : Bool} (h : (a == b) = c) : (a != b) = !c := by rw [bne, h]
set_option maxHeartbeats 400000 in
theorem Add_any (a b : Int) (ha : U64 a) (hb : U64 b) (w : World) :
    Calls Tryd.prog 32 #[.int .u64 a, .int .u64 b] w (Gives (.tuple #[.int .u64 (addF a b), .int .i64 (addE a b)]) w) := by
  have e := fun w => add64_run a b 0 ha hb ⟨by omega, by omega⟩ w
  clear ha hb
  rcases beq_cases (carF a b 0) 0 with h | h
  all_goals
    have h' := bne_of h
    go_enter Tryd.func32, Tryd.ntmps32
    go_wp2
    go_ret2
    exact Gives.refl (by simp [addF, addE, h])
set_option maxHeartbeats 400000 in
theorem Mul_any (a b : Int) (ha : U64 a) (hb : U64 b) (w : World) :
    Calls Tryd.prog 30 #[.int .u64 a, .int .u64 b] w (Gives (.tuple #[.int .u64 (mulF a b), .int .i64 (mulE a b)]) w) := by
  have Ha := hid ha
  have Hb := hid hb
  clear ha hb
  rcases beq_cases (hiF a b) 0 with h | h
  all_goals
    have h' := bne_of h
    go_enter Tryd.func30, Tryd.ntmps30
    go_wp2_with ((go_at_call 33; refine (Mul64_any _ _ Ha.out Hb.out _).mono ?_; rintro _ _ ⟨rfl, _, rfl⟩))
    go_ret2
    refine Gives.mk (by simp [mulF, mulE, h]) ?_
    (repeat (first | exact Below.refl _ _ | refine RowKit.Below.past ?_ _ | refine RowKit.Below.alloc' ?_ _ | refine RowKit.Below.drew' ?_ | refine RowKit.Below.drewN' ?_ _ | refine RowKit.Below.setCell' ?_ (by simp [go_sem]) _))
end Go.Proofs.YthlogfclgakhkaaDoor
