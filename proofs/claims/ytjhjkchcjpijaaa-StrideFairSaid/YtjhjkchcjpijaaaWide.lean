/-
  The walks over layer 1's numbers of two words: Near and Compare say what they say of the products. No condition.
-/
import Derived.Test.YtjhjkchcjpijaaaFixq
import Derived.Deep.RegionHeld3
import Derived.Shelf.Spec.BitsCarry
namespace Go.Proofs.Ytjhjkchcjpijaaa
open Go.RowKit
def cmpF (a b : Int) : Int := if decide (a < b) then -1 else if decide (b < a) then 1 else 0
set_option maxHeartbeats 400000 in
theorem Nan_any (a : Int) (w : World) : Calls Try.prog 52 #[.int .u64 a] w (Gives (.bool false) w) := by
  go_enter Try.func52, Try.ntmps52
  go_wp2
  go_ret
  exact Gives.refl rfl
set_option maxHeartbeats 400000 in
theorem Cmp_any (a b : Int) (w : World) : Calls Try.prog 50 #[.int .u64 a, .int .u64 b] w (Gives (.int .i64 (cmpF a b)) w) := by
  rcases dec_cases (a < b) with h | h <;> rcases dec_cases (b < a) with h2 | h2
  all_goals
    go_enter Try.func50, Try.ntmps50
    go_wp2_with ((go_at_call 52; refine (Nan_any _ _).mono ?_; rintro _ _ ⟨rfl, _, rfl⟩))
    go_ret
    refine Gives.mk (by simp [cmpF, h, h2]) ?_
    (repeat (first | exact Below.refl _ _ | refine RowKit.Below.past ?_ _ | refine RowKit.Below.alloc' ?_ _ | refine RowKit.Below.drew' ?_ | refine RowKit.Below.drewN' ?_ _ | refine RowKit.Below.setCell' ?_ (by simp [go_sem]) _))
def orF (x y : Int) : Int := if x == 0 then y else x
set_option maxHeartbeats 400000 in
theorem Or_two (x y : Int) (b o : Nat) (w : World) (c0 : w.cell? ⟨b, o, none⟩ = some (.int .i64 x)) (c1 : w.cell? ⟨b, o + 1, none⟩ = some (.int .i64 y)) :
    Calls Try.prog 49 #[.slice (some ⟨b, o, none⟩) 2 2] w (Gives (.int .i64 (orF x y)) w) := by
  rcases beq_cases x 0 with hx | hx
  · rcases beq_cases y 0 with hy | hy
    · have hx' := bne_of hx
      have hy' := bne_of hy
      go_enter Try.func49, Try.ntmps49
      go_wp2
      go_loop [8] (fun i => ∃ k : Nat, k ≤ 2 ∧ i = .int .i64 k) (fun i => 2 - (intOf i).toNat)
      case atStart => exact ⟨0, by omega, rfl⟩
      case round =>
        obtain ⟨k, hk, rfl⟩ := hrel
        have hk3 : k = 0 ∨ k = 1 ∨ k = 2 := by omega
        rcases hk3 with rfl | rfl | rfl
        · go_wp2
          go_round
          case rel => exact ⟨1, by omega, rfl⟩
          case measure => simp [intOf]
        · go_wp2
          go_round
          case rel => exact ⟨2, by omega, rfl⟩
          case measure => simp [intOf]
        · go_wp2
          go_ret
          exact Gives.refl (by simp at hy; simp [orF, hx, hy])
    · have hx' := bne_of hx
      have hy' := bne_of hy
      go_enter Try.func49, Try.ntmps49
      go_wp2
      go_loop [8] (fun i => ∃ k : Nat, k ≤ 1 ∧ i = .int .i64 k) (fun i => 2 - (intOf i).toNat)
      case atStart => exact ⟨0, by omega, rfl⟩
      case round =>
        obtain ⟨k, hk, rfl⟩ := hrel
        have hk3 : k = 0 ∨ k = 1 := by omega
        rcases hk3 with rfl | rfl
        · go_wp2
          go_round
          case rel => exact ⟨1, by omega, rfl⟩
          case measure => simp [intOf]
        · go_wp2
          go_ret
          exact Gives.refl (by simp [orF, hx])
  · have hx' := bne_of hx
    go_enter Try.func49, Try.ntmps49
    go_wp2
    go_loop [8] (fun i => i = .int .i64 0) (fun i => 2 - (intOf i).toNat)
    case atStart => rfl
    case round =>
      subst hrel
      go_wp2
      go_ret
      exact Gives.refl (by simp [orF, hx])
def agF (a b c d : Int) : Int := orF (cmpF a c) (cmpF b d)
set_option maxHeartbeats 1000000 in
theorem Against_any (a b c d : Int) (w : World) :
    Calls Try.prog 41 #[.agg #[.int .u64 a, .int .u64 b], .agg #[.int .u64 c, .int .u64 d]] w (Gives (.int .i64 (agF a b c d)) w) := by
  go_enter Try.func41, Try.ntmps41
  go_wp2_with fail
  go_region_held3 (fun w' => w'.cell? ⟨w.heap.size, 0, none⟩ = some (.int .u64 a) ∧ w'.cell? ⟨w.heap.size, 1, none⟩ = some (.int .u64 b) ∧ w'.cell? ⟨w.heap.size + 1, 0, none⟩ = some (.int .u64 c) ∧ w'.cell? ⟨w.heap.size + 1, 1, none⟩ = some (.int .u64 d)) (simp [go_sem, *]) (first | (go_at_call 50; refine (Cmp_any _ _ _).mono ?_; rintro _ _ ⟨rfl, _, rfl⟩) | (go_at_call 49; refine (Or_two (cmpF a c) (cmpF b d) _ _ _ (by simp [go_sem]) (by simp [go_sem])).mono ?_; rintro _ _ ⟨rfl, _, rfl⟩))
  all_goals go_wp2
  all_goals go_ret
  all_goals
    refine Gives.mk rfl ?_
    (repeat (first | exact Below.refl _ _ | refine RowKit.Below.past ?_ _ | refine RowKit.Below.alloc' ?_ _ | refine RowKit.Below.drew' ?_ | refine RowKit.Below.drewN' ?_ _ | refine RowKit.Below.setCell' ?_ (by simp [go_sem]) _))
theorem sub64_run (x y b : Int) (hx : U64 x) (hy : U64 y) (hb : 0 ≤ b ∧ b ≤ 1) (w : World) : (callFunc 48 #[.int .u64 x, .int .u64 y, .int .u64 b]).run Try.prog w =
    .ok (.value (.tuple #[.int .u64 (difF x y b), .int .u64 (borF x y b)])) w := by
  obtain ⟨x, rfl⟩ := Int.eq_ofNat_of_zero_le hx.1
  obtain ⟨y, rfl⟩ := Int.eq_ofNat_of_zero_le hy.1
  obtain ⟨b, rfl⟩ := Int.eq_ofNat_of_zero_le hb.1
  have hy2 := hy.2
  have e1 : (((x + 18446744073709551616 - y - b) % 18446744073709551616 : Nat) : Int) = difF x y b := by unfold difF top64; omega
  have e2 : ((if x < y + b then 1 else 0 : Nat) : Int) = borF x y b := by unfold borF; split <;> split <;> omega
  rw [run_callFunc_extern Try.func48 (by kernel_rfl) (by kernel_rfl) (by kernel_rfl) (e := sub64Entry) (by kernel_rfl), run_sub64 x y b (by omega), ← e1, ← e2]
  rfl
set_option maxHeartbeats 400000 in
theorem Times_any (a b : Int) (ha : U64 a) (hb : U64 b) (w : World) :
    Calls Try.prog 39 #[.int .u64 a, .int .u64 b] w (Gives (.agg #[.int .u64 (hiF a b), .int .u64 (loF a b)]) w) := by
  have Ha := hid ha
  have Hb := hid hb
  clear ha hb
  go_enter Try.func39, Try.ntmps39
  go_wp2_with ((go_at_call 47; refine (Mul64_any _ _ Ha.out Hb.out _).mono ?_; rintro _ _ ⟨rfl, _, rfl⟩))
  refine bodyPost_ret (v := .agg #[.int .u64 (hiF a b), .int .u64 (loF a b)]) ?_ rfl ?_
  · simp [results, Try.results39, go_sem]
  · refine Gives.mk (rfl) ?_
    (repeat (first | exact Below.refl _ _ | refine RowKit.Below.past ?_ _ | refine RowKit.Below.alloc' ?_ _ | refine RowKit.Below.drew' ?_ | refine RowKit.Below.drewN' ?_ _ | refine RowKit.Below.setCell' ?_ (by simp [go_sem]) _))
/-- The greater one less the other one, in two words. -/
def apH (a b c d : Int) : Int := if decide (agF a b c d < 0) then difF c a (borF d b 0) else difF a c (borF b d 0)
def apL (a b c d : Int) : Int := if decide (agF a b c d < 0) then difF d b 0 else difF b d 0
theorem bor_le (a b c : Int) : 0 ≤ borF a b c ∧ borF a b c ≤ 1 := by unfold borF; split <;> omega
set_option maxHeartbeats 1000000 in
theorem Apart_any (a b c d : Int) (ha : U64 a) (hb : U64 b) (hc : U64 c) (hd : U64 d) (w : World) :
    Calls Try.prog 40 #[.agg #[.int .u64 a, .int .u64 b], .agg #[.int .u64 c, .int .u64 d]] w (Gives (.agg #[.int .u64 (apH a b c d), .int .u64 (apL a b c d)]) w) := by
  rcases dec_cases (agF a b c d < 0) with h | h
  · have s1 := fun w => sub64_run d b 0 hd hb ⟨by omega, by omega⟩ w
    have s2 := fun w => sub64_run c a (borF d b 0) hc ha (bor_le _ _ _) w
    clear ha hb hc hd
    go_enter Try.func40, Try.ntmps40
    go_wp2_with ((go_at_call 41; refine (Against_any _ _ _ _ _).mono ?_; rintro _ _ ⟨rfl, _, rfl⟩))
    refine bodyPost_ret (v := .agg #[.int .u64 (apH a b c d), .int .u64 (apL a b c d)]) ?_ rfl ?_
    · simp [results, Try.results40, go_sem]; simp [apH, apL, h]
    · refine Gives.mk (rfl) ?_
      (repeat (first | exact Below.refl _ _ | refine RowKit.Below.past ?_ _ | refine RowKit.Below.alloc' ?_ _ | refine RowKit.Below.drew' ?_ | refine RowKit.Below.drewN' ?_ _ | refine RowKit.Below.setCell' ?_ (by simp [go_sem]) _))
  · have s1 := fun w => sub64_run b d 0 hb hd ⟨by omega, by omega⟩ w
    have s2 := fun w => sub64_run a c (borF b d 0) ha hc (bor_le _ _ _) w
    clear ha hb hc hd
    go_enter Try.func40, Try.ntmps40
    go_wp2_with ((go_at_call 41; refine (Against_any _ _ _ _ _).mono ?_; rintro _ _ ⟨rfl, _, rfl⟩))
    refine bodyPost_ret (v := .agg #[.int .u64 (apH a b c d), .int .u64 (apL a b c d)]) ?_ rfl ?_
    · simp [results, Try.results40, go_sem]; simp [apH, apL, h]
    · refine Gives.mk (rfl) ?_
      (repeat (first | exact Below.refl _ _ | refine RowKit.Below.past ?_ _ | refine RowKit.Below.alloc' ?_ _ | refine RowKit.Below.drew' ?_ | refine RowKit.Below.drewN' ?_ _ | refine RowKit.Below.setCell' ?_ (by simp [go_sem]) _))
end Go.Proofs.Ytjhjkchcjpijaaa
