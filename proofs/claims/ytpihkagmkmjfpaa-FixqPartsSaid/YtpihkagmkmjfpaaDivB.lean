/-
  math/bits.Div64 and Rem64: plain division of two words by one. No condition but that the quotient fits.
-/
import Derived.Test.YtpihkagmkmjfpaaDiv
namespace Go.Proofs.Ytpihkagmkmjfpaa
open Go.RowKit Go.DivMath
theorem or_shift (h l s : Nat) (hs : s ≤ 63) (h1 : h * 2 ^ s < 18446744073709551616) (h2 : l < 18446744073709551616) :
    bits BinOp.or IntKind.u64 (IntKind.u64.wrap ((h : Int) * 2 ^ s)) ((l : Int) / 2 ^ (64 - s)) = (h : Int) * 2 ^ s + (l : Int) / 2 ^ (64 - s) := by
  have e1 : ((h : Int) * 2 ^ s) = ((h * 2 ^ s : Nat) : Int) := by simp
  have e2 : ((l : Int) / 2 ^ (64 - s)) = ((l / 2 ^ (64 - s) : Nat) : Int) := by simp
  have e3 : (2 : Nat) ^ s * 2 ^ (64 - s) = 18446744073709551616 := by rw [← Nat.pow_add, show s + (64 - s) = 64 by omega]
  have e4 : l / 2 ^ (64 - s) < 2 ^ s := by rw [Nat.div_lt_iff_lt_mul (Nat.two_pow_pos _), e3]; exact h2
  have e5 : (2 : Nat) ^ s ≤ 2 ^ 63 := Nat.pow_le_pow_right (by omega) hs
  rw [e1, e2, wrapN _ h1, u64_or_nat _ _ h1 (by omega), Nat.mul_comm h, ← Nat.two_pow_add_eq_or_of_lt e4]
  simp
theorem pow_split (s : Nat) (hs : s ≤ 63) : (2 : Int) ^ (64 - s) * 2 ^ s = 18446744073709551616 := by
  rw [← Int.pow_add, show 64 - s + s = 64 by omega]; rfl
theorem mask_int (x : Int) (h : U64 x) : bits BinOp.and IntKind.u64 x 4294967295 = x % 4294967296 := by
  obtain ⟨n, rfl⟩ := Int.eq_ofNat_of_zero_le h.1
  rw [mul64_mask n (by have := h.2; omega)]
  simp
set_option maxHeartbeats 1000000 in
theorem Div64_high (hi lo y : Int) (hh : U64 hi) (hl : U64 lo) (hy : U64 y) (h0 : 0 < hi) (h1 : hi < y) (w : World) :
    Calls Try.prog 34 #[.int .u64 hi, .int .u64 lo, .int .u64 y] w (Gives (.tuple #[.int .u64 (quoF hi lo y), .int .u64 (remF hi lo y)]) w) := by
  have Hy := hid hy
  have Hy0 := hid (show 0 < y by omega)
  obtain ⟨l1, l2, l3, _⟩ := lz_spec y (by omega) hy
  obtain ⟨s, hs⟩ : ∃ s, lzF y = s := ⟨_, rfl⟩
  have e1 : (y == 0) = false := by simp; omega
  have e3 : (hi == 0) = false := by simp; omega
  rw [hs] at l1 l2 l3
  have hpq := pow_split s l1
  have hp : (0 : Int) < 2 ^ s := Int.pow_pos (by omega)
  have hq : (0 : Int) < 2 ^ (64 - s) := Int.pow_pos (by omega)
  have hor : bits BinOp.or IntKind.u64 (IntKind.u64.wrap (hi * 2 ^ s)) (lo / 2 ^ (64 - s)) = hi * 2 ^ s + lo / 2 ^ (64 - s) := by
    obtain ⟨h, rfl⟩ := Int.eq_ofNat_of_zero_le hh.1
    obtain ⟨l, rfl⟩ := Int.eq_ofNat_of_zero_le hl.1
    obtain ⟨z, rfl⟩ := Int.eq_ofNat_of_zero_le hy.1
    have a : ((z : Int) * 2 ^ s) = ((z * 2 ^ s : Nat) : Int) := by simp
    have b : h * 2 ^ s ≤ z * 2 ^ s := Nat.mul_le_mul_right _ (by omega)
    exact or_shift h l s l1 (by omega) (by have := hl.2; omega)
  have hlo : lo * 2 ^ s / 18446744073709551616 = lo / 2 ^ (64 - s) := by
    rw [← hpq]
    exact Int.mul_ediv_mul_of_pos_left _ _ hp
  have hlo2 := Int.mul_ediv_add_emod (lo * 2 ^ s) 18446744073709551616
  rw [hlo] at hlo2
  have hlq : lo / 2 ^ (64 - s) < 2 ^ s := Int.ediv_lt_of_lt_mul hq (by rw [Int.mul_comm, hpq]; exact hl.2)
  have hlq0 : 0 ≤ lo / 2 ^ (64 - s) := Int.ediv_nonneg hl.1 (by omega)
  have hu2 : (hi + 1) * 2 ^ s ≤ y * 2 ^ s := Int.mul_le_mul_of_nonneg_right (by omega) (by omega)
  rw [Int.add_mul, Int.one_mul] at hu2
  have hu3 : 0 ≤ hi * 2 ^ s := Int.mul_nonneg hh.1 (by omega)
  have hN : (hi * 18446744073709551616 + lo) * 2 ^ s = hi * 2 ^ s * 18446744073709551616 + lo * 2 ^ s := by rw [Int.add_mul, Int.mul_right_comm]
  have hy0 : 0 < y := by omega
  have hc := Div64_core hi lo y
  rw [hs] at hc
  clear hlo hpq
  obtain ⟨p, hpe⟩ : ∃ p : Int, (2 : Int) ^ s = p := ⟨_, rfl⟩
  obtain ⟨q, hqe⟩ : ∃ q : Int, (2 : Int) ^ (64 - s) = q := ⟨_, rfl⟩
  rw [hpe] at hor hlo2 hlq hu2 hu3 hN l2 l3 hp hc
  rw [hqe] at hor hlo2 hlq hlq0 hq hc
  clear hpe hqe
  obtain ⟨yy, hyy⟩ : ∃ x, x = y * p := ⟨_, rfl⟩
  obtain ⟨u, hu⟩ : ∃ x, x = hi * p + lo / q := ⟨_, rfl⟩
  obtain ⟨t, ht⟩ : ∃ x, x = lo * p % 18446744073709551616 := ⟨_, rfl⟩
  rw [← hyy] at l2 l3 hu2
  have t0 : 0 ≤ t ∧ t < 18446744073709551616 := by omega
  rw [← ht] at hlo2
  have D1 : Dig u (t / 4294967296) (yy / 4294967296) (yy % 4294967296) := ⟨by omega, by omega, by omega, by omega, by omega, by omega, by omega⟩
  have r1 := kR_spec D1
  have Q1s := kQ_spec D1
  have hR1 : kR u (t / 4294967296) (yy / 4294967296) (yy % 4294967296) = u * 4294967296 + t / 4294967296 - kQ u (t / 4294967296) (yy / 4294967296) (yy % 4294967296) * yy := by
    unfold kR; rw [show yy / 4294967296 * 4294967296 + yy % 4294967296 = yy by omega]
  have D0 : Dig (kR u (t / 4294967296) (yy / 4294967296) (yy % 4294967296)) (t % 4294967296) (yy / 4294967296) (yy % 4294967296) := ⟨by omega, by omega, by omega, by omega, by omega, by omega, by omega⟩
  have r0 := kR_spec D0
  have Q0s := kQ_spec D0
  have hR0 : kR (kR u (t / 4294967296) (yy / 4294967296) (yy % 4294967296)) (t % 4294967296) (yy / 4294967296) (yy % 4294967296) = kR u (t / 4294967296) (yy / 4294967296) (yy % 4294967296) * 4294967296 + t % 4294967296 - kQ (kR u (t / 4294967296) (yy / 4294967296) (yy % 4294967296)) (t % 4294967296) (yy / 4294967296) (yy % 4294967296) * yy := by
    rw [kR]; rw [show yy / 4294967296 * 4294967296 + yy % 4294967296 = yy by omega]
  have two := two_digits (N := hi * 18446744073709551616 + lo) (y := y) (p := p) hy0 hp (by rw [← hyy]; omega) (by rw [hN]; omega) D1 D0
  have K1 := KI.start D1 (by omega) (by omega)
  have K0 := KI.start D0 (by omega) (by omega)
  have K1e := K1.e; have K1a := K1.r0; have K1b := K1.r1; have K1c := K1.nonneg; have K1d := K1.q1
  have K0e := K0.e; have K0a := K0.r0; have K0b := K0.r1; have K0c := K0.nonneg; have K0d := K0.q1
  have m1 := Int.mul_nonneg K1c (show 0 ≤ yy / 4294967296 by omega)
  have m0 := Int.mul_nonneg K0c (show 0 ≤ yy / 4294967296 by omega)
  have u0 := D1.u0
  have v0 := D0.u0
  generalize hQ0 : kQ (kR u (t / 4294967296) (yy / 4294967296) (yy % 4294967296)) (t % 4294967296) (yy / 4294967296) (yy % 4294967296) = Q0 at *
  generalize hQ1 : kQ u (t / 4294967296) (yy / 4294967296) (yy % 4294967296) = Q1 at *
  generalize hR0' : kR (kR u (t / 4294967296) (yy / 4294967296) (yy % 4294967296)) (t % 4294967296) (yy / 4294967296) (yy % 4294967296) = R0 at *
  generalize hR1' : kR u (t / 4294967296) (yy / 4294967296) (yy % 4294967296) = R1 at *
  refine hc yy (yy / 4294967296) (yy % 4294967296) u t (t / 4294967296) (t % 4294967296) (u / (yy / 4294967296)) (u - u / (yy / 4294967296) * (yy / 4294967296)) Q1 R1
    (R1 / (yy / 4294967296)) (R1 - R1 / (yy / 4294967296) * (yy / 4294967296)) Q0 R0 (quoF hi lo y) (remF hi lo y) w
    e1 (by omega) e3 (by omega) (by omega) Hy Hy0 ?_ rfl (mask_int yy ⟨by omega, by omega⟩) (by rw [hor, hu]) (by rw [IntKind.wrap_u64, ht]) rfl (mask_int t ⟨by omega, by omega⟩) ?_ ?_ ?_ ?_ ?_ ?_ ?_ ?_ ?_ ?_ ?_ (by omega) (hid K1) (hid K0) (hid hQ1.symm) (hid hQ0.symm)
  · rw [← hyy]; exact wrap_id (by omega) (by omega)
  · rw [Int.tdiv_eq_ediv_of_nonneg u0]; exact wrap_id K1c K1d
  · rw [wrap_id (x := u / (yy / 4294967296) * (yy / 4294967296)) (by omega) (by omega)]; exact wrap_id (by omega) (by omega)
  · simp only [IntKind.wrap_u64]; omega
  · rw [Int.tdiv_eq_ediv_of_nonneg v0]; exact wrap_id K0c K0d
  · rw [wrap_id (x := R1 / (yy / 4294967296) * (yy / 4294967296)) (by omega) (by omega)]; exact wrap_id (by omega) (by omega)
  · simp only [IntKind.wrap_u64]; omega
  · exact wrap_id (by omega) (by omega)
  · exact wrap_id (by omega) (by omega)
  · exact wrap_id (by omega) (by omega)
  · rw [wrap_id (by omega) (by omega)]; exact two.1
  · exact two.2
theorem Div64_any (hi lo y : Int) (hh : U64 hi) (hl : U64 lo) (hy : U64 y) (h1 : hi < y) (w : World) :
    Calls Try.prog 34 #[.int .u64 hi, .int .u64 lo, .int .u64 y] w (Gives (.tuple #[.int .u64 (quoF hi lo y), .int .u64 (remF hi lo y)]) w) := by
  by_cases h : hi = 0
  · subst h; exact Div64_low lo y hl hy h1 w
  · exact Div64_high hi lo y hh hl hy (by have := hh.1; omega) h1 w
set_option maxHeartbeats 400000 in
theorem Rem64_any (hi lo y : Int) (hh : U64 hi) (hl : U64 lo) (hy : U64 y) (h0 : 0 < y) (w : World) :
    Calls Try.prog 36 #[.int .u64 hi, .int .u64 lo, .int .u64 y] w (Gives (.int .u64 (remF hi lo y)) w) := by
  have e1 : hi.tmod y = hi % y := Int.tmod_eq_emod_of_nonneg hh.1
  have e2 := hid (show remF (hi % y) lo y = remF hi lo y by
    unfold remF
    rw [Int.add_emod, Int.mul_emod, Int.emod_emod, ← Int.mul_emod, ← Int.add_emod])
  have c := fun w => Div64_any (hi % y) lo y ⟨Int.emod_nonneg _ (by omega), by have := Int.emod_lt_of_pos hi h0; have := hy.2; omega⟩ hl hy (Int.emod_lt_of_pos hi h0) w
  have C := hid c
  have hh0 := hh.1
  have hy0 : ¬ y = 0 := by omega
  clear c hh hl hy
  go_enter Try.func36, Try.ntmps36
  go_wp2_with ((go_at_call 34; refine (C.out _).mono ?_; rintro _ _ ⟨rfl, _, rfl⟩))
  go_ret
  refine Gives.mk ?_ ?_
  · rw [← e2.out]; rfl
  · (repeat (first | exact Below.refl _ _ | refine RowKit.Below.past ?_ _ | refine RowKit.Below.alloc' ?_ _ | refine RowKit.Below.drew' ?_ | refine RowKit.Below.drewN' ?_ _ | refine RowKit.Below.setCell' ?_ (by simp [go_sem]) _))
def mdF (a b c : Int) : Int := if c == 0 then 0 else if decide (c ≤ hiF a b) then 18446744073709551615 else quoF (hiF a b) (loF a b) c
def mdE (a b c : Int) : Int := if c == 0 then 1 else if decide (c ≤ hiF a b) then 2 else 0
def mmF (a b c : Int) : Int := if c == 0 then 0 else remF (hiF a b) (loF a b) c
def mmE (c : Int) : Int := if c == 0 then 1 else 0
set_option maxHeartbeats 400000 in
theorem MulDiv_any (a b c : Int) (ha : U64 a) (hb : U64 b) (hc : U64 c) (w : World) :
    Calls Try.prog 19 #[.int .u64 a, .int .u64 b, .int .u64 c] w (Gives (.tuple #[.int .u64 (mdF a b c), .int .i64 (mdE a b c)]) w) := by
  have Ha := hid ha
  have Hb := hid hb
  have Hc := hid hc
  clear ha hb hc
  rcases beq_cases c 0 with h | h
  · go_enter Try.func19, Try.ntmps19
    go_wp2_with (fail)
    go_ret2
    exact Gives.refl (by simp [mdF, mdE, h])
  · rcases dec_cases (c ≤ hiF a b) with h2 | h2
    · go_enter Try.func19, Try.ntmps19
      go_wp2_with ((go_at_call 33; refine (Mul64_any _ _ Ha.out Hb.out _).mono ?_; rintro _ _ ⟨rfl, _, rfl⟩))
      go_ret2
      refine Gives.mk (by simp [mdF, mdE, h, h2]) ?_
      (repeat (first | exact Below.refl _ _ | refine RowKit.Below.past ?_ _ | refine RowKit.Below.alloc' ?_ _ | refine RowKit.Below.drew' ?_ | refine RowKit.Below.drewN' ?_ _ | refine RowKit.Below.setCell' ?_ (by simp [go_sem]) _))
    · have h3 := hid (show hiF a b < c by simpa using h2)
      go_enter Try.func19, Try.ntmps19
      go_wp2_with (first | (go_at_call 33; refine (Mul64_any _ _ Ha.out Hb.out _).mono ?_; rintro _ _ ⟨rfl, _, rfl⟩) | (go_at_call 34; refine (Div64_any _ _ _ (hi_word Ha.out Hb.out) (lo_word a b) Hc.out h3.out _).mono ?_; rintro _ _ ⟨rfl, _, rfl⟩))
      go_ret2
      refine Gives.mk (by simp [mdF, mdE, h, h2]) ?_
      (repeat (first | exact Below.refl _ _ | refine RowKit.Below.past ?_ _ | refine RowKit.Below.alloc' ?_ _ | refine RowKit.Below.drew' ?_ | refine RowKit.Below.drewN' ?_ _ | refine RowKit.Below.setCell' ?_ (by simp [go_sem]) _))
set_option maxHeartbeats 400000 in
theorem MulMod_any (a b c : Int) (ha : U64 a) (hb : U64 b) (hc : U64 c) (w : World) :
    Calls Try.prog 21 #[.int .u64 a, .int .u64 b, .int .u64 c] w (Gives (.tuple #[.int .u64 (mmF a b c), .int .i64 (mmE c)]) w) := by
  have Ha := hid ha
  have Hb := hid hb
  have Hc := hid hc
  clear ha hb hc
  rcases beq_cases c 0 with h | h
  · go_enter Try.func21, Try.ntmps21
    go_wp2_with (fail)
    go_ret2
    exact Gives.refl (by simp [mmF, mmE, h])
  · have h3 := hid (show 0 < c by have := Hc.out.1; simp at h; omega)
    go_enter Try.func21, Try.ntmps21
    go_wp2_with (first | (go_at_call 33; refine (Mul64_any _ _ Ha.out Hb.out _).mono ?_; rintro _ _ ⟨rfl, _, rfl⟩) | (go_at_call 36; refine (Rem64_any _ _ _ (hi_word Ha.out Hb.out) (lo_word a b) Hc.out h3.out _).mono ?_; rintro _ _ ⟨rfl, _, rfl⟩))
    go_ret2
    refine Gives.mk (by simp [mmF, mmE, h]) ?_
    (repeat (first | exact Below.refl _ _ | refine RowKit.Below.past ?_ _ | refine RowKit.Below.alloc' ?_ _ | refine RowKit.Below.drew' ?_ | refine RowKit.Below.drewN' ?_ _ | refine RowKit.Below.setCell' ?_ (by simp [go_sem]) _))
end Go.Proofs.Ytpihkagmkmjfpaa
