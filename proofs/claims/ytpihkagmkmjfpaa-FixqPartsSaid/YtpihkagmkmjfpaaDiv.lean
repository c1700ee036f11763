/-
  The walk over math/bits.Div64 and Rem64: plain division of two words by one. No condition but that the quotient fits.
-/
import Derived.Test.YtpihkagmkmjfpaaFixq
import Derived.Test.YtpihkagmkmjfpaaDivMath
import Derived.Test.YtpihkagmkmjfpaaShelf
namespace Go.Proofs.Ytpihkagmkmjfpaa
open Go.RowKit Go.DivMath
theorem bitLenAux_spec : ∀ (f x : Nat), x < 2 ^ f → x < 2 ^ Lib.bitLenAux f x ∧ Lib.bitLenAux f x ≤ f ∧ (x ≠ 0 → 0 < Lib.bitLenAux f x ∧ 2 ^ (Lib.bitLenAux f x - 1) ≤ x) := by
  intro f
  induction f with
  | zero => intro x hx; simp at hx; subst hx; simp [Lib.bitLenAux]
  | succ f ih =>
    intro x hx
    unfold Lib.bitLenAux
    by_cases h : x = 0
    · subst h; simp
    · rw [if_neg h]
      obtain ⟨h1, h2, h3⟩ := ih (x / 2) (by rw [Nat.pow_succ] at hx; omega)
      refine ⟨by rw [Nat.add_comm, Nat.pow_succ]; omega, by omega, fun _ => ⟨by omega, ?_⟩⟩
      by_cases h4 : x / 2 = 0
      · have : x = 1 := by omega
        subst this
        have : Lib.bitLenAux f (1 / 2) = 0 := by cases f <;> simp [Lib.bitLenAux]
        rw [this]; simp
      · obtain ⟨h5, h6⟩ := h3 h4
        obtain ⟨k, hk⟩ : ∃ k, Lib.bitLenAux f (x / 2) = k + 1 := ⟨_, (Nat.succ_pred_eq_of_pos h5).symm⟩
        rw [hk] at h6 ⊢
        have : 1 + (k + 1) - 1 = k + 1 := by omega
        rw [this, Nat.pow_succ]
        simp at h6
        omega
def lzF (y : Int) : Nat := 64 - Lib.bitLen y.toNat
theorem lz_spec (y : Int) (h0 : 0 < y) (h1 : U64 y) : lzF y ≤ 63 ∧ 9223372036854775808 ≤ y * 2 ^ lzF y ∧ y * 2 ^ lzF y < 18446744073709551616 ∧ (64 - (Lib.bitLen y.toNat : Int)) = (lzF y : Int) := by
  obtain ⟨n, rfl⟩ := Int.eq_ofNat_of_zero_le h1.1
  have hn : n < 2 ^ 64 := by have := h1.2; omega
  obtain ⟨a, b, c⟩ := bitLenAux_spec 64 n hn
  obtain ⟨d, e⟩ := c (by omega)
  unfold lzF Lib.bitLen
  simp only [Int.toNat_natCast]
  generalize Lib.bitLenAux 64 n = k at *
  have e1 : (2 : Nat) ^ k * 2 ^ (64 - k) = 2 ^ 64 := by rw [← Nat.pow_add]; congr 1; omega
  have e2 : (2 : Nat) ^ (k - 1) * 2 ^ (64 - k) = 2 ^ 63 := by rw [← Nat.pow_add]; congr 1; omega
  have f1 := Nat.mul_lt_mul_of_pos_right a (Nat.two_pow_pos (64 - k))
  have f2 := Nat.mul_le_mul_right (2 ^ (64 - k)) e
  rw [e1] at f1
  rw [e2] at f2
  have hc : ((n : Int) * 2 ^ (64 - k)) = ((n * 2 ^ (64 - k) : Nat) : Int) := by simp
  rw [hc]
  refine ⟨by omega, by omega, by omega, by omega⟩
theorem Lz_any (y : Int) (h0 : 0 < y) (h : U64 y) (w : World) :
    Calls Try.prog 42 #[.int .u64 y] w (Gives (.int .i64 (lzF y : Int)) w) := by
  rw [← (lz_spec y h0 h).2.2.2]
  refine (Try.bits_LeadingZeros64 y w h.1 (by have := h.2; omega)).mono ?_
  rintro _ _ ⟨rfl, rfl⟩
  exact Gives.refl rfl
def quoF (hi lo y : Int) : Int := (hi * 18446744073709551616 + lo) / y
def remF (hi lo y : Int) : Int := (hi * 18446744073709551616 + lo) % y
set_option maxHeartbeats 400000 in
theorem Div64_low (lo y : Int) (hl : U64 lo) (hy : U64 y) (h0 : 0 < y) (w : World) :
    Calls Try.prog 34 #[.int .u64 0, .int .u64 lo, .int .u64 y] w (Gives (.tuple #[.int .u64 (quoF 0 lo y), .int .u64 (remF 0 lo y)]) w) := by
  have e1 : (y == 0) = false := by simp; omega
  have e2 : ¬ y ≤ 0 := by omega
  have e3 : 1 ≤ y := by omega
  have hl0 := hl.1
  have q1 : IntKind.u64.wrap (lo.tdiv y) = lo / y := by
    rw [Int.tdiv_eq_ediv_of_nonneg hl0, IntKind.wrap_u64]
    have a := Int.ediv_nonneg hl0 (show 0 ≤ y by omega)
    have b := Int.ediv_le_self y hl0
    have c := hl.2
    omega
  have H := hid (show quoF 0 lo y = lo / y ∧ remF 0 lo y = lo % y by simp [quoF, remF])
  clear hl hy
  go_enter Try.func34, Try.ntmps34
  go_wp2_with fail
  refine wp_region_past (by kernel_rfl) (by kernel_rfl) ?_
  repeat (go_big_quiet_step ((fail)))
  refine wpQuiet_nil ?_
  rintro _ ⟨_, rfl⟩
  go_wp2
  go_ret2
  refine Gives.mk ?_ ?_
  · rw [H.out.1, H.out.2]
    show Value.tuple #[.int .u64 _, .int .u64 _] = _
    simp only [q1]
  · (repeat (first | exact Below.refl _ _ | refine RowKit.Below.past ?_ _ | refine RowKit.Below.alloc' ?_ _ | refine RowKit.Below.drew' ?_ | refine RowKit.Below.drewN' ?_ _ | refine RowKit.Below.setCell' ?_ (by simp [go_sem]) _))
theorem wrap_id {x : Int} (h0 : 0 ≤ x) (h1 : x < 18446744073709551616) : IntKind.u64.wrap x = x := by rw [IntKind.wrap_u64]; omega
/-- What holds at the head of a digit's loop. -/
structure KI (u d y1 y0 q r : Int) : Prop where
  e : u = q * y1 + r
  r0 : 0 ≤ r
  r1 : r < 4294967296
  q0 : kQ u d y1 y0 ≤ q
  q1 : q < 18446744073709551616
  y : y1 < 4294967296
  g : Dig u d y1 y0
theorem KI.start {u d y1 y0 : Int} (g : Dig u d y1 y0) (hy : y1 < 4294967296) (hu : u < 18446744073709551616) : KI u d y1 y0 (u / y1) (u - u / y1 * y1) := by
  have a := Int.ediv_mul_le u (show y1 ≠ 0 by have := g.a0; omega)
  have b := Int.lt_ediv_add_one_mul_self u g.a0
  have c := Int.ediv_le_self y1 g.u0
  rw [Int.add_mul, Int.one_mul] at b
  exact ⟨by omega, by omega, by omega, k_init g, by omega, hy, g⟩
theorem KI.nonneg {u d y1 y0 q r : Int} (h : KI u d y1 y0 q r) : 0 ≤ q := by have := (kQ_spec h.g).1; have := h.q0; omega
/-- The ways of a round: on; out by the break; out by the test. -/
theorem KI.ways {u d y1 y0 q r : Int} (h : KI u d y1 y0 q r) :
    ((4294967296 ≤ q ∨ (q < 4294967296 ∧ 4294967296 * r + d < q * y0)) ∧ r + y1 < 4294967296 ∧ KI u d y1 y0 (q - 1) (r + y1) ∧ 1 ≤ q) ∨
    ((4294967296 ≤ q ∨ (q < 4294967296 ∧ 4294967296 * r + d < q * y0)) ∧ 4294967296 ≤ r + y1 ∧ q - 1 = kQ u d y1 y0 ∧ 1 ≤ q) ∨
    (q < 4294967296 ∧ q * y0 ≤ 4294967296 * r + d ∧ q = kQ u d y1 y0) := by
  obtain ⟨h0, h1, h2, h3⟩ := kQ_spec h.g
  obtain ⟨e, r0, r1, q0, q1, hy, g⟩ := h
  have hx : u = (q - 1) * y1 + (r + y1) := by rw [Int.sub_mul, Int.one_mul]; omega
  have ha := g.a0
  by_cases hc : 4294967296 ≤ q ∨ (q < 4294967296 ∧ 4294967296 * r + d < q * y0)
  · have hd := k_yes g e q0 (by omega)
    by_cases hb : r + y1 < 4294967296
    · exact .inl ⟨hc, hb, ⟨hx, by omega, hb, hd, by omega, hy, g⟩, by omega⟩
    · exact .inr (.inl ⟨hc, by omega, k_break g hx hd (by omega), by omega⟩)
  · refine .inr (.inr ⟨by omega, by omega, k_no g e q0 (by omega)⟩)
theorem KI.words {u d y1 y0 q r : Int} (h : KI u d y1 y0 q r) : IntKind.u64.wrap (4294967296 * r) = 4294967296 * r ∧ IntKind.u64.wrap (4294967296 * r + d) = 4294967296 * r + d ∧
    (1 ≤ q → IntKind.u64.wrap (q - 1) = q - 1) ∧ IntKind.u64.wrap (r + y1) = r + y1 ∧ (q < 4294967296 → IntKind.u64.wrap (q * y0) = q * y0) := by
  have hq := h.nonneg
  obtain ⟨e, r0, r1, q0, q1, hy, g⟩ := h
  obtain ⟨u0, u1, d0, d1, a0, b0, b1⟩ := g
  refine ⟨wrap_id (by omega) (by omega), wrap_id (by omega) (by omega), fun h => wrap_id (by omega) (by omega), wrap_id (by omega) (by omega), fun h => ?_⟩
  obtain ⟨c0, c1⟩ := k_fit h b0 b1 hq
  exact wrap_id c0 c1
set_option maxHeartbeats 2000000 in
theorem Div64_core (hi lo y yy y1 y0 u t d1 d0 qa ra Q1 R1 qb rb Q0 R0 K M : Int) (w : World)
    (e1 : (y == 0) = false) (e2 : ¬ y ≤ hi) (e3 : (hi == 0) = false) (hs0 : (0 : Int) ≤ (lzF y : Int)) (hs1 : ((lzF y : Nat) : Int) ≤ 63) (Hy : Hid (U64 y)) (Hy0 : Hid (0 < y))
    (f1 : IntKind.u64.wrap (y * 2 ^ lzF y) = yy) (f2 : yy / 4294967296 = y1) (f3 : bits BinOp.and IntKind.u64 yy 4294967295 = y0)
    (f4 : bits BinOp.or IntKind.u64 (IntKind.u64.wrap (hi * 2 ^ lzF y)) (lo / 2 ^ (64 - lzF y)) = u) (f5 : IntKind.u64.wrap (lo * 2 ^ lzF y) = t)
    (f6 : t / 4294967296 = d1) (f7 : bits BinOp.and IntKind.u64 t 4294967295 = d0) (f8 : IntKind.u64.wrap (u.tdiv y1) = qa) (f9 : IntKind.u64.wrap (u - IntKind.u64.wrap (qa * y1)) = ra)
    (f10 : IntKind.u64.wrap (IntKind.u64.wrap (IntKind.u64.wrap (u * 4294967296) + d1) - IntKind.u64.wrap (Q1 * yy)) = R1)
    (f11 : IntKind.u64.wrap (R1.tdiv y1) = qb) (f12 : IntKind.u64.wrap (R1 - IntKind.u64.wrap (qb * y1)) = rb)
    (f13 : IntKind.u64.wrap (IntKind.u64.wrap (IntKind.u64.wrap (R1 * 4294967296) + d0) - IntKind.u64.wrap (Q0 * yy)) = R0)
    (f14 : IntKind.u64.wrap Q1 = Q1) (f15 : IntKind.u64.wrap Q0 = Q0) (f16 : IntKind.u64.wrap (Q1 * 4294967296) = Q1 * 4294967296) (f17 : IntKind.u64.wrap (Q1 * 4294967296 + Q0) = K) (f18 : R0 / 2 ^ lzF y = M) (hy1 : ¬ y1 = 0) (g1 : Hid (KI u d1 y1 y0 qa ra)) (g0 : Hid (KI R1 d0 y1 y0 qb rb)) (k1 : Hid (Q1 = kQ u d1 y1 y0)) (k0 : Hid (Q0 = kQ R1 d0 y1 y0)) :
    Calls Try.prog 34 #[.int .u64 hi, .int .u64 lo, .int .u64 y] w (Gives (.tuple #[.int .u64 K, .int .u64 M]) w) := by
  go_enter Try.func34, Try.ntmps34
  go_wp2_with ((go_at_call 42; refine (Lz_any _ Hy0.out Hy.out _).mono ?_; rintro _ _ ⟨rfl, _, rfl⟩))
  go_loop [15, 16] (fun q r => ∃ q' r' : Int, q = .int .u64 q' ∧ r = .int .u64 r' ∧ Hid (KI u d1 y1 y0 q' r')) (fun q _ => (intOf q).toNat)
  case atStart => exact ⟨_, _, rfl, rfl, g1⟩
  case round =>
    obtain ⟨q, r, rfl, rfl, g⟩ := hrel
    obtain ⟨v1, v2, v3, v4, v5⟩ := g.out.words
    have hqn := g.out.nonneg
    rcases g.out.ways with ⟨hc, hb, g', h1⟩ | ⟨hc, hb, hQ, h1⟩ | ⟨hc, hd, hQ⟩
    · have v3 := v3 h1
      have G' := hid g'
      clear g'
      rcases hc with hc | ⟨hc, hd⟩
      · clear v5
        go_wp2
        go_round
        case rel => exact ⟨_, _, rfl, rfl, G'⟩
        case measure => simp [intOf]; omega
      · have v5 := v5 hc
        go_wp2
        go_round
        case rel => exact ⟨_, _, rfl, rfl, G'⟩
        case measure => simp [intOf]; omega
    · obtain rfl : q = Q1 + 1 := by have := k1.out; omega
      clear hQ v3
      rcases hc with hc | ⟨hc, hd⟩
      · clear v5
        go_wp2
        clear v1 v2 v4 hqn g
        go_loop [18, 16] (fun q r => ∃ q' r' : Int, q = .int .u64 q' ∧ r = .int .u64 r' ∧ Hid (KI R1 d0 y1 y0 q' r')) (fun q _ => (intOf q).toNat)
        case atStart => exact ⟨_, _, rfl, rfl, g0⟩
        case round =>
          obtain ⟨q, r, rfl, rfl, g⟩ := hrel
          obtain ⟨v1, v2, v3, v4, v5⟩ := g.out.words
          have hqn := g.out.nonneg
          rcases g.out.ways with ⟨hc, hb, g', h1⟩ | ⟨hc, hb, hQ, h1⟩ | ⟨hc, hd, hQ⟩
          · have v3 := v3 h1
            have G' := hid g'
            clear g'
            rcases hc with hc | ⟨hc, hd⟩
            · clear v5
              go_wp2
              go_round
              case rel => exact ⟨_, _, rfl, rfl, G'⟩
              case measure => simp [intOf]; omega
            · have v5 := v5 hc
              go_wp2
              go_round
              case rel => exact ⟨_, _, rfl, rfl, G'⟩
              case measure => simp [intOf]; omega
          · obtain rfl : q = Q0 + 1 := by have := k0.out; omega
            clear hQ
            rcases hc with hc | ⟨hc, hd⟩
            · clear v5
              go_wp2
              go_ret2
              refine Gives.mk rfl ?_
              (repeat (first | exact Below.refl _ _ | refine RowKit.Below.past ?_ _ | refine RowKit.Below.alloc' ?_ _ | refine RowKit.Below.drew' ?_ | refine RowKit.Below.drewN' ?_ _ | refine RowKit.Below.setCell' ?_ (by simp [go_sem]) _))
            · have v5 := v5 hc
              go_wp2
              go_ret2
              refine Gives.mk rfl ?_
              (repeat (first | exact Below.refl _ _ | refine RowKit.Below.past ?_ _ | refine RowKit.Below.alloc' ?_ _ | refine RowKit.Below.drew' ?_ | refine RowKit.Below.drewN' ?_ _ | refine RowKit.Below.setCell' ?_ (by simp [go_sem]) _))
          · have hd' : decide (4294967296 * r + d0 < q * y0) = false := by simpa using hd
            have v5 := v5 hc
            obtain rfl : q = Q0 := hQ.trans k0.out.symm
            clear hQ v3
            go_wp2
            go_ret2
            refine Gives.mk rfl ?_
            (repeat (first | exact Below.refl _ _ | refine RowKit.Below.past ?_ _ | refine RowKit.Below.alloc' ?_ _ | refine RowKit.Below.drew' ?_ | refine RowKit.Below.drewN' ?_ _ | refine RowKit.Below.setCell' ?_ (by simp [go_sem]) _))
      · have v5 := v5 hc
        go_wp2
        clear v1 v2 v4 v5 hqn g
        go_loop [18, 16] (fun q r => ∃ q' r' : Int, q = .int .u64 q' ∧ r = .int .u64 r' ∧ Hid (KI R1 d0 y1 y0 q' r')) (fun q _ => (intOf q).toNat)
        case atStart => exact ⟨_, _, rfl, rfl, g0⟩
        case round =>
          obtain ⟨q, r, rfl, rfl, g⟩ := hrel
          obtain ⟨v1, v2, v3, v4, v5⟩ := g.out.words
          have hqn := g.out.nonneg
          rcases g.out.ways with ⟨hc, hb, g', h1⟩ | ⟨hc, hb, hQ, h1⟩ | ⟨hc, hd, hQ⟩
          · have v3 := v3 h1
            have G' := hid g'
            clear g'
            rcases hc with hc | ⟨hc, hd⟩
            · clear v5
              go_wp2
              go_round
              case rel => exact ⟨_, _, rfl, rfl, G'⟩
              case measure => simp [intOf]; omega
            · have v5 := v5 hc
              go_wp2
              go_round
              case rel => exact ⟨_, _, rfl, rfl, G'⟩
              case measure => simp [intOf]; omega
          · obtain rfl : q = Q0 + 1 := by have := k0.out; omega
            clear hQ
            rcases hc with hc | ⟨hc, hd⟩
            · clear v5
              go_wp2
              go_ret2
              refine Gives.mk rfl ?_
              (repeat (first | exact Below.refl _ _ | refine RowKit.Below.past ?_ _ | refine RowKit.Below.alloc' ?_ _ | refine RowKit.Below.drew' ?_ | refine RowKit.Below.drewN' ?_ _ | refine RowKit.Below.setCell' ?_ (by simp [go_sem]) _))
            · have v5 := v5 hc
              go_wp2
              go_ret2
              refine Gives.mk rfl ?_
              (repeat (first | exact Below.refl _ _ | refine RowKit.Below.past ?_ _ | refine RowKit.Below.alloc' ?_ _ | refine RowKit.Below.drew' ?_ | refine RowKit.Below.drewN' ?_ _ | refine RowKit.Below.setCell' ?_ (by simp [go_sem]) _))
          · have hd' : decide (4294967296 * r + d0 < q * y0) = false := by simpa using hd
            have v5 := v5 hc
            obtain rfl : q = Q0 := hQ.trans k0.out.symm
            clear hQ v3
            go_wp2
            go_ret2
            refine Gives.mk rfl ?_
            (repeat (first | exact Below.refl _ _ | refine RowKit.Below.past ?_ _ | refine RowKit.Below.alloc' ?_ _ | refine RowKit.Below.drew' ?_ | refine RowKit.Below.drewN' ?_ _ | refine RowKit.Below.setCell' ?_ (by simp [go_sem]) _))
    · have hd' : decide (4294967296 * r + d1 < q * y0) = false := by simpa using hd
      have v5 := v5 hc
      obtain rfl : q = Q1 := hQ.trans k1.out.symm
      clear hQ v3
      go_wp2
      clear v1 v2 v4 v5 hqn g
      go_loop [18, 16] (fun q r => ∃ q' r' : Int, q = .int .u64 q' ∧ r = .int .u64 r' ∧ Hid (KI R1 d0 y1 y0 q' r')) (fun q _ => (intOf q).toNat)
      case atStart => exact ⟨_, _, rfl, rfl, g0⟩
      case round =>
        obtain ⟨q, r, rfl, rfl, g⟩ := hrel
        obtain ⟨v1, v2, v3, v4, v5⟩ := g.out.words
        have hqn := g.out.nonneg
        rcases g.out.ways with ⟨hc, hb, g', h1⟩ | ⟨hc, hb, hQ, h1⟩ | ⟨hc, hd, hQ⟩
        · have v3 := v3 h1
          have G' := hid g'
          clear g'
          rcases hc with hc | ⟨hc, hd⟩
          · clear v5
            go_wp2
            go_round
            case rel => exact ⟨_, _, rfl, rfl, G'⟩
            case measure => simp [intOf]; omega
          · have v5 := v5 hc
            go_wp2
            go_round
            case rel => exact ⟨_, _, rfl, rfl, G'⟩
            case measure => simp [intOf]; omega
        · obtain rfl : q = Q0 + 1 := by have := k0.out; omega
          clear hQ
          rcases hc with hc | ⟨hc, hd⟩
          · clear v5
            go_wp2
            go_ret2
            refine Gives.mk rfl ?_
            (repeat (first | exact Below.refl _ _ | refine RowKit.Below.past ?_ _ | refine RowKit.Below.alloc' ?_ _ | refine RowKit.Below.drew' ?_ | refine RowKit.Below.drewN' ?_ _ | refine RowKit.Below.setCell' ?_ (by simp [go_sem]) _))
          · have v5 := v5 hc
            go_wp2
            go_ret2
            refine Gives.mk rfl ?_
            (repeat (first | exact Below.refl _ _ | refine RowKit.Below.past ?_ _ | refine RowKit.Below.alloc' ?_ _ | refine RowKit.Below.drew' ?_ | refine RowKit.Below.drewN' ?_ _ | refine RowKit.Below.setCell' ?_ (by simp [go_sem]) _))
        · have hd' : decide (4294967296 * r + d0 < q * y0) = false := by simpa using hd
          have v5 := v5 hc
          obtain rfl : q = Q0 := hQ.trans k0.out.symm
          clear hQ v3
          go_wp2
          go_ret2
          refine Gives.mk rfl ?_
          (repeat (first | exact Below.refl _ _ | refine RowKit.Below.past ?_ _ | refine RowKit.Below.alloc' ?_ _ | refine RowKit.Below.drew' ?_ | refine RowKit.Below.drewN' ?_ _ | refine RowKit.Below.setCell' ?_ (by simp [go_sem]) _))
end Go.Proofs.Ytpihkagmkmjfpaa
