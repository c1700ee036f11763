/-
  The document's answers of layer 1: differences, products, fractions held against each other, shares told to be near. No condition.
-/
import Derived.Test.YtpihkagmkmjfpaaDigC
namespace Go.Proofs.Ytpihkagmkmjfpaa
open Go.RowKit
def bowD (a b : List Int) : Nat → Int
  | 0 => 0
  | i + 1 => 1 - (65536 + atD a i - atD b i - bowD a b i) / 65536
def minX (a b : List Int) (i : Nat) : Int := 65536 + atD a i - atD b i - bowD a b i
def minK (a b : List Int) (k : Nat) : List Int := (List.range k).map fun i => minX a b i % 65536
def minD (a b : List Int) : List Int := minK a b (lonD a b)
theorem bowD_in {a b : List Int} (ha : Digs a) (hb : Digs b) (i : Nat) : 0 ≤ bowD a b i ∧ bowD a b i ≤ 1 := by
  induction i with
  | zero => simp [bowD]
  | succ i ih => have := ha.at i; have := hb.at i; simp only [bowD]; omega
theorem minD_digs (a b : List Int) : Digs (minD a b) := by
  intro x hx
  simp only [minD, minK, List.mem_map] at hx
  obtain ⟨i, _, rfl⟩ := hx
  omega
theorem minK_succ (a b : List Int) (k : Nat) : minK a b (k + 1) = minK a b k ++ [minX a b k % 65536] := by simp [minK, List.range_succ]
theorem minN_val (a b : List Int) : ∀ n, valN (fun i => minX a b i % 65536) n - bowD a b n * 65536 ^ n = valN (atD a) n - valN (atD b) n := by
  intro n
  induction n with
  | zero => simp [valN, bowD]
  | succ n ih =>
    have e : minX a b n % 65536 - bowD a b (n + 1) * 65536 = atD a n - atD b n - bowD a b n := by
      simp only [minX, bowD]; omega
    simp only [valN]
    rw [Int.pow_succ, ← Int.mul_assoc, Int.mul_right_comm (bowD a b (n + 1))]
    have e2 : (minX a b n % 65536 - bowD a b (n + 1) * 65536) * 65536 ^ n = (atD a n - atD b n - bowD a b n) * 65536 ^ n := by rw [e]
    simp only [Int.sub_mul] at e2
    omega
theorem min_val {a b : List Int} (ha : Digs a) (hb : Digs b) (h : val b ≤ val a) : val (minD a b) = val a - val b := by
  have hM : a.length ≤ lonD a b ∧ b.length ≤ lonD a b := by unfold lonD; split <;> omega
  have e := minN_val a b (lonD a b)
  rw [valN_ge a hM.1, valN_ge b hM.2] at e
  have hv : val (minD a b) = valN (fun i => minX a b i % 65536) (lonD a b) := by
    rw [val, show (minD a b).length = lonD a b by simp [minD, minK]]
    exact valN_congr _ (fun i hi => by simp [minD, minK, atD, hi])
  have hlt := valN_lt (minD_digs a b) (lonD a b)
  rw [show valN (atD (minD a b)) (lonD a b) = val (minD a b) from by rw [val, show (minD a b).length = lonD a b by simp [minD, minK]]] at hlt
  rw [← hv] at e
  have hb := bowD_in ha hb (lonD a b)
  have hc : bowD a b (lonD a b) = 0 ∨ bowD a b (lonD a b) = 1 := by omega
  rcases hc with hc | hc
  · rw [hc] at e; omega
  · rw [hc] at e; omega
set_option maxHeartbeats 1000000 in
theorem Minus_any (A B : Option Addr) (ca cb : Nat) (a b : List Int) (w : World) (hla : a.length ≤ 1000000) (hlb : b.length ≤ 1000000) (da : Digs a) (db : Digs b) (ha : Cells w A (u64s a)) (hb : Cells w B (u64s b)) :
    Calls Try.prog 30 #[.slice A a.length ca, .slice B b.length cb] w (GivesOwn 22 1 (minD a b).length (u64s (minD a b)) w) := by
  obtain ⟨i0, hi, hz0, hz1, hz2⟩ := info_parts info_u64
  have hM : lonD a b ≤ 1000000 := by unfold lonD; split <;> omega
  obtain ⟨M, eM⟩ : ∃ M, lonD a b = M := ⟨_, rfl⟩
  rw [eM] at hM
  have EM := hid eM
  clear eM
  go_enter Try.func30, Try.ntmps30
  go_wp2
  go_loopw [5, 6, 7] (fun v c i wr => ∃ (k : Nat) (x : Past), i = .int .i64 k ∧ k ≤ M ∧ wr = w.past x ∧ (w.past x).ownsRow w.heap.size 22 1 v k (u64s (minK a b k)) ∧ c = .int .u64 (bowD a b k)) (fun _ _ i _ => M - (intOf i).toNat)
  case atStart => exact ⟨0, _, rfl, by omega, w.past_refl, World.ownsRow_nil _ _ _ _, rfl⟩
  case round =>
    obtain ⟨k, x, rfl, hk, rfl, hown, rfl⟩ := hrel
    by_cases hlt : k < M
    · obtain ⟨p, q⟩ := da.at k
      obtain ⟨r, s⟩ := db.at k
      obtain ⟨t, u⟩ := bowD_in da db k
      have e1 : IntKind.u64.wrap (65536 + atD a k) = 65536 + atD a k := by rw [IntKind.wrap_u64]; omega
      have e2 : IntKind.u64.wrap (65536 + atD a k - atD b k) = 65536 + atD a k - atD b k := by rw [IntKind.wrap_u64]; omega
      have e3 : IntKind.u64.wrap (65536 + atD a k - atD b k - bowD a b k) = minX a b k := by rw [IntKind.wrap_u64]; unfold minX; omega
      have e4 : 0 ≤ minX a b k := by unfold minX; omega
      have e5 : IntKind.u64.wrap ((minX a b k).tdiv 65536) = minX a b k / 65536 := by rw [Int.tdiv_eq_ediv_of_nonneg e4, IntKind.wrap_u64]; unfold minX; omega
      have e6 : IntKind.u64.wrap (1 - minX a b k / 65536) = bowD a b (k + 1) := by
        have hs : bowD a b (k + 1) = 1 - minX a b k / 65536 := rfl
        rw [IntKind.wrap_u64, hs]; unfold minX; omega
      have HO := hid hown
      clear hown
      go_wp2_with (first | (go_at_call 40; refine (longer_any _ _ _ _ _ _ _).mono ?_; rintro _ _ ⟨rfl, _, rfl⟩; rw [EM.out]) | (go_at_call 41; first | ((with_reducible refine (at_any A ca a k _ hla ?_).mono ?_); (· exact ha.past _); rintro _ _ ⟨rfl, _, rfl⟩) | ((with_reducible refine (at_any B cb b k _ hlb ?_).mono ?_); (· exact hb.past _); rintro _ _ ⟨rfl, _, rfl⟩)) | (at_builtin; refine wpList_push rfl (.tmp 26) (.tmp 29) 50 rfl 22 i0 (.int .u64 0) 1 8 Try.underlying50 hi hz0 hz1 hz2 rfl (by decide) (w0 := w) ?_ _ _ _ rfl (own_and (own_and (own_and HO.out _) _) _) _ (#[.int .u64 (minX a b k % 65536)]) ?_ rfl rfl ?_ ?_ ?_ ?_; (· (repeat (first | exact Below.refl _ _ | refine RowKit.Below.past ?_ _ | refine RowKit.Below.alloc' ?_ _ | refine RowKit.Below.drew' ?_ | refine RowKit.Below.drewN' ?_ _ | refine RowKit.Below.setCell' ?_ (by simp [go_sem]) _))); (· simp [go_sem]); (· simp [Value.oneCell']); (· omega); (· (unfold maxLen; omega)); intro x1 g1 cap1 hown1))
      go_roundw
      case rel =>
        refine ⟨k + 1, x1, by go_num, by omega, rfl, ?_, rfl⟩
        rw [minK_succ, ← u64s_snoc]; exact hown1
      case measure => simp [intOf]; omega
    · obtain rfl : k = M := by omega
      have HO := hid hown
      obtain ⟨A', cap', rfl⟩ := own_shape hown
      clear hown
      go_wp2_with (go_at_call 40; refine (longer_any _ _ _ _ _ _ _).mono ?_; rintro _ _ ⟨rfl, _, rfl⟩; rw [EM.out])
      go_ret
      have hl : (minD a b).length = k := by simp [minD, minK, EM.out]
      refine ⟨A', cap', by rw [hl]; rfl, ?_, ?_⟩
      · (repeat (first | exact Below.refl _ _ | refine RowKit.Below.past ?_ _ | refine RowKit.Below.alloc' ?_ _ | refine RowKit.Below.drew' ?_ | refine RowKit.Below.drewN' ?_ _ | refine RowKit.Below.setCell' ?_ (by simp [go_sem]) _))
      · rw [hl]
        have e : minD a b = minK a b k := by rw [minD, EM.out]
        rw [e]
        exact own_and HO.out _
theorem mulF_val {a b : Int} (ha : U64 a) (hb : U64 b) : mulF a b = (if a * b < 18446744073709551616 then a * b else 18446744073709551615) ∧ mulE a b = (if a * b < 18446744073709551616 then 0 else 2) := by
  have h0 := Int.mul_nonneg ha.1 hb.1
  have x := hilo a b
  unfold mulF mulE
  by_cases h : a * b < 18446744073709551616
  · have e : hiF a b = 0 := by unfold hiF top64; omega
    rw [e] at x ⊢
    simp [h]
    omega
  · have e : (hiF a b == 0) = false := beq_eq_false_iff_ne.2 (by unfold hiF top64; omega)
    rw [e]; simp [h]
theorem digs_times (a b : Int) (ha : U64 a) (hb : U64 b) : val (timesD (numD a) (numD b)) = a * b := by
  rw [times_val (num_digs ha) (num_digs hb), num_val ha, num_val hb]
theorem len_times (a b : Int) : (timesD (numD a) (numD b)).length ≤ 100 := by
  have := timesK_length (numD a) (numD b) (numD b).length
  simp [numD] at this
  exact Nat.le_trans this (by omega)
set_option maxHeartbeats 1000000 in
theorem RMul_any (a b : Int) (ha : U64 a) (hb : U64 b) (w : World) :
    Calls Try.prog 18 #[.int .u64 a, .int .u64 b] w (Gives (.tuple #[.int .u64 (mulF a b), .int .i64 (mulE a b)]) w) := by
  have hf := fits_val (times_digs (numD a) (numD b))
  have hg := mulF_val ha hb
  rw [digs_times a b ha hb, ← hg.1, ← hg.2] at hf
  have HF := hid hf
  have Ha := hid ha
  have Hb := hid hb
  clear hf hg ha hb
  go_enter Try.func18, Try.ntmps18
  go_wp2_with fail
  refine (number_any a Ha.out _).mono ?_
  rintro _ w1 ⟨A, ca, rfl, hb1, ho1⟩
  go_wp2_with fail
  refine (number_any b Hb.out _).mono ?_
  rintro _ w2 ⟨B, cb, rfl, hb2, ho2⟩
  go_wp2_with fail
  refine (Times_ref A B ca cb (numD a) (numD b) _ (by simp [numD]) (by simp [numD]) (num_digs Ha.out) (num_digs Hb.out) ((Cells.of_own ho1).below hb2) (Cells.of_own ho2)).mono ?_
  rintro _ w3 ⟨C, cc, rfl, hb3, ho3⟩
  go_wp2_with fail
  refine (Fits_any C cc (timesD (numD a) (numD b)) _ (by have := len_times a b; omega) (times_digs _ _) (Cells.of_own ho3)).mono ?_
  rintro _ _ ⟨rfl, _, rfl⟩
  go_wp2
  go_ret2
  refine Gives.mk (by rw [HF.out.1, HF.out.2]; rfl) ?_
  exact RowKit.Below.past (below_trans' (below_trans' hb1 hb2) hb3) _
set_option maxHeartbeats 400000 in
theorem RSub_any (a b : Int) (ha : U64 a) (hb : U64 b) (w : World) :
    Calls Try.prog 16 #[.int .u64 a, .int .u64 b] w (Gives (.tuple #[.int .u64 (subF a b), .int .i64 (subE a b)]) w) := by
  rcases dec_cases (a < b) with h | h
  · clear ha hb
    go_enter Try.func16, Try.ntmps16
    go_wp2
    go_ret2
    exact Gives.refl (by simp [subF, subE, h])
  · have e : IntKind.u64.wrap (a - b) = a - b := by
      rw [IntKind.wrap_u64]
      have := ha.2; have := hb.1
      simp at h
      omega
    clear ha hb
    go_enter Try.func16, Try.ntmps16
    go_wp2
    go_ret2
    exact Gives.refl (by simp [subF, subE, h, e])
end Go.Proofs.Ytpihkagmkmjfpaa
