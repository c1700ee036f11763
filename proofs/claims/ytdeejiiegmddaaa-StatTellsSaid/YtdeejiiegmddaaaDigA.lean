/-
  The document's numbers of digits (layer 1's reference): number, at, longer, Sum, Fits, Add. No condition.
-/
import Derived.Test.YtdeejiiegmddaaaFixq
import Derived.Test.YtdeejiiegmddaaaOwn
namespace Go.Proofs.Ytdeejiiegmddaaa
open Go.RowKit
def u64s (l : List Int) : List Value := l.map (Value.int .u64)
@[simp] theorem u64s_length (l : List Int) : (u64s l).length = l.length := by simp [u64s]
theorem info_u64 : (Try.prog.info? 30).map (fun i => (i.zero, i.size, i.bytes)) = some (some (.int .u64 0), 1, 8) := by kernel_rfl
def atD (l : List Int) (i : Nat) : Int := l[i]?.getD 0
theorem u64_at {w : World} {A : Option Addr} {l : List Int} (h : Cells w A (u64s l)) {k : Nat} (hk : k < l.length) : ∃ b off : Nat, A = some ⟨b, off, none⟩ ∧ w.cell? ⟨b, off + k, none⟩ = some (.int .u64 (atD l k)) := by
  obtain ⟨b, off, e, hc⟩ := h.at (k := k) (by simpa using hk)
  refine ⟨b, off, e, ?_⟩
  rw [hc]
  simp [u64s, atD, List.getElem?_eq_getElem hk]
set_option maxHeartbeats 400000 in
theorem at_any (A : Option Addr) (cap : Nat) (l : List Int) (k : Nat) (w : World) (hl : l.length ≤ 1000000) (h : Cells w A (u64s l)) :
    Calls Try.prog 27 #[.slice A l.length cap, .int .i64 (k : Int)] w (Gives (.int .u64 (atD l k)) w) := by
  by_cases hk : k < l.length
  · obtain ⟨b, off, rfl, hc⟩ := u64_at h hk
    clear h
    go_enter Try.func27, Try.ntmps27
    go_wp2
    go_ret
    exact Gives.refl rfl
  · clear h
    go_enter Try.func27, Try.ntmps27
    go_wp2
    go_ret
    refine Gives.refl ?_
    rw [atD, List.getElem?_eq_none (by omega)]
    rfl
def lonD (a b : List Int) : Nat := if b.length < a.length then a.length else b.length
set_option maxHeartbeats 400000 in
theorem longer_any (A B : Option Addr) (ca cb : Nat) (a b : List Int) (w : World) :
    Calls Try.prog 28 #[.slice A a.length ca, .slice B b.length cb] w (Gives (.int .i64 (lonD a b : Nat)) w) := by
  by_cases h : b.length < a.length
  all_goals
    go_enter Try.func28, Try.ntmps28
    go_wp2
    go_ret
    exact Gives.refl (by simp [lonD, h])
def numD (a : Int) : List Int := [a % 65536, a / 65536 % 65536, a / 4294967296 % 65536, a / 281474976710656]
set_option maxHeartbeats 400000 in
theorem number_any (a : Int) (ha : U64 a) (w : World) :
    Calls Try.prog 20 #[.int .u64 a] w (GivesOwn 30 1 4 (u64s (numD a)) w) := by
  obtain ⟨h0, h1⟩ := ha
  have e1 : IntKind.u64.wrap (a.tdiv 65536) = a / 65536 := by rw [Int.tdiv_eq_ediv_of_nonneg h0, IntKind.wrap_u64]; omega
  have e2 : IntKind.u64.wrap (a.tdiv 4294967296) = a / 4294967296 := by rw [Int.tdiv_eq_ediv_of_nonneg h0, IntKind.wrap_u64]; omega
  have e3 : IntKind.u64.wrap (a.tdiv 281474976710656) = a / 281474976710656 := by rw [Int.tdiv_eq_ediv_of_nonneg h0, IntKind.wrap_u64]; omega
  have p1 : 0 ≤ a / 65536 := by omega
  have p2 : 0 ≤ a / 4294967296 := by omega
  clear h1
  go_enter Try.func20, Try.ntmps20
  go_wp2
  go_ret
  refine ⟨_, _, rfl, ?_, ?_⟩
  · (repeat (first | exact Below.refl _ _ | refine RowKit.Below.past ?_ _ | refine RowKit.Below.alloc' ?_ _ | refine RowKit.Below.drew' ?_ | refine RowKit.Below.drewN' ?_ _ | refine RowKit.Below.setCell' ?_ (by simp [go_sem]) _))
  · exact World.ownsRow_lit _ _ _ (Nat.le_refl _) (by unfold maxLen; omega) (by simp)
def carD (a b : List Int) : Nat → Int
  | 0 => 0
  | i + 1 => (atD a i + atD b i + carD a b i) / 65536
def digX (a b : List Int) (i : Nat) : Int := atD a i + atD b i + carD a b i
def sumK (a b : List Int) (k : Nat) : List Int := (List.range k).map fun i => digX a b i % 65536
def sumD (a b : List Int) : List Int := sumK a b (lonD a b + 1)
def Digs (l : List Int) : Prop := ∀ x ∈ l, 0 ≤ x ∧ x < 65536
theorem Digs.at {l : List Int} (h : Digs l) (i : Nat) : 0 ≤ atD l i ∧ atD l i < 65536 := by
  unfold atD
  cases e : l[i]? with
  | none => simp
  | some x => exact h x (List.mem_of_getElem? e)
theorem carD_le {a b : List Int} (ha : Digs a) (hb : Digs b) (i : Nat) : 0 ≤ carD a b i ∧ carD a b i ≤ 1 := by
  induction i with
  | zero => simp [carD]
  | succ i ih => have := ha.at i; have := hb.at i; simp only [carD]; omega
theorem sumK_succ (a b : List Int) (k : Nat) : sumK a b (k + 1) = sumK a b k ++ [digX a b k % 65536] := by simp [sumK, List.range_succ]
theorem u64s_snoc (l : List Int) (x : Int) : u64s l ++ [.int .u64 x] = u64s (l ++ [x]) := by simp [u64s]
set_option maxRecDepth 100000 in
set_option maxHeartbeats 1000000 in
theorem Sum_any (A B : Option Addr) (ca cb : Nat) (a b : List Int) (w : World) (hla : a.length ≤ 1000000) (hlb : b.length ≤ 1000000) (da : Digs a) (db : Digs b) (ha : Cells w A (u64s a)) (hb : Cells w B (u64s b)) :
    Calls Try.prog 19 #[.slice A a.length ca, .slice B b.length cb] w (GivesOwn 30 1 (sumD a b).length (u64s (sumD a b)) w) := by
  obtain ⟨i0, hi, hz0, hz1, hz2⟩ := info_parts info_u64
  have hM : lonD a b ≤ 1000000 := by unfold lonD; split <;> omega
  obtain ⟨M, eM⟩ : ∃ M, lonD a b = M := ⟨_, rfl⟩
  have EM := hid eM
  clear eM
  go_enter Try.func19, Try.ntmps19
  go_wp2_with (go_at_call 28; refine (longer_any _ _ _ _ _ _ _).mono ?_; rintro _ _ ⟨rfl, _, rfl⟩)
  rw [EM.out] at hM ⊢
  go_loopw [5, 6, 8] (fun v c i wr => ∃ (k : Nat) (x : Past), i = .int .i64 k ∧ k ≤ M + 1 ∧ wr = w.past x ∧ (w.past x).ownsRow w.heap.size 30 1 v k (u64s (sumK a b k)) ∧ c = .int .u64 (carD a b k)) (fun _ _ i _ => M + 1 - (intOf i).toNat)
  case atStart => exact ⟨0, _, rfl, by omega, rfl, World.ownsRow_nil _ _ _ _, rfl⟩
  case round =>
    obtain ⟨k, x, rfl, hk, rfl, hown, rfl⟩ := hrel
    by_cases hlt : k ≤ M
    · have h1 := da.at k
      have h2 := db.at k
      have h3 := carD_le da db k
      obtain ⟨p, q⟩ := h1
      obtain ⟨r, s⟩ := h2
      obtain ⟨t, u⟩ := h3
      have e1 : IntKind.u64.wrap (atD a k + atD b k) = atD a k + atD b k := by rw [IntKind.wrap_u64]; omega
      have e2 : IntKind.u64.wrap (atD a k + atD b k + carD a b k) = digX a b k := by rw [IntKind.wrap_u64]; unfold digX; omega
      have e3 : 0 ≤ digX a b k := by unfold digX; omega
      have e4 : IntKind.u64.wrap ((digX a b k).tdiv 65536) = carD a b (k + 1) := by
        have hs : carD a b (k + 1) = (atD a k + atD b k + carD a b k) / 65536 := rfl
        rw [Int.tdiv_eq_ediv_of_nonneg e3, IntKind.wrap_u64, hs]; unfold digX; omega
      go_wp2_with (first | (go_at_call 27; first | ((with_reducible refine (at_any A ca a k _ hla ?_).mono ?_); (· exact ha.past _); rintro _ _ ⟨rfl, _, rfl⟩) | ((with_reducible refine (at_any B cb b k _ hlb ?_).mono ?_); (· exact hb.past _); rintro _ _ ⟨rfl, _, rfl⟩)) | (at_builtin; refine wpList_push rfl (.tmp 27) (.tmp 30) 58 rfl 30 i0 (.int .u64 0) 1 8 Try.underlying58 hi hz0 hz1 hz2 rfl (by decide) (w0 := w) ?_ _ _ _ rfl (own_and (own_and hown _) _) _ (#[.int .u64 (digX a b k % 65536)]) ?_ rfl rfl ?_ ?_ ?_ ?_; (· (repeat (first | exact Below.refl _ _ | refine RowKit.Below.past ?_ _ | refine RowKit.Below.alloc' ?_ _ | refine RowKit.Below.drew' ?_ | refine RowKit.Below.drewN' ?_ _ | refine RowKit.Below.setCell' ?_ (by simp [go_sem]) _))); (· simp [go_sem]); (· simp [Value.oneCell']); (· omega); (· (unfold maxLen; omega)); intro x1 g1 cap1 hown1))
      go_roundw
      case rel =>
        refine ⟨k + 1, x1, by go_num, by omega, rfl, ?_, ?_⟩
        · rw [sumK_succ, ← u64s_snoc]; exact hown1
        · rfl
      case measure => simp [intOf]; omega
    · obtain rfl : k = M + 1 := by omega
      obtain ⟨A', cap', rfl⟩ := own_shape hown
      go_wp2
      go_ret
      have hl : (sumD a b).length = M + 1 := by simp [sumD, sumK, EM.out]
      refine ⟨A', cap', by rw [hl]; rfl, ?_, ?_⟩
      · (repeat (first | exact Below.refl _ _ | refine RowKit.Below.past ?_ _ | refine RowKit.Below.alloc' ?_ _ | refine RowKit.Below.drew' ?_ | refine RowKit.Below.drewN' ?_ _ | refine RowKit.Below.setCell' ?_ (by simp [go_sem]) _))
      · rw [hl]
        have e : sumD a b = sumK a b (M + 1) := by rw [sumD, EM.out]
        rw [e]
        exact hown
def over (l : List Int) : Bool := (l.drop 4).any fun x => decide (0 < x)
theorem over_yes {l : List Int} {k : Nat} (h4 : 4 ≤ k) (hk : k < l.length) (h : 0 < atD l k) : over l = true := by
  unfold over
  rw [List.any_eq_true]
  refine ⟨l[k], ?_, by simpa [atD, List.getElem?_eq_getElem hk] using h⟩
  rw [List.mem_iff_getElem?]
  exact ⟨k - 4, by rw [List.getElem?_drop, show 4 + (k - 4) = k by omega]; exact List.getElem?_eq_getElem hk⟩
theorem over_no {l : List Int} (h : ∀ j, 4 ≤ j → j < l.length → atD l j ≤ 0) : over l = false := by
  unfold over
  rw [List.any_eq_false]
  intro x hx
  obtain ⟨i, hi⟩ := List.mem_iff_getElem?.1 hx
  rw [List.getElem?_drop] at hi
  have hlt := (List.getElem?_eq_some_iff.1 hi).1
  have := h (4 + i) (by omega) hlt
  rw [atD, hi] at this
  simpa using this
def fitV (l : List Int) : Int := atD l 0 + atD l 1 * 65536 + atD l 2 * 4294967296 + atD l 3 * 281474976710656
def fitF (l : List Int) : Int := if over l = true then 18446744073709551615 else fitV l
def fitE (l : List Int) : Int := if over l = true then 2 else 0
theorem at_nat (n : Nat) (A : Option Addr) (cap : Nat) (l : List Int) (w : World) (hl : l.length ≤ 1000000) (h : Cells w A (u64s l)) (k : Int) (hk : k = (n : Int)) :
    Calls Try.prog 27 #[.slice A l.length cap, .int .i64 k] w (Gives (.int .u64 (atD l n)) w) := by subst hk; exact at_any A cap l n w hl h
set_option maxHeartbeats 1000000 in
theorem Fits_any (A : Option Addr) (ca : Nat) (l : List Int) (w : World) (hla : l.length ≤ 1000000) (da : Digs l) (ha : Cells w A (u64s l)) :
    Calls Try.prog 18 #[.slice A l.length ca] w (Gives (.tuple #[.int .u64 (fitF l), .int .i64 (fitE l)]) w) := by
  go_enter Try.func18, Try.ntmps18
  go_wp2
  go_loop [4] (fun i => ∃ k : Nat, 4 ≤ k ∧ (k ≤ l.length ∨ k = 4) ∧ i = .int .i64 k ∧ Hid (∀ j, 4 ≤ j → j < k → atD l j ≤ 0)) (fun i => l.length - (intOf i).toNat)
  case atStart => exact ⟨4, by omega, .inr rfl, rfl, hid (fun j h1 h2 => by omega)⟩
  case round =>
    obtain ⟨k, h4, hk, rfl, hj⟩ := hrel
    by_cases hlt : k < l.length
    · obtain ⟨b, off, rfl, hc⟩ := u64_at ha hlt
      clear ha
      by_cases hp : 0 < atD l k
      · have ho := over_yes h4 hlt hp
        go_wp2
        go_ret2
        exact Gives.refl (by simp [fitF, fitE, ho])
      · go_wp2
        go_round
        case rel => exact ⟨k + 1, by omega, by omega, by go_num, hid (fun j h1 h2 => by
          by_cases e : j = k
          · subst e; omega
          · exact hj.out j h1 (by omega))⟩
        case measure => simp [intOf]; omega
    · have ho := over_no (fun j h1 h2 => hj.out j h1 (by omega))
      have a0 := (da.at 0).1; have a1 := (da.at 1).1; have a2 := (da.at 2).1; have a3 := (da.at 3).1
      have b0 := (da.at 0).2; have b1 := (da.at 1).2; have b2 := (da.at 2).2; have b3 := (da.at 3).2
      have e1 : IntKind.u64.wrap (atD l 1 * 65536) = atD l 1 * 65536 := by rw [IntKind.wrap_u64]; omega
      have e2 : IntKind.u64.wrap (atD l 0 + atD l 1 * 65536) = atD l 0 + atD l 1 * 65536 := by rw [IntKind.wrap_u64]; omega
      have e3 : IntKind.u64.wrap (atD l 2 * 4294967296) = atD l 2 * 4294967296 := by rw [IntKind.wrap_u64]; omega
      have e4 : IntKind.u64.wrap (atD l 0 + atD l 1 * 65536 + atD l 2 * 4294967296) = atD l 0 + atD l 1 * 65536 + atD l 2 * 4294967296 := by rw [IntKind.wrap_u64]; omega
      have e5 : IntKind.u64.wrap (atD l 3 * 281474976710656) = atD l 3 * 281474976710656 := by rw [IntKind.wrap_u64]; omega
      have e6 : IntKind.u64.wrap (atD l 0 + atD l 1 * 65536 + atD l 2 * 4294967296 + atD l 3 * 281474976710656) = fitV l := by rw [IntKind.wrap_u64]; unfold fitV; omega
      go_wp2_with fail
      refine (at_nat 0 A ca l _ hla ha _ rfl).mono ?_
      rintro _ _ ⟨rfl, _, rfl⟩
      go_wp2_with fail
      refine (at_nat 1 A ca l _ hla (ha.past _) _ rfl).mono ?_
      rintro _ _ ⟨rfl, _, rfl⟩
      go_wp2_with fail
      refine (at_nat 2 A ca l _ hla (ha.past _) _ rfl).mono ?_
      rintro _ _ ⟨rfl, _, rfl⟩
      go_wp2_with fail
      refine (at_nat 3 A ca l _ hla (ha.past _) _ rfl).mono ?_
      rintro _ _ ⟨rfl, _, rfl⟩
      go_wp2
      go_ret2
      refine Gives.mk (by simp [fitF, fitE, ho]) ?_
      (repeat (first | exact Below.refl _ _ | refine RowKit.Below.past ?_ _ | refine RowKit.Below.alloc' ?_ _ | refine RowKit.Below.drew' ?_ | refine RowKit.Below.drewN' ?_ _ | refine RowKit.Below.setCell' ?_ (by simp [go_sem]) _))
theorem num_digs {a : Int} (h : U64 a) : Digs (numD a) := by
  obtain ⟨h0, h1⟩ := h
  intro x hx
  simp only [numD, List.mem_cons, List.not_mem_nil, or_false] at hx
  rcases hx with rfl | rfl | rfl | rfl <;> omega
theorem sum_digs (a b : List Int) : Digs (sumD a b) := by
  intro x hx
  simp only [sumD, sumK, List.mem_map] at hx
  obtain ⟨i, _, rfl⟩ := hx
  omega
/-! What digits come to. -/
def valN (f : Nat → Int) : Nat → Int
  | 0 => 0
  | n + 1 => valN f n + f n * 65536 ^ n
def val (l : List Int) : Int := valN (atD l) l.length
theorem valN_more (l : List Int) : ∀ m, valN (atD l) (l.length + m) = val l := by
  intro m
  induction m with
  | zero => rfl
  | succ m ih =>
    rw [← Nat.add_assoc, valN, ih, atD, List.getElem?_eq_none (by omega)]
    simp
theorem valN_ge (l : List Int) {n : Nat} (h : l.length ≤ n) : valN (atD l) n = val l := by
  have := valN_more l (n - l.length)
  rwa [show l.length + (n - l.length) = n by omega] at this
theorem valN_congr {f g : Nat → Int} : ∀ n, (∀ i, i < n → f i = g i) → valN f n = valN g n := by
  intro n
  induction n with
  | zero => intro _; rfl
  | succ n ih => intro h; rw [valN, valN, ih (fun i hi => h i (by omega)), h n (by omega)]
theorem valN_add (a b : List Int) : ∀ n, valN (fun i => digX a b i % 65536) n + carD a b n * 65536 ^ n = valN (atD a) n + valN (atD b) n := by
  intro n
  induction n with
  | zero => simp [valN, carD]
  | succ n ih =>
    have e : digX a b n % 65536 + carD a b (n + 1) * 65536 = atD a n + atD b n + carD a b n := by
      simp only [digX, carD]; omega
    simp only [valN]
    rw [Int.pow_succ, ← Int.mul_assoc, Int.mul_right_comm (carD a b (n + 1))]
    have e2 : (digX a b n % 65536 + carD a b (n + 1) * 65536) * 65536 ^ n = (atD a n + atD b n + carD a b n) * 65536 ^ n := by rw [e]
    simp only [Int.add_mul] at e2
    omega
theorem sum_val {a b : List Int} (ha : Digs a) (hb : Digs b) : val (sumD a b) = val a + val b := by
  have hlen : (sumD a b).length = lonD a b + 1 := by simp [sumD, sumK]
  have hM : a.length ≤ lonD a b ∧ b.length ≤ lonD a b := by unfold lonD; split <;> omega
  have h := valN_add a b (lonD a b + 1)
  have hc : carD a b (lonD a b + 1) = 0 := by
    have := carD_le ha hb (lonD a b)
    simp only [carD]
    rw [atD, List.getElem?_eq_none (by omega), atD, List.getElem?_eq_none (by omega)]
    simp
    omega
  rw [hc, valN_ge a (by omega), valN_ge b (by omega)] at h
  rw [val, hlen, valN_congr (g := fun i => digX a b i % 65536) _ (fun i hi => by simp [sumD, sumK, atD, hi])]
  omega
theorem num_val {a : Int} (h : U64 a) : val (numD a) = a := by
  obtain ⟨h0, h1⟩ := h
  simp [val, numD, valN, atD]
  omega
theorem valN_pos {l : List Int} (h : Digs l) : ∀ n m, 0 ≤ valN (atD l) n ∧ valN (atD l) n ≤ valN (atD l) (n + m) := by
  intro n m
  have step : ∀ k, 0 ≤ atD l k * 65536 ^ k := fun k => Int.mul_nonneg (h.at k).1 (Int.pow_nonneg (by omega))
  constructor
  · induction n with
    | zero => simp [valN]
    | succ n ih => have := step n; simp only [valN]; omega
  · induction m with
    | zero => simp
    | succ m ih => have := step (n + m); rw [← Nat.add_assoc, valN]; omega
theorem fit_spec {l : List Int} (h : Digs l) : (over l = true → 18446744073709551616 ≤ val l) ∧ (over l = false → val l = fitV l ∧ val l < 18446744073709551616) := by
  have h4 : valN (atD l) 4 = fitV l := by simp [valN, fitV]
  have hf : fitV l < 18446744073709551616 := by
    have := h.at 0; have := h.at 1; have := h.at 2; have := h.at 3
    unfold fitV; omega
  constructor
  · intro ho
    unfold over at ho
    rw [List.any_eq_true] at ho
    obtain ⟨x, hx, hp⟩ := ho
    obtain ⟨i, hi⟩ := List.mem_iff_getElem?.1 hx
    rw [List.getElem?_drop] at hi
    have hlt := (List.getElem?_eq_some_iff.1 hi).1
    have ha : atD l (4 + i) = x := by rw [atD, hi]; rfl
    have hp : 0 < x := by simpa using hp
    have e : valN (atD l) (4 + i + 1) = valN (atD l) (4 + i) + x * 65536 ^ (4 + i) := by rw [valN, ha]
    have m1 := (valN_pos h (4 + i) 0).1
    have m2 := (valN_pos h (4 + i + 1) (l.length - (4 + i + 1))).2
    rw [show 4 + i + 1 + (l.length - (4 + i + 1)) = l.length by omega] at m2
    have p : (65536 : Int) ^ (4 + i) = 18446744073709551616 * 65536 ^ i := by rw [Int.pow_add]; rfl
    have q : (1 : Int) ≤ 65536 ^ i := Int.pow_pos (by omega)
    have r := Int.mul_le_mul_of_nonneg_right (show (1 : Int) ≤ x by omega) (show (0 : Int) ≤ 65536 ^ (4 + i) from Int.pow_nonneg (by omega))
    rw [p] at r e
    show _ ≤ valN (atD l) l.length
    omega
  · intro ho
    unfold over at ho
    rw [List.any_eq_false] at ho
    have hz : ∀ j, 4 ≤ j → atD l j = 0 := by
      intro j hj
      by_cases hlt : j < l.length
      · have := ho l[j] (by
          rw [List.mem_iff_getElem?]
          exact ⟨j - 4, by rw [List.getElem?_drop, show 4 + (j - 4) = j by omega]; exact List.getElem?_eq_getElem hlt⟩)
        have h2 := (h.at j).1
        rw [atD, List.getElem?_eq_getElem hlt] at h2 ⊢
        simp at this h2 ⊢
        omega
      · rw [atD, List.getElem?_eq_none (by omega)]; rfl
    have hc : ∀ m, valN (atD l) (4 + m) = valN (atD l) 4 := by
      intro m
      induction m with
      | zero => rfl
      | succ m ih => rw [← Nat.add_assoc, valN, ih, hz (4 + m) (by omega)]; simp
    have : val l = fitV l := by
      rw [← h4, ← hc l.length]
      exact (valN_ge l (by omega)).symm
    exact ⟨this, by omega⟩
theorem fits_val {l : List Int} (h : Digs l) : fitF l = (if val l < 18446744073709551616 then val l else 18446744073709551615) ∧ fitE l = (if val l < 18446744073709551616 then 0 else 2) := by
  obtain ⟨h1, h2⟩ := fit_spec h
  unfold fitF fitE
  cases ho : over l with
  | true => have := h1 ho; rw [if_pos rfl, if_pos rfl, if_neg (by omega), if_neg (by omega)]; exact ⟨rfl, rfl⟩
  | false => have := h2 ho; simp only [Bool.false_eq_true, if_false]; rw [if_pos this.2, if_pos this.2, this.1]; exact ⟨rfl, rfl⟩
theorem add_val {a b : Int} (ha : U64 a) (hb : U64 b) : addF a b = (if a + b < 18446744073709551616 then a + b else 18446744073709551615) ∧ addE a b = (if a + b < 18446744073709551616 then 0 else 2) := by
  have h0 := ha.1; have h1 := hb.1
  unfold addF addE carF sumF top64
  by_cases h : a + b < 18446744073709551616
  · have e : (a + b + 0) / 18446744073709551616 = 0 := by omega
    have e2 : (a + b + 0) % 18446744073709551616 = a + b := by omega
    rw [e, e2]; simp [h]
  · have e : ((a + b + 0) / 18446744073709551616 == 0) = false := beq_eq_false_iff_ne.2 (by omega)
    rw [e]; simp [h]
set_option maxHeartbeats 1000000 in
theorem RAdd_any (a b : Int) (ha : U64 a) (hb : U64 b) (w : World) :
    Calls Try.prog 12 #[.int .u64 a, .int .u64 b] w (Gives (.tuple #[.int .u64 (addF a b), .int .i64 (addE a b)]) w) := by
  have hs := sum_val (num_digs ha) (num_digs hb)
  rw [num_val ha, num_val hb] at hs
  have hf := fits_val (sum_digs (numD a) (numD b))
  have hg := add_val ha hb
  rw [hs, ← hg.1, ← hg.2] at hf
  have HF := hid hf
  have Ha := hid ha
  have Hb := hid hb
  clear hs hf hg ha hb
  go_enter Try.func12, Try.ntmps12
  go_wp2_with fail
  refine (number_any a Ha.out _).mono ?_
  rintro _ w1 ⟨A, ca, rfl, hb1, ho1⟩
  go_wp2_with fail
  refine (number_any b Hb.out _).mono ?_
  rintro _ w2 ⟨B, cb, rfl, hb2, ho2⟩
  go_wp2_with fail
  refine (Sum_any A B ca cb (numD a) (numD b) _ (by simp [numD]) (by simp [numD]) (num_digs Ha.out) (num_digs Hb.out) ((Cells.of_own ho1).below hb2) (Cells.of_own ho2)).mono ?_
  rintro _ w3 ⟨C, cc, rfl, hb3, ho3⟩
  go_wp2_with fail
  refine (Fits_any C cc (sumD (numD a) (numD b)) _ (by simp [sumD, sumK, numD, lonD]) (sum_digs _ _) (Cells.of_own ho3)).mono ?_
  rintro _ _ ⟨rfl, _, rfl⟩
  go_wp2
  go_ret2
  refine Gives.mk (by rw [HF.out.1, HF.out.2]; rfl) ?_
  exact RowKit.Below.past (below_trans' (below_trans' hb1 hb2) hb3) _
end Go.Proofs.Ytdeejiiegmddaaa
