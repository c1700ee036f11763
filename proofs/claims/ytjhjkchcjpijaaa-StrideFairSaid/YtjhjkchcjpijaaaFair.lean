/-
  The walks over layer 15's Fair, and what is awake. No condition.
-/
import Derived.Test.YtjhjkchcjpijaaaUnit
import Derived.Test.YtjhjkchcjpijaaaNearL
namespace Go.Proofs.Ytjhjkchcjpijaaa
open Go.RowKit
def fitsF (n m : Nat) : Bool := (n == m) && decide (n ≤ 64)
set_option maxHeartbeats 400000 in
theorem fits_any (A B : Option Addr) (n m ca cb : Nat) (w : World) :
    Calls Try.prog 26 #[.slice A n ca, .slice B m cb] w (Gives (.bool (fitsF n m)) w) := by
  by_cases h : n = m <;> by_cases h2 : n ≤ 64
  all_goals
    go_enter Try.func26, Try.ntmps26
    go_wp2
  all_goals go_ret
  all_goals refine Gives.refl ?_
  all_goals simp [fitsF, h, h2]
  all_goals omega
def sumB (lo hi : Int) (l : List Int) : Nat → Int
  | 0 => 0
  | k + 1 => sumB lo hi l k + bringF (atL l k) lo hi
theorem sumB_in {lo hi : Int} (h0 : 0 ≤ lo) (h : lo ≤ hi) (l : List Int) (k : Nat) : 0 ≤ sumB lo hi l k ∧ sumB lo hi l k ≤ k * hi := by
  induction k with
  | zero => simp [sumB]
  | succ k ih =>
    have := bring_in (atL l k) lo hi h
    simp only [sumB]
    have e : ((k + 1 : Nat) : Int) * hi = k * hi + hi := by rw [Int.natCast_add, Int.add_mul]; simp
    rw [e]
    omega
set_option maxHeartbeats 1000000 in
theorem sums_any (A B : Option Addr) (ca cb : Nat) (a b : List Int) (w : World) (hn : a.length = b.length) (h64 : a.length ≤ 64) (ha : Cells w A (i64s a)) (hb : Cells w B (i64s b)) :
    Calls Try.prog 27 #[.slice A a.length ca, .slice B b.length cb] w (Gives (.tuple #[.int .u64 (sumB 0 2147483648 a a.length), .int .u64 (sumB 1 4096 b b.length)]) w) := by
  obtain ⟨n, en⟩ : ∃ n, a.length = n := ⟨_, rfl⟩
  have em : b.length = n := by omega
  rw [en, em]
  have EN := hid en
  have EM := hid em
  have hl := en ▸ h64
  clear en em hn h64
  go_enter Try.func27, Try.ntmps27
  go_wp2
  go_loopw [6, 7, 11] (fun t u i wr => ∃ (k : Nat) (x : Past), i = .int .i64 k ∧ k ≤ n ∧ wr = w.past x ∧ t = .int .u64 (sumB 0 2147483648 a k) ∧ u = .int .u64 (sumB 1 4096 b k)) (fun _ _ i _ => n - (intOf i).toNat)
  case atStart => exact ⟨0, _, rfl, by omega, w.past_refl, rfl, rfl⟩
  case round =>
    obtain ⟨k, x, rfl, hk, rfl, rfl, rfl⟩ := hrel
    by_cases hlt : k < n
    · obtain ⟨b1, o1, rfl, hc1⟩ := i64_at ha (show k < a.length by have := EN.out; omega)
      obtain ⟨b2, o2, rfl, hc2⟩ := i64_at hb (show k < b.length by have := EM.out; omega)
      have s1 := sumB_in (lo := 0) (hi := 2147483648) (by omega) (by omega) a k
      have s2 := sumB_in (lo := 1) (hi := 4096) (by omega) (by omega) b k
      have r1 := bring_in (atL a k) 0 2147483648 (by omega)
      have r2 := bring_in (atL b k) 1 4096 (by omega)
      have e1 : IntKind.u64.wrap (sumB 0 2147483648 a k + bringF (atL a k) 0 2147483648) = sumB 0 2147483648 a (k + 1) := by rw [IntKind.wrap_u64, sumB]; omega
      have e2 : IntKind.u64.wrap (sumB 1 4096 b k + bringF (atL b k) 1 4096) = sumB 1 4096 b (k + 1) := by rw [IntKind.wrap_u64, sumB]; omega
      clear ha hb s1 s2 r1 r2
      go_wp2_with ((go_at_call 29; refine (bring_any _ _ _ (by omega) (by omega) (by omega) _).mono ?_; rintro _ _ ⟨rfl, _, rfl⟩))
      go_roundw
      case rel => exact ⟨k + 1, _, by go_num, by omega, rfl, rfl, rfl⟩
      case measure => simp [intOf]; omega
    · obtain rfl : k = n := by omega
      go_wp2
      go_ret2
      refine Gives.mk rfl ?_
      (repeat (first | exact Below.refl _ _ | refine RowKit.Below.past ?_ _ | refine RowKit.Below.alloc' ?_ _ | refine RowKit.Below.drew' ?_ | refine RowKit.Below.drewN' ?_ _ | refine RowKit.Below.setCell' ?_ (by simp [go_sem]) _))
/-- Is one of them near? -/
def fairAt (a b : List Int) (k : Int) (i : Nat) : Bool := nearF (bringF (atL a i) 0 2147483648) (bringF (atL b i) 1 4096) (sumB 0 2147483648 a a.length) (sumB 1 4096 b b.length) (bringF k 0 2147483648)
def fairF (a b : List Int) (k : Int) : Bool := fitsF a.length b.length && (List.range a.length).all (fairAt a b k)
theorem bring_u64 {x lo hi : Int} (h0 : 0 ≤ lo) (h : lo ≤ hi) (h2 : hi ≤ 4294967296) : U64 (bringF x lo hi) := by
  have := bring_in x lo hi h
  exact ⟨by omega, by omega⟩
theorem sum_u64 {lo hi : Int} (h0 : 0 ≤ lo) (h : lo ≤ hi) (h2 : hi ≤ 2147483648) (l : List Int) (k : Nat) (hk : k ≤ 64) : U64 (sumB lo hi l k) := by
  have := sumB_in h0 h l k
  have e := Int.mul_le_mul_of_nonneg_left h2 (show (0 : Int) ≤ k by omega)
  exact ⟨by omega, by omega⟩
set_option maxHeartbeats 2000000 in
theorem Fair_any (A B : Option Addr) (ca cb : Nat) (a b : List Int) (t : Int) (w : World) (ha : Cells w A (i64s a)) (hb : Cells w B (i64s b)) :
    Calls Try.prog 11 #[.slice A a.length ca, .slice B b.length cb, .int .i64 t] w (Gives (.bool (fairF a b t)) w) := by
  cases hf : fitsF a.length b.length with
  | false =>
    have c1 := fun w => fits_any A B a.length b.length ca cb w
    rw [hf] at c1
    have C1 := hid c1
    clear c1 ha hb
    go_enter Try.func11, Try.ntmps11
    go_wp2_with ((go_at_call 26; refine (C1.out _).mono ?_; rintro _ _ ⟨rfl, _, rfl⟩))
    go_ret
    refine Gives.mk (by simp [fairF, hf]) ?_
    (repeat (first | exact Below.refl _ _ | refine RowKit.Below.past ?_ _ | refine RowKit.Below.alloc' ?_ _ | refine RowKit.Below.drew' ?_ | refine RowKit.Below.drewN' ?_ _ | refine RowKit.Below.setCell' ?_ (by simp [go_sem]) _))
  | true =>
    have c1 := fun w => fits_any A B a.length b.length ca cb w
    rw [hf] at c1
    have C1 := hid c1
    have hn : a.length = b.length ∧ a.length ≤ 64 := by simpa [fitsF] using hf
    have c2 := fun (x : Past) => sums_any A B ca cb a b (w.past x) hn.1 hn.2 (ha.past x) (hb.past x)
    have u1 := hid (sum_u64 (lo := 0) (hi := 2147483648) (by omega) (by omega) (by omega) a a.length hn.2)
    have u2 := hid (sum_u64 (lo := 1) (hi := 4096) (by omega) (by omega) (by omega) b b.length (by omega))
    have fa : fairF a b t = (List.range a.length).all (fairAt a b t) := by rw [fairF, hf, Bool.true_and]
    rw [fa]
    have hat : ∀ i, fairAt a b t i = nearF (bringF (atL a i) 0 2147483648) (bringF (atL b i) 1 4096) (sumB 0 2147483648 a a.length) (sumB 1 4096 b b.length) (bringF t 0 2147483648) := fun i => rfl
    have HAT := hid hat
    have C2 := hid c2
    obtain ⟨n, en⟩ : ∃ n, a.length = n := ⟨_, rfl⟩
    have em : b.length = n := by omega
    simp only [en, em] at C1 C2 u1 u2 HAT ⊢
    have EN := hid en
    have EM := hid em
    have hl : n ≤ 64 := by omega
    obtain ⟨T, eT⟩ : ∃ T, sumB 0 2147483648 a n = T := ⟨_, rfl⟩
    obtain ⟨S, eS⟩ : ∃ S, sumB 1 4096 b n = S := ⟨_, rfl⟩
    simp only [eT, eS] at C2 u1 u2 HAT
    clear c1 c2 hn en em hf fa hat eT eS
    go_enter Try.func11, Try.ntmps11
    go_wp2_with (first | (go_at_call 26; refine (C1.out _).mono ?_; rintro _ _ ⟨rfl, _, rfl⟩) | (go_at_call 27; refine (C2.out _).mono ?_; rintro _ _ ⟨rfl, _, rfl⟩))
    go_loopw [22] (fun i wr => ∃ (k : Nat) (x : Past), i = .int .i64 k ∧ k ≤ n ∧ wr = w.past x ∧ Hid (∀ j, j < k → fairAt a b t j = true)) (fun i _ => n - (intOf i).toNat)
    case atStart => exact ⟨0, _, rfl, by omega, rfl, hid (fun j h => by omega)⟩
    case round =>
      obtain ⟨k, x, rfl, hk, rfl, hj⟩ := hrel
      by_cases hlt : k < n
      · obtain ⟨b1, o1, rfl, hc1⟩ := i64_at ha (show k < a.length by have := EN.out; omega)
        obtain ⟨b2, o2, rfl, hc2⟩ := i64_at hb (show k < b.length by have := EM.out; omega)
        clear ha hb
        have c3 := fun w' => Near_any (bringF (atL a k) 0 2147483648) (bringF (atL b k) 1 4096) T S (bringF t 0 2147483648) (bring_u64 (by omega) (by omega) (by omega)) (bring_u64 (by omega) (by omega) (by omega)) u1.out u2.out (bring_u64 (by omega) (by omega) (by omega)) w'
        rw [← HAT.out k] at c3
        cases hx : fairAt a b t k with
        | true =>
          rw [hx] at c3
          have C3 := hid c3
          have HX := hid hx
          clear hx c3
          go_wp2_with fail
          refine wp_region_past (by kernel_rfl) (by kernel_rfl) ?_
          repeat (go_big_quiet_step ((first | (go_at_call 29; first | with_reducible exact Calls.in_past (bring_any _ _ _ (by omega) (by omega) (by omega) _) | with_reducible exact Calls.in_past2 (bring_any _ _ _ (by omega) (by omega) (by omega) _)) | (go_at_call 28; first | with_reducible exact Calls.in_past (C3.out _) | with_reducible exact Calls.in_past2 (C3.out _)) | (go_at_call 29; first | exact Calls.in_past (bring_any _ _ _ (by omega) (by omega) (by omega) _) | exact Calls.in_past2 (bring_any _ _ _ (by omega) (by omega) (by omega) _)) | (go_at_call 28; first | exact Calls.in_past (C3.out _) | exact Calls.in_past2 (C3.out _)))))
          refine wpQuiet_nil ?_
          rintro _ ⟨_, rfl⟩
          go_wp2
          go_roundw
          case rel => exact ⟨k + 1, _, by go_num, by omega, rfl, hid (fun j h => by
            by_cases e : j = k
            · subst e; exact HX.out
            · exact hj.out j (by omega))⟩
          case measure => simp [intOf]; omega
        | false =>
          rw [hx] at c3
          have C3 := hid c3
          have HX := hid (show (List.range n).all (fairAt a b t) = false by rw [List.all_eq_false]; exact ⟨k, by simpa using hlt, by simp [hx]⟩)
          clear hx c3
          go_wp2_with fail
          refine wp_region_past (by kernel_rfl) (by kernel_rfl) ?_
          repeat (go_big_quiet_step ((first | (go_at_call 29; first | with_reducible exact Calls.in_past (bring_any _ _ _ (by omega) (by omega) (by omega) _) | with_reducible exact Calls.in_past2 (bring_any _ _ _ (by omega) (by omega) (by omega) _)) | (go_at_call 28; first | with_reducible exact Calls.in_past (C3.out _) | with_reducible exact Calls.in_past2 (C3.out _)) | (go_at_call 29; first | exact Calls.in_past (bring_any _ _ _ (by omega) (by omega) (by omega) _) | exact Calls.in_past2 (bring_any _ _ _ (by omega) (by omega) (by omega) _)) | (go_at_call 28; first | exact Calls.in_past (C3.out _) | exact Calls.in_past2 (C3.out _)))))
          refine wpQuiet_nil ?_
          rintro _ ⟨_, rfl⟩
          go_wp2
          go_ret
          refine Gives.mk (by rw [HX.out]; rfl) ?_
          (repeat (first | exact Below.refl _ _ | refine RowKit.Below.past ?_ _ | refine RowKit.Below.alloc' ?_ _ | refine RowKit.Below.drew' ?_ | refine RowKit.Below.drewN' ?_ _ | refine RowKit.Below.setCell' ?_ (by simp [go_sem]) _))
      · obtain rfl : k = n := by omega
        have HX := hid (show (List.range k).all (fairAt a b t) = true by rw [List.all_eq_true]; intro j h; exact hj.out j (by simpa using h))
        go_wp2
        go_ret
        refine Gives.mk (by rw [HX.out]; rfl) ?_
        (repeat (first | exact Below.refl _ _ | refine RowKit.Below.past ?_ _ | refine RowKit.Below.alloc' ?_ _ | refine RowKit.Below.drew' ?_ | refine RowKit.Below.drewN' ?_ _ | refine RowKit.Below.setCell' ?_ (by simp [go_sem]) _))
theorem Fair_is {A B : Option Addr} {ca cb n m : Nat} {a b : List Int} {t : Int} {c : Bool} (hn : a.length = n) (hm : b.length = m) (h : fairF a b t = c) (w : World) (ha : Cells w A (i64s a)) (hb : Cells w B (i64s b)) :
    Calls Try.prog 11 #[.slice A n ca, .slice B m cb, .int .i64 t] w (Gives (.bool c) w) := by
  subst hn hm h; exact Fair_any A B ca cb a b t w ha hb
end Go.Proofs.Ytjhjkchcjpijaaa
