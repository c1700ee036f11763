/-
  Layer 15's document, at this dump: the worst share, and whether shares are fair. No condition but that there are few.
-/
import Derived.Test.YtjhjkchcjpijaaaFair
namespace Go.Proofs.Ytjhjkchcjpijaaa
open Go.RowKit
def diffF (a b : List Int) (i : Nat) : Int := bringF (atL a i) 0 2147483648 * sumB 1 4096 b b.length - bringF (atL b i) 1 4096 * sumB 0 2147483648 a a.length
def offF (a b : List Int) (i : Nat) : Int := if diffF a b i < 0 then 0 - diffF a b i else diffF a b i
theorem prod_in {x y m n : Int} (hx : 0 ≤ x ∧ x ≤ m) (hy : 0 ≤ y ∧ y ≤ n) (hm : 0 ≤ m) : 0 ≤ x * y ∧ x * y ≤ m * n :=
  ⟨Int.mul_nonneg hx.1 hy.1, Int.mul_le_mul hx.2 hy.2 hy.1 hm⟩
set_option maxRecDepth 100000 in
set_option maxHeartbeats 2000000 in
theorem off_any (A B : Option Addr) (ca cb n : Nat) (a b : List Int) (w : World) (ea : a.length = n) (eb : b.length = n) (h64 : n ≤ 64) (ha : Cells w A (i64s a)) (hb : Cells w B (i64s b)) (q : Nat) (hq : q < n) :
    Calls Try.prog 42 #[.slice A n ca, .slice B n cb, .int .i64 q] w (Gives (.int .i64 (offF a b q)) w) := by
  have EA := hid ea
  have EB := hid eb
  have HA := hid ha
  have HB := hid hb
  have hd : diffF a b q = bringF (atL a q) 0 2147483648 * sumB 1 4096 b n - bringF (atL b q) 1 4096 * sumB 0 2147483648 a n := by unfold diffF; rw [ea, eb]
  have hof : offF a b q = if diffF a b q < 0 then 0 - diffF a b q else diffF a b q := rfl
  have HOF := hid hof
  have HD := hid hd
  clear ea eb ha hb hd hof
  go_enter Try.func42, Try.ntmps42
  go_wp2
  go_loopw [7, 8, 9] (fun t u i wr => ∃ (k : Nat) (x : Past), i = .int .i64 k ∧ k ≤ n ∧ wr = w.past x ∧ t = .int .i64 (sumB 0 2147483648 a k) ∧ u = .int .i64 (sumB 1 4096 b k)) (fun _ _ i _ => n - (intOf i).toNat)
  case atStart => exact ⟨0, _, rfl, by omega, w.past_refl, rfl, rfl⟩
  case round =>
    obtain ⟨k, x, rfl, hk, rfl, rfl, rfl⟩ := hrel
    by_cases hlt : k < n
    · obtain ⟨b1, o1, rfl, hc1⟩ := i64_at HA.out (show k < a.length by have := EA.out; omega)
      obtain ⟨b2, o2, rfl, hc2⟩ := i64_at HB.out (show k < b.length by have := EB.out; omega)
      have s1 := sumB_in (lo := 0) (hi := 2147483648) (by omega) (by omega) a k
      have s2 := sumB_in (lo := 1) (hi := 4096) (by omega) (by omega) b k
      have r1 := bring_in (atL a k) 0 2147483648 (by omega)
      have r2 := bring_in (atL b k) 1 4096 (by omega)
      have e1 : IntKind.i64.wrap (sumB 0 2147483648 a k + bringF (atL a k) 0 2147483648) = sumB 0 2147483648 a (k + 1) := by rw [IntKind.wrap_i64, sumB]; omega
      have e2 : IntKind.i64.wrap (sumB 1 4096 b k + bringF (atL b k) 1 4096) = sumB 1 4096 b (k + 1) := by rw [IntKind.wrap_i64, sumB]; omega
      clear s1 s2 r1 r2
      go_wp2_with ((go_at_call 15; refine (Bring_any _ _ _ _).mono ?_; rintro _ _ ⟨rfl, _, rfl⟩))
      go_roundw
      case rel => exact ⟨k + 1, _, by go_num, by omega, by first | rfl | trivial, rfl, rfl⟩
      case measure => simp [intOf]; omega
    · obtain rfl : k = n := by omega
      obtain ⟨b1, o1, rfl, hc1⟩ := i64_at HA.out (show q < a.length by have := EA.out; omega)
      obtain ⟨b2, o2, rfl, hc2⟩ := i64_at HB.out (show q < b.length by have := EB.out; omega)
      have s1 := sumB_in (lo := 0) (hi := 2147483648) (by omega) (by omega) a k
      have s2 := sumB_in (lo := 1) (hi := 4096) (by omega) (by omega) b k
      have r1 := bring_in (atL a q) 0 2147483648 (by omega)
      have r2 := bring_in (atL b q) 1 4096 (by omega)
      have hd := HD.out
      obtain ⟨T, eT⟩ : ∃ T, sumB 0 2147483648 a k = T := ⟨_, rfl⟩
      obtain ⟨S, eS⟩ : ∃ S, sumB 1 4096 b k = S := ⟨_, rfl⟩
      rw [eT] at s1 hd ⊢
      rw [eS] at s2 hd ⊢
      have p1 := prod_in (n := 262144) (x := bringF (atL a q) 0 2147483648) (y := S) (by omega) (by omega) (by omega)
      have p2 := prod_in (m := 4096) (n := 137438953472) (x := bringF (atL b q) 1 4096) (y := T) (by omega) (by omega) (by omega)
      have e1 : IntKind.i64.wrap (bringF (atL a q) 0 2147483648 * S) = bringF (atL a q) 0 2147483648 * S := by rw [IntKind.wrap_i64]; omega
      have e2 : IntKind.i64.wrap (bringF (atL b q) 1 4096 * T) = bringF (atL b q) 1 4096 * T := by rw [IntKind.wrap_i64]; omega
      have e3 : IntKind.i64.wrap (bringF (atL a q) 0 2147483648 * S - bringF (atL b q) 1 4096 * T) = bringF (atL a q) 0 2147483648 * S - bringF (atL b q) 1 4096 * T := by rw [IntKind.wrap_i64]; omega
      have hX : -1000000000000000 ≤ bringF (atL a q) 0 2147483648 * S - bringF (atL b q) 1 4096 * T ∧ bringF (atL a q) 0 2147483648 * S - bringF (atL b q) 1 4096 * T ≤ 1000000000000000 := by omega
      obtain ⟨X, eX⟩ : ∃ X, bringF (atL a q) 0 2147483648 * S - bringF (atL b q) 1 4096 * T = X := ⟨_, rfl⟩
      rw [eX] at e3 hX hd
      have e4 : IntKind.i64.wrap (0 - X) = 0 - X := by rw [IntKind.wrap_i64]; omega
      have e4' : IntKind.i64.wrap (-X) = -X := by rw [IntKind.wrap_i64]; omega
      have hres := HOF.out
      rw [hd] at hres
      have HRES := hid hres
      clear hres hd HOF HD p1 p2 s1 s2 eT eS
      by_cases hneg : X < 0
      · go_wp2_with fail
        refine wp_region_past (by kernel_rfl) (by kernel_rfl) ?_
        repeat (go_big_quiet_step ((first | (go_at_call 15; first | with_reducible exact Calls.in_past (Bring_any _ _ _ _) | with_reducible exact Calls.in_past2 (Bring_any _ _ _ _)) | (go_at_call 15; first | exact Calls.in_past (Bring_any _ _ _ _) | exact Calls.in_past2 (Bring_any _ _ _ _)))))
        refine wpQuiet_nil ?_
        rintro _ ⟨_, rfl⟩
        go_wp2_with fail
        go_ret
        refine Gives.mk (by rw [HRES.out, if_pos hneg]; try simp) ?_
        (repeat (first | exact Below.refl _ _ | refine RowKit.Below.past ?_ _ | refine RowKit.Below.alloc' ?_ _ | refine RowKit.Below.drew' ?_ | refine RowKit.Below.drewN' ?_ _ | refine RowKit.Below.setCell' ?_ (by simp [go_sem]) _))
      · go_wp2_with fail
        refine wp_region_past (by kernel_rfl) (by kernel_rfl) ?_
        repeat (go_big_quiet_step ((first | (go_at_call 15; first | with_reducible exact Calls.in_past (Bring_any _ _ _ _) | with_reducible exact Calls.in_past2 (Bring_any _ _ _ _)) | (go_at_call 15; first | exact Calls.in_past (Bring_any _ _ _ _) | exact Calls.in_past2 (Bring_any _ _ _ _)))))
        refine wpQuiet_nil ?_
        rintro _ ⟨_, rfl⟩
        go_wp2_with fail
        go_ret
        refine Gives.mk (by rw [HRES.out, if_neg (by omega)]; rfl) ?_
        (repeat (first | exact Below.refl _ _ | refine RowKit.Below.past ?_ _ | refine RowKit.Below.alloc' ?_ _ | refine RowKit.Below.drew' ?_ | refine RowKit.Below.drewN' ?_ _ | refine RowKit.Below.setCell' ?_ (by simp [go_sem]) _))
theorem off_in {a b : List Int} {n : Nat} (ea : a.length = n) (eb : b.length = n) (h64 : n ≤ 64) (i : Nat) : 0 ≤ offF a b i ∧ offF a b i ≤ 1000000000000000 := by
  have s1 := sumB_in (lo := 0) (hi := 2147483648) (by omega) (by omega) a n
  have s2 := sumB_in (lo := 1) (hi := 4096) (by omega) (by omega) b n
  have r1 := bring_in (atL a i) 0 2147483648 (by omega)
  have r2 := bring_in (atL b i) 1 4096 (by omega)
  have p1 := prod_in (n := 262144) (x := bringF (atL a i) 0 2147483648) (y := sumB 1 4096 b n) (by omega) (by omega) (by omega)
  have p2 := prod_in (m := 4096) (n := 137438953472) (x := bringF (atL b i) 1 4096) (y := sumB 0 2147483648 a n) (by omega) (by omega) (by omega)
  unfold offF diffF
  rw [ea, eb]
  split <;> omega
theorem sumB_ge (b : List Int) : ∀ k : Nat, (k : Int) ≤ sumB 1 4096 b k
  | 0 => by simp [sumB]
  | k + 1 => by
    have := sumB_ge b k
    have := bring_in (atL b k) 1 4096 (by omega)
    simp only [sumB]
    omega
def needF (x S : Int) : Int := if 0 < x % S then x / S + 1 else x / S
def worstK (a b : List Int) (S : Int) : Nat → Int
  | 0 => 0
  | k + 1 => if worstK a b S k < needF (offF a b k) S then needF (offF a b k) S else worstK a b S k
theorem need_le {x S c : Int} (hS : 0 < S) (h : x ≤ c * S) : needF x S ≤ c := by
  have h1 := Int.ediv_le_of_le_mul hS h
  unfold needF
  split
  · rename_i hp
    have hne : x ≠ c * S := by rintro rfl; simp at hp
    have := Int.ediv_lt_of_lt_mul hS (show x < c * S by omega)
    omega
  · exact h1
theorem worst_in {a b : List Int} {S c : Int} (hc : 0 ≤ c) (hS : 0 < S) : ∀ n : Nat, (∀ i, i < n → offF a b i ≤ c * S) → 0 ≤ worstK a b S n ∧ worstK a b S n ≤ c
  | 0, _ => by simp [worstK]; exact hc
  | n + 1, h => by
    have ih := worst_in hc hS n (fun i hi => h i (by omega))
    have h1 := need_le hS (h n (by omega))
    simp only [worstK]
    split <;> omega
theorem need_in {x S : Int} (hS : 0 < S) (h0 : 0 ≤ x) (h : x ≤ 1000000000000000) : 0 ≤ x / S ∧ x / S ≤ 1000000000000000 := ⟨Int.ediv_nonneg h0 (by omega), Int.le_trans (Int.ediv_le_self _ h0) h⟩
set_option maxRecDepth 100000 in
set_option maxHeartbeats 2000000 in
theorem Worst_any (A B : Option Addr) (ca cb n : Nat) (a b : List Int) (w : World) (ea : a.length = n) (eb : b.length = n) (h64 : n ≤ 64) (ha : Cells w A (i64s a)) (hb : Cells w B (i64s b)) :
    Calls Try.prog 30 #[.slice A n ca, .slice B n cb] w (Gives (.int .i64 (worstK a b (sumB 1 4096 b n) n)) w) := by
  have EA := hid ea
  have EB := hid eb
  have HA := hid ha
  have HB := hid hb
  have HOI := hid (fun i => off_in ea eb h64 i)
  have HOFF := hid (fun (x : Past) q hq => off_any A B ca cb n a b (w.past x) ea eb h64 (ha.past x) (hb.past x) q hq)
  have hSn := sumB_ge b n
  have hS2 := (sumB_in (lo := 1) (hi := 4096) (by omega) (by omega) b n).2
  have HSN := hid (And.intro hSn hS2)
  clear ea eb ha hb hSn hS2
  go_enter Try.func30, Try.ntmps30
  go_wp2
  go_loopw [5, 6] (fun t i wr => ∃ (k : Nat) (x : Past), i = .int .i64 k ∧ k ≤ n ∧ wr = w.past x ∧ t = .int .i64 (sumB 1 4096 b k)) (fun _ i _ => n - (intOf i).toNat)
  case atStart => exact ⟨0, _, rfl, by omega, w.past_refl, rfl⟩
  case round =>
    obtain ⟨k, x, rfl, hk, rfl, rfl⟩ := hrel
    by_cases hlt : k < n
    · obtain ⟨b2, o2, rfl, hc2⟩ := i64_at HB.out (show k < b.length by have := EB.out; omega)
      have s2 := sumB_in (lo := 1) (hi := 4096) (by omega) (by omega) b k
      have r2 := bring_in (atL b k) 1 4096 (by omega)
      have e2 : IntKind.i64.wrap (sumB 1 4096 b k + bringF (atL b k) 1 4096) = sumB 1 4096 b (k + 1) := by rw [IntKind.wrap_i64, sumB]; omega
      clear s2 r2
      go_wp2_with ((go_at_call 15; refine (Bring_any _ _ _ _).mono ?_; rintro _ _ ⟨rfl, _, rfl⟩))
      go_roundw
      case rel => exact ⟨k + 1, _, by go_num, by omega, by first | rfl | trivial, rfl⟩
      case measure => simp [intOf]; omega
    · obtain rfl : k = n := by omega
      obtain ⟨S, eS⟩ : ∃ S, sumB 1 4096 b k = S := ⟨_, rfl⟩
      rw [eS] at HSN ⊢
      have HES := hid eS
      clear eS
      go_wp2_with fail
      go_loopw [7, 8] (fun v i wr => ∃ (j : Nat) (x : Past), i = .int .i64 j ∧ j ≤ k ∧ wr = w.past x ∧ v = .int .i64 (worstK a b S j)) (fun _ i _ => k - (intOf i).toNat)
      case atStart => exact ⟨0, x, rfl, by omega, rfl, rfl⟩
      case round =>
        obtain ⟨j, x, rfl, hj, rfl, rfl⟩ := hrel
        by_cases hlt2 : j < k
        · have hst : worstK a b S (j + 1) = if worstK a b S j < needF (offF a b j) S then needF (offF a b j) S else worstK a b S j := rfl
          have hO := HOFF.out x j hlt2
          have hoi := HOI.out j
          obtain ⟨o, eo⟩ : ∃ o, offF a b j = o := ⟨_, rfl⟩
          rw [eo] at hO hst hoi
          have hS0 : 0 < S := by have := HSN.out; omega
          have hne : ¬ S = 0 := by omega
          have hq := need_in hS0 hoi.1 hoi.2
          have t1 : Int.tdiv o S = o / S := Int.tdiv_eq_ediv_of_nonneg hoi.1
          have t2 : Int.tmod o S = o % S := Int.tmod_eq_emod_of_nonneg hoi.1
          have hm1 := Int.emod_nonneg o hne
          have hm2 := Int.emod_lt_of_pos o hS0
          have hS9 : S ≤ 262144 := by have := HSN.out; omega
          unfold needF at hst
          obtain ⟨d, ed⟩ : ∃ d, o / S = d := ⟨_, rfl⟩
          obtain ⟨r, er⟩ : ∃ r, o % S = r := ⟨_, rfl⟩
          obtain ⟨v, ev⟩ : ∃ v, worstK a b S j = v := ⟨_, rfl⟩
          rw [ed] at t1 hq hst
          rw [er] at t2 hst hm1 hm2
          rw [ev] at hst ⊢
          have w1 : IntKind.i64.wrap d = d := by rw [IntKind.wrap_i64]; omega
          have w2 : IntKind.i64.wrap r = r := by rw [IntKind.wrap_i64]; omega
          have w3 : IntKind.i64.wrap (d + 1) = d + 1 := by rw [IntKind.wrap_i64]; omega
          have HO := hid hO
          have HST := hid hst
          clear hO hst eo ed er ev
          by_cases hr : 0 < r
          · by_cases hv : v < d + 1
            · go_wp2_with (go_at_call 42; refine HO.out.mono ?_; rintro _ _ ⟨rfl, x9, rfl⟩)
              go_roundw
              case rel => exact ⟨j + 1, _, by go_num, by omega, by first | rfl | trivial, by rw [HST.out]; congr 1; (repeat' split) <;> omega⟩
              case measure => simp [intOf]; omega
            · go_wp2_with (go_at_call 42; refine HO.out.mono ?_; rintro _ _ ⟨rfl, x9, rfl⟩)
              go_roundw
              case rel => exact ⟨j + 1, _, by go_num, by omega, by first | rfl | trivial, by rw [HST.out]; congr 1; (repeat' split) <;> omega⟩
              case measure => simp [intOf]; omega
          · by_cases hv : v < d
            · go_wp2_with (go_at_call 42; refine HO.out.mono ?_; rintro _ _ ⟨rfl, x9, rfl⟩)
              go_roundw
              case rel => exact ⟨j + 1, _, by go_num, by omega, by first | rfl | trivial, by rw [HST.out]; congr 1; (repeat' split) <;> omega⟩
              case measure => simp [intOf]; omega
            · go_wp2_with (go_at_call 42; refine HO.out.mono ?_; rintro _ _ ⟨rfl, x9, rfl⟩)
              go_roundw
              case rel => exact ⟨j + 1, _, by go_num, by omega, by first | rfl | trivial, by rw [HST.out]; congr 1; (repeat' split) <;> omega⟩
              case measure => simp [intOf]; omega
        · obtain rfl : j = k := by omega
          go_wp2_with fail
          go_ret
          refine Gives.mk (by rw [HES.out]; rfl) ?_
          (repeat (first | exact Below.refl _ _ | refine RowKit.Below.past ?_ _ | refine RowKit.Below.alloc' ?_ _ | refine RowKit.Below.drew' ?_ | refine RowKit.Below.drewN' ?_ _ | refine RowKit.Below.setCell' ?_ (by simp [go_sem]) _))
set_option maxRecDepth 100000 in
set_option maxHeartbeats 2000000 in
theorem RFair_true (A B : Option Addr) (ca cb n : Nat) (a b : List Int) (t : Int) (w : World) (ea : a.length = n) (eb : b.length = n) (h0 : 0 < n) (h64 : n ≤ 64) (ha : Cells w A (i64s a)) (hb : Cells w B (i64s b)) (ht : 0 ≤ t ∧ t ≤ 2147483648) (h : ∀ i, i < n → offF a b i ≤ t * sumB 1 4096 b n) :
    Calls Try.prog 12 #[.slice A n ca, .slice B n cb, .int .i64 t] w (Gives (.bool true) w) := by
  have hw := worst_in ht.1 (show 0 < sumB 1 4096 b n by have := sumB_ge b n; omega) n h
  have hW := Worst_any A B ca cb n a b w ea eb h64 ha hb
  obtain ⟨W, eW⟩ : ∃ W, worstK a b (sumB 1 4096 b n) n = W := ⟨_, rfl⟩
  rw [eW] at hW hw
  have hBt : bringF t 0 2147483648 = t := by unfold bringF; rw [if_neg (by omega), if_neg (by omega)]
  have HW := hid hW
  have HBT := hid (hBt ▸ fun w' => Bring_any t 0 2147483648 w')
  obtain ⟨g1, g2⟩ := hw
  clear ha hb h hW eW ea eb hBt
  go_enter Try.func12, Try.ntmps12
  go_wp2_with (first | (go_at_call 30; refine HW.out.mono ?_; rintro _ _ ⟨rfl, x1, rfl⟩) | (go_at_call 15; refine (HBT.out _).mono ?_; rintro _ _ ⟨rfl, x2, rfl⟩))
  go_ret
  refine Gives.mk rfl ?_
  (repeat (first | exact Below.refl _ _ | refine RowKit.Below.past ?_ _ | refine RowKit.Below.alloc' ?_ _ | refine RowKit.Below.drew' ?_ | refine RowKit.Below.drewN' ?_ _ | refine RowKit.Below.setCell' ?_ (by simp [go_sem]) _))
end Go.Proofs.Ytjhjkchcjpijaaa
