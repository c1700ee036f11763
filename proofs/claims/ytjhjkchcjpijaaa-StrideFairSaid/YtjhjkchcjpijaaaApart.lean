/-
  Layer 37: how far apart the two are, and what is awake. No condition.
-/
import Derived.Test.YtjhjkchcjpijaaaIdeal
import Derived.BigRegion
namespace Go.Proofs.Ytjhjkchcjpijaaa
open Go Go.RowKit HpI
def apK (a b : List Int) : Nat → Int
  | 0 => 0
  | k + 1 => max (max (apK a b k) (atL a k - atL b k)) (atL b k - atL a k)
theorem shares_length (l : List Int) (t : Int) : (sharesF l t).length = (bringW l).length := by simp [sharesF, cntL_length]
theorem shares_in (l : List Int) (t : Int) (k : Nat) : 0 ≤ atL (sharesF l t) k ∧ atL (sharesF l t) k ≤ 4096 := by
  have h1 := cntL_le (bringW l).length (firstF l t) k
  have h2 := firstF_length l t
  unfold sharesF
  omega
theorem ideal_in (l : List Int) (t : Int) (k : Nat) : 0 ≤ atL (idealF l t) k ∧ atL (idealF l t) k ≤ 16777216 := by
  by_cases h : k < (bringW l).length
  · have hx := bringW_at h
    obtain ⟨cn, ecn, hcn, _⟩ := clampN_case t
    have e : atL (idealF l t) k = (cn : Int) * atL (bringW l) k / sumT (bringW l) (bringW l).length := by
      simp [idealF, atL, ecn, List.getElem?_eq_getElem h]
    have hs := sumT_in (l := l) (bringW l).length (Nat.le_refl _)
    have hmul := mul_le_4096 (a := (cn : Int)) (b := atL (bringW l) k) (by omega) (by omega)
    rw [e]
    exact ⟨Int.ediv_nonneg hmul.1 (by omega), Int.le_trans (Int.ediv_le_self _ hmul.1) hmul.2⟩
  · have : atL (idealF l t) k = 0 := by
      unfold atL
      rw [List.getElem?_eq_none (by rw [ideal_length]; omega)]
      rfl
    rw [this]
    omega
theorem apK_in {a b : List Int} (ha : ∀ k, 0 ≤ atL a k ∧ atL a k ≤ 4096) (hb : ∀ k, 0 ≤ atL b k ∧ atL b k ≤ 16777216) : ∀ k, 0 ≤ apK a b k ∧ apK a b k ≤ 16777216
  | 0 => by simp [apK]
  | k + 1 => by
    have h1 := apK_in ha hb k
    have h2 := ha k
    have h3 := hb k
    simp only [apK]
    omega
set_option maxRecDepth 100000 in
set_option maxHeartbeats 4000000 in
theorem SApart_any (A : Option Addr) (n ca : Nat) (l : List Int) (en : l.length = n) (hca : n ≤ ca) (hmx : n ≤ maxLen) (w : World) (hc : Cells w A (i64s l)) (t : Int) :
    Calls Try.prog 13 #[.slice A n ca, .int .i64 t] w (Gives (.int .i64 (apK (sharesF l t) (idealF l t) (bringW l).length)) w) := by
  have hS := Shares_any A n ca l en hca hmx w hc t
  have HI := hid (fun w' (h : Cells w' A (i64s l)) => ideal_length l t ▸ Ideal_any A n ca l en hca hmx w' h t)
  rw [shares_length] at hS
  have HS := hid hS
  have HC := hid hc
  have HAI := hid (shares_in l t)
  have HBI := hid (ideal_in l t)
  have hal := shares_length l t
  have hbl := ideal_length l t
  have hm16 := bringW_le l
  obtain ⟨m, em⟩ : ∃ m, (bringW l).length = m := ⟨_, rfl⟩
  rw [em] at HS HI hal hbl hm16 ⊢
  obtain ⟨a, ea⟩ : ∃ a, sharesF l t = a := ⟨_, rfl⟩
  obtain ⟨b, eb⟩ : ∃ b, idealF l t = b := ⟨_, rfl⟩
  rw [ea] at HS HAI hal ⊢
  rw [eb] at HI HBI hbl ⊢
  have HAL := hid hal
  have HBL := hid hbl
  clear hS hc en hca hmx em ea eb hal hbl
  go_enter Try.func13, Try.ntmps13
  go_upto_region 4 with (first | (go_at_call 10; refine HS.out.mono ?_; rintro _ w1 ⟨A0, c0, rfl, hb1, ho1⟩; obtain ⟨x0, rfl⟩ := past_of hb1; have HO1 := hid ho1; clear hb1 ho1) | (go_at_call 31; refine (HI.out _ (HC.out.past x0)).mono ?_; rintro _ w1 ⟨A1, c1, rfl, hb1, ho1⟩; obtain ⟨x1, rfl⟩ := past_of hb1; have HO2 := hid (Cells.of_own ho1); have HO1 := hid (Cells.of_own (own_past HO1.out x1)); clear hb1 ho1))
  obtain ⟨w5, ew5⟩ : ∃ w5, w5 = (w.past x0).past x1 := ⟨_, rfl⟩
  have HB := hid (show Below w.heap.size w w5 by rw [ew5, World.past_past]; exact w.below_past _)
  rw [World.past_past] at ew5
  rw [← ew5]
  have HO1 : Hid (Cells w5 A0 (i64s a)) := hid (by rw [ew5, ← World.past_past]; exact HO1.out)
  have HO2 : Hid (Cells w5 A1 (i64s b)) := hid (by rw [ew5, ← World.past_past]; exact HO2.out)
  clear ew5
  go_loopw [7, 8, 17] (fun s _ i wr => ∃ (k : Nat) (x : Past), i = .int .i64 k ∧ k ≤ m ∧ s = .int .i64 (apK a b k) ∧ wr = w5.past x) (fun _ _ i _ => m - natC i)
  case atStart => exact ⟨0, ⟨#[], w5.drawn⟩, rfl, by omega, rfl, World.past_refl w5⟩
  case round =>
    obtain ⟨k, x, rfl, hk, rfl, rfl⟩ := hrel
    by_cases hlt : k < m
    · obtain ⟨g1, o1, rfl, k1⟩ := i64_at HO1.out (k := k) (by rw [HAL.out]; exact hlt)
      obtain ⟨g2, o2, rfl, k2⟩ := i64_at HO2.out (k := k) (by rw [HBL.out]; exact hlt)
      have hx := HAI.out k
      have hy := HBI.out k
      have hp := apK_in HAI.out HBI.out k
      have hst : apK a b (k + 1) = max (max (apK a b k) (atL a k - atL b k)) (atL b k - atL a k) := rfl
      obtain ⟨u, eu⟩ : ∃ u, atL a k = u := ⟨_, rfl⟩
      obtain ⟨v, ev⟩ : ∃ v, atL b k = v := ⟨_, rfl⟩
      obtain ⟨s, es⟩ : ∃ s, apK a b k = s := ⟨_, rfl⟩
      rw [eu] at k1 hx hst
      rw [ev] at k2 hy hst
      rw [es] at hp hst ⊢
      have HST := hid hst
      have w1 : IntKind.i64.wrap (u - v) = u - v := by rw [IntKind.wrap_i64]; omega
      have w2 : IntKind.i64.wrap (v - u) = v - u := by rw [IntKind.wrap_i64]; omega
      clear hst eu ev es
      go_wp2_with fail
      refine wp_region_past (by kernel_rfl) (by kernel_rfl) ?_
      repeat (go_big_quiet_step ((first | (go_at_call 9; first | with_reducible exact Calls.in_past (True) | with_reducible exact Calls.in_past2 (True)) | (go_at_call 9; first | exact Calls.in_past (True) | exact Calls.in_past2 (True)))))
      refine wpQuiet_nil ?_
      rintro _ ⟨_, rfl⟩
      go_wp2_with fail
      go_roundw
      case rel => exact ⟨k + 1, _, by go_num, by omega, by rw [HST.out]; congr 1; (repeat' split) <;> omega, by first | rfl | trivial⟩
      case measure => simp [natC]; omega
    · obtain rfl : k = m := by omega
      go_wp2_with fail
      go_ret
      exact Gives.mk rfl (HB.out.trans ((w5.below_past x).mono HB.out.size))
end Go.Proofs.Ytjhjkchcjpijaaa
