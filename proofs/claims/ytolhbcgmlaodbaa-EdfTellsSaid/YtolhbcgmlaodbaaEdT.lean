/-
  Layer 42: who has the tick, by the document. No condition.
-/
import Derived.Test.YtolhbcgmlaodbaaEdA
import Derived.Deep.CutRange
import Derived.StillTailTactics
import Derived.Test.YtolhbcgmlaodbaaEdQ
namespace Go.Proofs.Ytolhbcgmlaodbaa
open Go.RowKit
theorem farE_in (t : Int) : 0 ≤ farE t ∧ farE t ≤ 100000 := by unfold farE; omega
theorem far_cases (t : Int) : (t < 0 ∧ farE t = 0) ∨ (¬ t < 0 ∧ ¬ 100000 < t ∧ farE t = t) ∨ (¬ t < 0 ∧ 100000 < t ∧ farE t = 100000) := by unfold farE; omega
def bringF (n lo hi : Int) : Int := if n < lo then lo else if hi < n then hi else n
set_option maxHeartbeats 400000 in
theorem Bring_any (n lo hi : Int) (w : World) :
    Calls Try.prog 16 #[.int .i64 n, .int .i64 lo, .int .i64 hi] w (Gives (.int .i64 (bringF n lo hi)) w) := by
  rcases dec_cases (n < lo) with h | h
  · go_enter Try.func16, Try.ntmps16
    go_wp2
    go_ret
    exact Gives.refl (by simp at h; simp [bringF, h])
  · rcases dec_cases (hi < n) with h2 | h2
    all_goals
      go_enter Try.func16, Try.ntmps16
      go_wp2
      go_ret
      exact Gives.refl (by simp at h h2; simp [bringF, Int.not_lt.2 h, h2]; try omega)
theorem bring_far (t : Int) : bringF t 0 100000 = farE t := by unfold bringF farE; omega
theorem wks_ok {l : List Wk} (h : mayF l = true) : l.length ≤ 6 ∧ ∀ x ∈ l, WkOk x := (mayF_iff l).1 h
set_option maxHeartbeats 1000000 in
theorem Demand_any (A : Option Addr) (ca n : Nat) (l : List Wk) (en : l.length = n) (hm : mayF l = true) (t : Int) (w : World) (ha : Cells w A (tab wkV l)) :
    Calls Try.prog 13 #[.slice A n ca, .int .i64 t] w (Gives (.int .i64 (demE l (farE t))) w) := by
  have HMAY := hid (May_any A ca n l en w ha)
  rw [hm] at HMAY
  obtain ⟨h6, hok⟩ := wks_ok hm
  rw [en] at h6
  have HA := hid ha
  have EN := hid en
  have HOK := hid hok
  obtain ⟨u, eu⟩ : ∃ u, farE t = u := ⟨_, rfl⟩
  have hu := farE_in t
  rw [eu] at hu ⊢
  have EU := hid eu
  clear ha en hm hok eu
  go_enter Try.func13, Try.ntmps13
  go_upto_region 5 with (go_at_call 11; refine HMAY.out.mono ?_; rintro _ _ ⟨rfl, x1, rfl⟩)
  go_loopw [5, 7, 13] (fun v _ i wr => ∃ (k : Nat) (x : Past), v = .int .i64 (demK l u k) ∧ i = .int .i64 (k : Int) ∧ k ≤ n ∧ wr = w.past x) (fun _ _ i _ => n - (intOf i).toNat)
  case atStart => exact ⟨0, _, rfl, rfl, by omega, rfl⟩
  case round =>
    obtain ⟨k, x, rfl, rfl, hk, rfl⟩ := hrel
    by_cases hlt : k < n
    · obtain ⟨g, o, rfl, c0, c1, c2⟩ := wk_at (HA.out.past x) (show k < l.length by rw [EN.out]; exact hlt)
      have hxk := wk_ok HOK.out k
      have hb := demK_in HOK.out (show u ≤ 100000 by omega) k
      have hb2 := needE_in hxk (show u ≤ 100000 by omega)
      have HNE := hid (fun W => need_any (wk l k) hxk u hu.1 hu.2 W)
      have HS := hid (show demK l u (k + 1) = demK l u k + needE (wk l k) u from rfl)
      obtain ⟨y, ey⟩ : ∃ y, wk l k = y := ⟨_, rfl⟩
      rw [ey] at c0 c1 c2 HNE HS hb2
      obtain ⟨c, p, d⟩ := y
      obtain ⟨z, ez⟩ : ∃ z, needE ⟨c, p, d⟩ u = z := ⟨_, rfl⟩
      rw [ez] at HNE HS hb2
      simp only at c0 c1 c2 HNE
      have e1 : IntKind.i64.wrap (demK l u k + z) = demK l u k + z := by rw [IntKind.wrap_i64]; omega
      have hcs := far_cases t
      rw [EU.out] at hcs
      clear ey ez hxk hb hb2
      rcases hcs with ⟨h1, h2⟩ | ⟨h1, h2, h3⟩ | ⟨h1, h2, h3⟩
      · subst h2
        go_wp2_with (go_at_call 27; refine (HNE.out _).mono ?_; rintro _ _ ⟨rfl, x2, rfl⟩)
        obtain ⟨x3, hx3⟩ := past_of (show Below w.heap.size w (((w.past x).alloc (.cells #[.int .i64 c, .int .i64 p, .int .i64 d] 37)).past x2) by (repeat (first | exact Below.refl _ _ | refine RowKit.Below.past ?_ _ | refine RowKit.Below.alloc' ?_ _ | refine RowKit.Below.drew' ?_ | refine RowKit.Below.drewN' ?_ _ | refine RowKit.Below.setCell' ?_ (by simp [go_sem]) _)))
        go_roundw
        case rel => exact ⟨k + 1, x3, by rw [HS.out], by go_num, by omega, hx3⟩
        case measure => simp [intOf]; omega
      · subst h3
        go_wp2_with (go_at_call 27; refine (HNE.out _).mono ?_; rintro _ _ ⟨rfl, x2, rfl⟩)
        obtain ⟨x3, hx3⟩ := past_of (show Below w.heap.size w (((w.past x).alloc (.cells #[.int .i64 c, .int .i64 p, .int .i64 d] 37)).past x2) by (repeat (first | exact Below.refl _ _ | refine RowKit.Below.past ?_ _ | refine RowKit.Below.alloc' ?_ _ | refine RowKit.Below.drew' ?_ | refine RowKit.Below.drewN' ?_ _ | refine RowKit.Below.setCell' ?_ (by simp [go_sem]) _)))
        go_roundw
        case rel => exact ⟨k + 1, x3, by rw [HS.out], by go_num, by omega, hx3⟩
        case measure => simp [intOf]; omega
      · subst h3
        go_wp2_with (go_at_call 27; refine (HNE.out _).mono ?_; rintro _ _ ⟨rfl, x2, rfl⟩)
        obtain ⟨x3, hx3⟩ := past_of (show Below w.heap.size w (((w.past x).alloc (.cells #[.int .i64 c, .int .i64 p, .int .i64 d] 37)).past x2) by (repeat (first | exact Below.refl _ _ | refine RowKit.Below.past ?_ _ | refine RowKit.Below.alloc' ?_ _ | refine RowKit.Below.drew' ?_ | refine RowKit.Below.drewN' ?_ _ | refine RowKit.Below.setCell' ?_ (by simp [go_sem]) _)))
        go_roundw
        case rel => exact ⟨k + 1, x3, by rw [HS.out], by go_num, by omega, hx3⟩
        case measure => simp [intOf]; omega
    · obtain rfl : k = n := by omega
      have HE := hid (show demK l u k = demE l u by unfold demE; rw [EN.out])
      go_wp2_with fail
      go_ret
      refine Gives.mk (by rw [← HE.out]; rfl) (by (repeat (first | exact Below.refl _ _ | refine RowKit.Below.past ?_ _ | refine RowKit.Below.alloc' ?_ _ | refine RowKit.Below.drew' ?_ | refine RowKit.Below.drewN' ?_ _ | refine RowKit.Below.setCell' ?_ (by simp [go_sem]) _)))
theorem DemandN_any (A : Option Addr) (ca n : Nat) (l : List Wk) (en : l.length = n) (hm : mayF l = false) (t : Int) (w : World) (ha : Cells w A (tab wkV l)) :
    Calls Try.prog 13 #[.slice A n ca, .int .i64 t] w (Gives (.int .i64 0) w) := by
  have HMAY := hid (May_any A ca n l en w ha)
  rw [hm] at HMAY
  clear ha hm
  go_enter Try.func13, Try.ntmps13
  go_wp2_with (go_at_call 11; refine HMAY.out.mono ?_; rintro _ _ ⟨rfl, x1, rfl⟩)
  go_ret
  exact Gives.mk rfl (by (repeat (first | exact Below.refl _ _ | refine RowKit.Below.past ?_ _ | refine RowKit.Below.alloc' ?_ _ | refine RowKit.Below.drew' ?_ | refine RowKit.Below.drewN' ?_ _ | refine RowKit.Below.setCell' ?_ (by simp [go_sem]) _)))
theorem demE_in {l : List Wk} (h : ∀ x ∈ l, WkOk x) (h6 : l.length ≤ 6) {t : Int} (ht : t ≤ 100000) : 0 ≤ demE l t ∧ demE l t ≤ 60000000 := by
  have := demK_in h ht l.length
  unfold demE; omega
theorem farE_id {t : Int} (h : 0 ≤ t) (h2 : t ≤ 100000) : farE t = t := by unfold farE; omega
set_option maxHeartbeats 1000000 in
theorem Fits_any (A : Option Addr) (ca n : Nat) (l : List Wk) (en : l.length = n) (hm : mayF l = true) (t : Int) (w : World) (ha : Cells w A (tab wkV l)) :
    Calls Try.prog 9 #[.slice A n ca, .int .i64 t] w (Gives (.tuple #[.int .i64 (fitsN l (farE t).toNat : Nat), .bool (decide (fitsN l (farE t).toNat = 0))]) w) := by
  have HMAY := hid (May_any A ca n l en w ha)
  rw [hm] at HMAY
  have HM := hid hm
  obtain ⟨h6, hok⟩ := wks_ok hm
  have HA := hid ha
  have EN := hid en
  have HOK := hid hok
  obtain ⟨u, eu⟩ : ∃ u, (farE t).toNat = u := ⟨_, rfl⟩
  have hu := farE_in t
  have hcs := far_cases t
  have hu2 : (u : Int) = farE t := by omega
  rw [eu]
  rw [← hu2] at hcs hu
  have HCS := hid hcs
  have H6 := hid h6
  clear ha en hm hok eu hu2 hcs h6
  go_enter Try.func9, Try.ntmps9
  go_upto_region 4 with (go_at_call 11; refine HMAY.out.mono ?_; rintro _ _ ⟨rfl, x1, rfl⟩)
  go_loopw [6] (fun i wr => ∃ (k : Nat) (x : Past), i = .int .i64 (k : Int) ∧ 1 ≤ k ∧ k ≤ u + 1 ∧ wr = w.past x ∧ Hid (∀ j : Nat, 1 ≤ j → j < k → demE l j ≤ j)) (fun i _ => u + 1 - (intOf i).toNat)
  case atStart => exact ⟨1, _, rfl, Nat.le_refl _, by omega, rfl, hid (fun j a b => by omega)⟩
  case round =>
    obtain ⟨k, x, rfl, hk1, hk, rfl, HJ⟩ := hrel
    have e1 : IntKind.i64.wrap ((k : Int) + 1) = (k : Int) + 1 := by rw [IntKind.wrap_i64]; omega
    by_cases hlt : k ≤ u
    · have HDE := hid (Demand_any A ca n l EN.out HM.out (k : Int) (w.past x) (HA.out.past x))
      rw [farE_id (by omega) (by omega)] at HDE
      have hle : (k : Int) ≤ (if 100000 < t then 100000 else t) := by
        rcases HCS.out with ⟨a, b⟩ | ⟨a, b, c⟩ | ⟨a, b, c⟩ <;> omega
      by_cases hd : (k : Int) < demE l k
      · have HF := hid (fitsN_at hk1 hlt hd HJ.out)
        obtain ⟨v, ev⟩ : ∃ v, demE l k = v := ⟨_, rfl⟩
        rw [ev] at HDE hd
        clear ev
        rcases Int.lt_or_le 100000 t with h | h
        all_goals
          go_wp2_with (go_at_call 13; refine HDE.out.mono ?_; rintro _ _ ⟨rfl, x2, rfl⟩)
          go_ret2
          refine Gives.mk ?_ (by (repeat (first | exact Below.refl _ _ | refine RowKit.Below.past ?_ _ | refine RowKit.Below.alloc' ?_ _ | refine RowKit.Below.drew' ?_ | refine RowKit.Below.drewN' ?_ _ | refine RowKit.Below.setCell' ?_ (by simp [go_sem]) _)))
          rw [HF.out, decide_eq_false (show ¬ k = 0 by omega)]; rfl
      · have HJ2 := hid (show ∀ j : Nat, 1 ≤ j → j < k + 1 → demE l j ≤ j from fun j a b => by
          by_cases e : j = k
          · subst e; omega
          · exact HJ.out j a (by omega))
        obtain ⟨v, ev⟩ : ∃ v, demE l k = v := ⟨_, rfl⟩
        rw [ev] at HDE hd
        clear ev
        rcases Int.lt_or_le 100000 t with h | h
        all_goals
          go_wp2_with (go_at_call 13; refine HDE.out.mono ?_; rintro _ _ ⟨rfl, x2, rfl⟩)
          go_roundw
          case rel => exact ⟨k + 1, _, by go_num, by omega, by omega, rfl, HJ2⟩
          case measure => simp [intOf]; omega
    · obtain rfl : k = u + 1 := by omega
      have HF := hid (fitsN_zero (l := l) (u := u) (fun j a b => HJ.out j a (by omega)))
      have HCC := HCS.out
      obtain ⟨j, ej⟩ : ∃ j, u + 1 = j := ⟨_, rfl⟩
      have hju : (j : Int) = u + 1 := by omega
      rw [ej] at e1 ⊢
      clear hlt hk hk1 HJ
      rcases HCC with ⟨h, h2⟩ | ⟨h, h1, h2⟩ | ⟨h, h1, h2⟩
      · have h3 : ¬ 100000 < t := by omega
        have h4 : ¬ (j : Int) ≤ t := by omega
        clear ej hju h2
        go_wp2_with fail
        go_ret2
        exact Gives.mk (by rw [HF.out]; rfl) (by (repeat (first | exact Below.refl _ _ | refine RowKit.Below.past ?_ _ | refine RowKit.Below.alloc' ?_ _ | refine RowKit.Below.drew' ?_ | refine RowKit.Below.drewN' ?_ _ | refine RowKit.Below.setCell' ?_ (by simp [go_sem]) _)))
      · have h4 : ¬ (j : Int) ≤ t := by omega
        clear ej hju h2
        go_wp2_with fail
        go_ret2
        exact Gives.mk (by rw [HF.out]; rfl) (by (repeat (first | exact Below.refl _ _ | refine RowKit.Below.past ?_ _ | refine RowKit.Below.alloc' ?_ _ | refine RowKit.Below.drew' ?_ | refine RowKit.Below.drewN' ?_ _ | refine RowKit.Below.setCell' ?_ (by simp [go_sem]) _)))
      · have h4 : ¬ (j : Int) ≤ 100000 := by omega
        clear ej hju h2
        go_wp2_with fail
        go_ret2
        exact Gives.mk (by rw [HF.out]; rfl) (by (repeat (first | exact Below.refl _ _ | refine RowKit.Below.past ?_ _ | refine RowKit.Below.alloc' ?_ _ | refine RowKit.Below.drew' ?_ | refine RowKit.Below.drewN' ?_ _ | refine RowKit.Below.setCell' ?_ (by simp [go_sem]) _)))
theorem FitsN_any (A : Option Addr) (ca n : Nat) (l : List Wk) (en : l.length = n) (hm : mayF l = false) (t : Int) (w : World) (ha : Cells w A (tab wkV l)) :
    Calls Try.prog 9 #[.slice A n ca, .int .i64 t] w (Gives (.tuple #[.int .i64 0, .bool false]) w) := by
  have HMAY := hid (May_any A ca n l en w ha)
  rw [hm] at HMAY
  clear ha hm
  go_enter Try.func9, Try.ntmps9
  go_wp2_with (go_at_call 11; refine HMAY.out.mono ?_; rintro _ _ ⟨rfl, x1, rfl⟩)
  go_ret2
  exact Gives.mk rfl (by (repeat (first | exact Below.refl _ _ | refine RowKit.Below.past ?_ _ | refine RowKit.Below.alloc' ?_ _ | refine RowKit.Below.drew' ?_ | refine RowKit.Below.drewN' ?_ _ | refine RowKit.Below.setCell' ?_ (by simp [go_sem]) _)))
end Go.Proofs.Ytolhbcgmlaodbaa
namespace Go.Proofs.Ytolhbcgmlaodbaa
open Go.RowKit
/-- How many come and are due up to a time: as often as it goes round. -/
theorem round_cnt {x : Wk} (h : WkOk x) {t : Int} {m : Nat} (h1 : (m : Int) * x.p + x.d ≤ t) : ((m : Int) + 1) * x.c ≤ needE x t := by
  obtain ⟨⟨c0, c1⟩, ⟨p0, p1⟩, ⟨d0, d1⟩⟩ := h
  have h0 : 0 ≤ (m : Int) * x.p := Int.mul_nonneg (by omega) (by omega)
  rw [needE, if_neg (by omega)]
  refine Int.mul_le_mul_of_nonneg_right ?_ (by omega)
  have : (m : Int) ≤ (t - x.d) / x.p := Int.le_ediv_of_mul_le (by omega) (by omega)
  omega
theorem round_end {x : Wk} (h : WkOk x) {t : Int} {m : Nat} (h1 : ¬ (m : Int) * x.p + x.d ≤ t) (h2 : ∀ j : Nat, j < m → (j : Int) * x.p + x.d ≤ t) : (m : Int) * x.c = needE x t := by
  obtain ⟨⟨c0, c1⟩, ⟨p0, p1⟩, ⟨d0, d1⟩⟩ := h
  unfold needE
  by_cases ht : t < x.d
  · rw [if_pos ht]
    have : m = 0 := by
      rcases Nat.eq_zero_or_pos m with e | e
      · exact e
      · have := h2 0 e; simp at this; omega
    subst this; simp
  · rw [if_neg ht]
    have e : (t - x.d) / x.p + 1 = m := by
      have hm : 1 ≤ m := by
        rcases Nat.eq_zero_or_pos m with e | e
        · subst e; simp at h1; omega
        · exact e
      have a := h2 (m - 1) (by omega)
      have b : ((m - 1 : Nat) : Int) ≤ (t - x.d) / x.p := Int.le_ediv_of_mul_le (by omega) (by omega)
      have c : (t - x.d) / x.p < m := Int.ediv_lt_of_lt_mul (by omega) (by omega)
      omega
    rw [e]
theorem needE_ge {x : Wk} (h : WkOk x) {t : Int} {m : Nat} (h2 : ∀ j : Nat, j < m → (j : Int) * x.p + x.d ≤ t) (ht : t ≤ 100000) : (m : Int) * x.c ≤ 10000000 ∧ (m : Int) ≤ 100000 ∧ (m : Int) * x.p ≤ 101000 := by
  obtain ⟨⟨c0, c1⟩, ⟨p0, p1⟩, ⟨d0, d1⟩⟩ := id h
  rcases Nat.eq_zero_or_pos m with e | e
  · subst e; simp
  · have a := h2 (m - 1) (by omega)
    have b := round_cnt h a
    have c := (needE_in h ht).2
    have e1 : ((m - 1 : Nat) : Int) + 1 = m := by omega
    rw [e1] at b
    have hp : (m : Int) * x.p = ((m - 1 : Nat) : Int) * x.p + x.p := by rw [← e1, Int.add_mul, Int.one_mul]
    have h3 : ((m - 1 : Nat) : Int) * 1 ≤ ((m - 1 : Nat) : Int) * x.p := Int.mul_le_mul_of_nonneg_left p0 (by omega)
    omega
set_option maxHeartbeats 1000000 in
theorem RDemand_any (A : Option Addr) (ca n : Nat) (l : List Wk) (en : l.length = n) (hm : mayF l = true) (t : Int) (ht : t ≤ 100000) (w : World) (ha : Cells w A (tab wkV l)) :
    Calls Try.prog 15 #[.slice A n ca, .int .i64 t] w (Gives (.int .i64 (demE l t)) w) := by
  obtain ⟨h6, hok⟩ := wks_ok hm
  rw [en] at h6
  have HA := hid ha
  have EN := hid en
  have HOK := hid hok
  clear ha en hm hok
  go_enter Try.func15, Try.ntmps15
  go_wp2_with fail
  go_loopw [5, 6, 7] (fun v i _ wr => ∃ (k : Nat) (x : Past), v = .int .i64 (demK l t k) ∧ i = .int .i64 (k : Int) ∧ k ≤ n ∧ wr = w.past x) (fun _ i _ _ => n - (intOf i).toNat)
  case atStart => exact ⟨0, _, rfl, rfl, by omega, World.past_refl w⟩
  case round =>
    obtain ⟨k, x, rfl, rfl, hk, rfl⟩ := hrel
    by_cases hlt : k < n
    · obtain ⟨g, o, rfl, c0, c1, c2⟩ := wk_at (HA.out.past x) (show k < l.length by rw [EN.out]; exact hlt)
      have hxk := wk_ok HOK.out k
      have hb := demK_in HOK.out ht k
      have HB := hid hb
      have HS := hid (show demK l t (k + 1) = demK l t k + needE (wk l k) t from rfl)
      obtain ⟨y, ey⟩ : ∃ y, wk l k = y := ⟨_, rfl⟩
      rw [ey] at c0 c1 c2 HS hxk
      have HX := hid hxk
      obtain ⟨b0, eb0⟩ : ∃ b0, demK l t k = b0 := ⟨_, rfl⟩
      rw [eb0] at HS hb ⊢
      clear ey eb0 hxk
      go_wp2_with fail
      go_loopw [5, 7] (fun v a wr => ∃ (m : Nat) (x' : Past), v = .int .i64 (b0 + m * y.c) ∧ a = .int .i64 (m * y.p) ∧ wr = w.past x ∧ Hid (∀ j : Nat, j < m → (j : Int) * y.p + y.d ≤ t)) (fun _ a _ => (100000 + 2000 - (intOf a)).toNat)
      case atStart => exact ⟨0, x, by simp, by simp, rfl, hid (fun j h => absurd h (Nat.not_lt_zero _))⟩
      case round =>
        obtain ⟨m, x', rfl, rfl, rfl, HJ⟩ := hrel
        have hb3 := needE_ge HX.out HJ.out ht
        obtain ⟨⟨g0, g1⟩, ⟨p0, p1⟩, ⟨d0, d1⟩⟩ := HX.out
        have hm0 : 0 ≤ (m : Int) * y.p := Int.mul_nonneg (by omega) (by omega)
        have hm1 : 0 ≤ (m : Int) * y.c := Int.mul_nonneg (by omega) (by omega)
        have HP1 := hid (show (m : Int) * y.p + y.p = ((m + 1 : Nat) : Int) * y.p by rw [Int.natCast_add, Int.add_mul]; simp)
        have HC1 := hid (show b0 + (m : Int) * y.c + y.c = b0 + ((m + 1 : Nat) : Int) * y.c by rw [Int.natCast_add, Int.add_mul]; simp; omega)
        have e1 : IntKind.i64.wrap ((m : Int) * y.p + y.d) = (m : Int) * y.p + y.d := by rw [IntKind.wrap_i64]; omega
        have e2 : IntKind.i64.wrap ((m : Int) * y.p + y.p) = (m : Int) * y.p + y.p := by rw [IntKind.wrap_i64]; omega
        have e3 : IntKind.i64.wrap (b0 + (m : Int) * y.c + y.c) = b0 + (m : Int) * y.c + y.c := by rw [IntKind.wrap_i64]; omega
        by_cases hle : (m : Int) * y.p + y.d ≤ t
        · have HJ2 := hid (show ∀ j : Nat, j < m + 1 → (j : Int) * y.p + y.d ≤ t from fun j hj => by
            by_cases e : j = m
            · subst e; exact hle
            · exact HJ.out j (by omega))
          obtain ⟨mp, emp⟩ : ∃ z, (m : Int) * y.p = z := ⟨_, rfl⟩
          obtain ⟨mc, emc⟩ : ∃ z, (m : Int) * y.c = z := ⟨_, rfl⟩
          rw [emp] at e1 e2 hle HP1 hm0 hb3 ⊢
          rw [emc] at e3 HC1 hb3 ⊢
          clear emp emc
          obtain ⟨yc, yp, yd⟩ := y
          simp only at c0 c1 c2 e1 e2 e3 hle HP1 HC1 hb3 g0 g1 p0 p1 d0 d1
          go_wp2_with fail
          go_roundw
          case rel => exact ⟨m + 1, x, by rw [HC1.out], by rw [HP1.out], (by first | trivial | rfl), HJ2⟩
          case measure => simp [intOf]; omega
        · have HE := hid (show b0 + (m : Int) * y.c = demK l t (k + 1) by rw [HS.out, round_end HX.out hle HJ.out])
          obtain ⟨mp, emp⟩ : ∃ z, (m : Int) * y.p = z := ⟨_, rfl⟩
          obtain ⟨mc, emc⟩ : ∃ z, (m : Int) * y.c = z := ⟨_, rfl⟩
          rw [emp] at e1 e2 hle HP1 hm0 hb3 ⊢
          rw [emc] at e3 HC1 HE hb3 ⊢
          clear emp emc
          obtain ⟨yc, yp, yd⟩ := y
          simp only at c0 c1 c2 e1 e2 e3 hle HP1 HC1 hb3 g0 g1 p0 p1 d0 d1
          go_wp2_with fail
          go_roundw
          case rel => exact ⟨k + 1, x, by rw [HE.out], by go_num, by omega, rfl⟩
          case measure => simp [intOf]; omega
    · obtain rfl : k = n := by omega
      have HE := hid (show demK l t k = demE l t by unfold demE; rw [EN.out])
      go_wp2_with fail
      go_ret
      refine Gives.mk (by rw [← HE.out]; rfl) (by (repeat (first | exact Below.refl _ _ | refine RowKit.Below.past ?_ _ | refine RowKit.Below.alloc' ?_ _ | refine RowKit.Below.drew' ?_ | refine RowKit.Below.drewN' ?_ _ | refine RowKit.Below.setCell' ?_ (by simp [go_sem]) _)))
end Go.Proofs.Ytolhbcgmlaodbaa
namespace Go.Proofs.Ytolhbcgmlaodbaa
open Go.RowKit
theorem tmod_nat (a b : Nat) : ((a : Int)).tmod (b : Int) = ((a % b : Nat) : Int) := (Int.ofNat_tmod a b).symm
theorem tdiv_nat (a b : Nat) : ((a : Int)).tdiv (b : Int) = ((a / b : Nat) : Int) := (Int.ofNat_tdiv a b).symm
set_option maxHeartbeats 400000 in
theorem common_any (a b : Nat) (ha : a < 9000000000000000000) (hb : b < 9000000000000000000) (w : World) :
    Calls Try.prog 23 #[.int .i64 (a : Int), .int .i64 (b : Int)] w (Gives (.int .i64 (Nat.gcd a b : Nat)) w) := by
  go_enter Try.func23, Try.ntmps23
  go_wp2_with fail
  go_loopw [0, 1] (fun v u wr => ∃ (c d : Nat) (x : Past), v = .int .i64 (c : Int) ∧ u = .int .i64 (d : Int) ∧ c < 9000000000000000000 ∧ d < 9000000000000000000 ∧ wr = w.past x ∧ Hid (Nat.gcd c d = Nat.gcd a b)) (fun _ u _ => (intOf u).toNat)
  case atStart => exact ⟨a, b, _, rfl, rfl, ha, hb, World.past_refl w, hid rfl⟩
  case round =>
    obtain ⟨c, d, x, rfl, rfl, hc, hd, rfl, HG⟩ := hrel
    by_cases h0 : 0 < d
    · obtain ⟨r, er⟩ : ∃ r, c % d = r := ⟨_, rfl⟩
      have hr : r < d := by rw [← er]; exact Nat.mod_lt _ h0
      have HG2 := hid (show Nat.gcd d r = Nat.gcd a b by rw [← er, ← HG.out, Nat.gcd_comm c d, Nat.gcd_rec d c, Nat.gcd_comm])
      have e0 : (c : Int).tmod (d : Int) = (r : Int) := by rw [tmod_nat, er]
      have e1 : IntKind.i64.wrap ((c : Int).tmod (d : Int)) = (r : Int) := by rw [e0, IntKind.wrap_i64]; omega
      have e2 : IntKind.i64.wrap (r : Int) = (r : Int) := by rw [IntKind.wrap_i64]; omega
      clear er
      go_wp2_with fail
      refine wp_region_past (by kernel_rfl) (by kernel_rfl) ?_
      repeat (go_big_quiet_step ((fail)))
      refine wpQuiet_nil ?_
      rintro _ ⟨_, rfl⟩
      go_wp2_with fail
      go_roundw
      case rel => exact ⟨d, r, _, rfl, (by simp [e0, e1, e2]), hd, by omega, (by first | rfl | exact World.past_past), HG2⟩
      case measure => simp [intOf, e0]; omega
    · obtain rfl : d = 0 := by omega
      have HE := hid (show Nat.gcd a b = c by rw [← HG.out, Nat.gcd_zero_right])
      go_wp2_with fail
      go_ret
      exact Gives.mk (by rw [HE.out]; rfl) (by (repeat (first | exact Below.refl _ _ | refine RowKit.Below.past ?_ _ | refine RowKit.Below.alloc' ?_ _ | refine RowKit.Below.drew' ?_ | refine RowKit.Below.drewN' ?_ _ | refine RowKit.Below.setCell' ?_ (by simp [go_sem]) _)))
set_option maxHeartbeats 400000 in
theorem rcommon_any (a b : Nat) (ha : a < 9000000000000000000) (hb : b < 9000000000000000000) (w : World) :
    Calls Try.prog 29 #[.int .i64 (a : Int), .int .i64 (b : Int)] w (Gives (.int .i64 (Nat.gcd a b : Nat)) w) := by
  go_enter Try.func29, Try.ntmps29
  go_wp2_with fail
  go_loopw [0, 1, 5] (fun v u _ wr => ∃ (c d : Nat) (x : Past), v = .int .i64 (c : Int) ∧ u = .int .i64 (d : Int) ∧ c < 9000000000000000000 ∧ d < 9000000000000000000 ∧ wr = w.past x ∧ Hid (Nat.gcd c d = Nat.gcd a b)) (fun _ u _ _ => (intOf u).toNat)
  case atStart => exact ⟨a, b, _, rfl, rfl, ha, hb, World.past_refl w, hid rfl⟩
  case round =>
    obtain ⟨c, d, x, rfl, rfl, hc, hd, rfl, HG⟩ := hrel
    by_cases h0 : 0 < d
    · obtain ⟨r, er⟩ : ∃ r, c % d = r := ⟨_, rfl⟩
      have hr : r < d := by rw [← er]; exact Nat.mod_lt _ h0
      have HG2 := hid (show Nat.gcd d r = Nat.gcd a b by rw [← er, ← HG.out, Nat.gcd_comm c d, Nat.gcd_rec d c, Nat.gcd_comm])
      have e0 : (c : Int).tmod (d : Int) = (r : Int) := by rw [tmod_nat, er]
      have e1 : IntKind.i64.wrap ((c : Int).tmod (d : Int)) = (r : Int) := by rw [e0, IntKind.wrap_i64]; omega
      have e2 : IntKind.i64.wrap (r : Int) = (r : Int) := by rw [IntKind.wrap_i64]; omega
      clear er
      go_wp2_with fail
      go_roundw
      case rel => exact ⟨d, r, _, rfl, (by simp [e0, e1, e2]), hd, by omega, (by first | rfl | exact World.past_past), HG2⟩
      case measure => simp [intOf, e0]; omega
    · obtain rfl : d = 0 := by omega
      have HE := hid (show Nat.gcd a b = c by rw [← HG.out, Nat.gcd_zero_right])
      go_wp2_with fail
      go_ret
      exact Gives.mk (by rw [HE.out]; rfl) (by (repeat (first | exact Below.refl _ _ | refine RowKit.Below.past ?_ _ | refine RowKit.Below.alloc' ?_ _ | refine RowKit.Below.drew' ?_ | refine RowKit.Below.drewN' ?_ _ | refine RowKit.Below.setCell' ?_ (by simp [go_sem]) _)))
end Go.Proofs.Ytolhbcgmlaodbaa
namespace Go.Proofs.Ytolhbcgmlaodbaa
open Go.RowKit
/-- All that a round of Load reckons, as integers. -/
theorem ld_ints {k : Nat} (hk : k ≤ 5) {s : Nat × Nat} {x : Wk} (h : LB k s) (hx : WkOk x) :
    ∃ g wg al q r tq cr tp g2 t2 w2 : Nat, Nat.gcd s.2 x.p.toNat = g ∧ Nat.gcd tp al = g2 ∧ ldS s x = (t2, w2) ∧ 0 < g ∧ 0 < s.2 ∧ 0 < g2 ∧ 0 < x.p.toNat ∧
      s.2 / g = wg ∧ wg * x.p.toNat = al ∧ al / s.2 = q ∧ s.1 * q = tq ∧ al / x.p.toNat = r ∧ x.c.toNat * r = cr ∧ tq + cr = tp ∧ tp / g2 = t2 ∧ al / g2 = w2 ∧ x.p.toNat / g = q ∧ s.2 * q = al ∧
      s.2 ≤ 1000000000000000 ∧ s.1 ≤ 500000000000000 ∧ wg ≤ 1000000000000000 ∧ al ≤ 1000000000000000000 ∧ q ≤ 1000000000000000000 ∧ tq ≤ 500000000000000000 ∧ r ≤ 1000000000000000 ∧ cr ≤ 100000000000000000 ∧ tp ≤ 600000000000000000 ∧ t2 ≤ 600000000000000000 ∧ w2 ≤ 1000000000000000000 := by
  obtain ⟨b1, b2, b3, b4, b5, b6, b7⟩ := ld_round hk h hx
  have h1 := h.1
  have hp : 1 ≤ x.p.toNat := by have := hx.2.1.1; omega
  refine ⟨_, s.2 / Nat.gcd s.2 x.p.toNat, lcE s x, lcE s x / s.2, lcE s x / x.p.toNat, s.1 * (lcE s x / s.2), x.c.toNat * (lcE s x / x.p.toNat), tpE s x, gcE s x, (ldS s x).1, (ldS s x).2, rfl, rfl, rfl, gcd_pos1 h1, h1, gc_pos h1 hp, hp, rfl, rfl, rfl, rfl, rfl, rfl, rfl, rfl, rfl, (lc_div1 h1 hp).symm, lc_dvd1 h1 hp, b1, b2, Nat.le_trans (Nat.div_le_self _ _) b1, b3, Nat.le_trans (Nat.div_le_self _ _) b3, b4, b5, b6, b7, Nat.le_trans (Nat.div_le_self _ _) b7, Nat.le_trans (Nat.div_le_self _ _) b3⟩
theorem ldW {z : Int} {c : Nat} (h : z = (c : Int)) (hc : c ≤ 1000000000000000000) : IntKind.i64.wrap z = (c : Int) := by rw [h, IntKind.wrap_i64]; omega
theorem ldMul {a b c : Nat} (h : a * b = c) (hc : c ≤ 1000000000000000000) : IntKind.i64.wrap ((a : Int) * (b : Int)) = (c : Int) := ldW (by rw [← h]; simp) hc
theorem ldAdd {a b c : Nat} (h : a + b = c) (hc : c ≤ 1000000000000000000) : IntKind.i64.wrap ((a : Int) + (b : Int)) = (c : Int) := ldW (by omega) hc
theorem ldDiv {a b c : Nat} (h : a / b = c) (hc : c ≤ 1000000000000000000) : IntKind.i64.wrap ((a : Int) / (b : Int)) = (c : Int) := ldW (by rw [← h]; simp) hc
set_option maxHeartbeats 2000000 in
theorem Load_any (A : Option Addr) (ca n : Nat) (l : List Wk) (en : l.length = n) (hm : mayF l = true) (w : World) (ha : Cells w A (tab wkV l)) :
    Calls Try.prog 10 #[.slice A n ca] w (Gives (.tuple #[.int .i64 ((ldE l).1 : Nat), .int .i64 ((ldE l).2 : Nat)]) w) := by
  have HMAY := hid (May_any A ca n l en w ha)
  rw [hm] at HMAY
  obtain ⟨h6, hok⟩ := wks_ok hm
  rw [en] at h6
  have HA := hid ha
  have EN := hid en
  have HOK := hid hok
  clear ha en hm hok
  go_enter Try.func10, Try.ntmps10
  go_upto_region 5 with (go_at_call 11; refine HMAY.out.mono ?_; rintro _ _ ⟨rfl, x1, rfl⟩)
  go_loopw [4, 5, 7, 8, 9, 15] (fun v u _ _ _ i wr => ∃ (k : Nat) (x : Past), v = .int .i64 ((ldK l k).1 : Nat) ∧ u = .int .i64 ((ldK l k).2 : Nat) ∧ i = .int .i64 (k : Int) ∧ k ≤ n ∧ wr = w.past x) (fun _ _ _ _ _ i _ => n - (intOf i).toNat)
  case atStart => exact ⟨0, _, rfl, rfl, rfl, by omega, rfl⟩
  case round =>
    obtain ⟨k, x, rfl, rfl, rfl, hk, rfl⟩ := hrel
    by_cases hlt : k < n
    · obtain ⟨g0, o, rfl, c0, c1, c2⟩ := wk_at (HA.out.past x) (show k < l.length by rw [EN.out]; exact hlt)
      have hxk := wk_ok HOK.out k
      obtain ⟨g, wg, al, q, r, tq, cr, tp, g2, t2, w2, eg, eg2, els, p1, p2, p3, p4, f1, f2, f3, f4, f5, f6, f7, f8, f9, f10, f11, n1, n2, n3, n4, n5, n6, n7, n8, n9, n10, n11⟩ := ld_ints (show k ≤ 5 by omega) (ld_bound HOK.out k) hxk
      have HS := hid (show ldK l (k + 1) = (t2, w2) from els)
      obtain ⟨y, ey⟩ : ∃ y, wk l k = y := ⟨_, rfl⟩
      rw [ey] at c0 c1 c2 eg p4 f2 f5 f6 f10 hxk
      obtain ⟨c, p, d⟩ := y
      simp only at c0 c1 c2 eg p4 f2 f5 f6 f10
      have hx1 : 1 ≤ p ∧ p ≤ 1000 := hxk.2.1
      have hx2 : 1 ≤ c ∧ c ≤ 100 := hxk.1
      obtain ⟨P, rfl⟩ := Int.eq_ofNat_of_zero_le (show 0 ≤ p by omega)
      obtain ⟨C, rfl⟩ := Int.eq_ofNat_of_zero_le (show 0 ≤ c by omega)
      simp only [Int.toNat_natCast] at eg p4 f2 f5 f6 f10
      have hP : P ≤ 1000 := by omega
      obtain ⟨S, eS⟩ : ∃ S, ldK l k = S := ⟨_, rfl⟩
      rw [eS] at eg p2 f1 f3 f4 f11 n1 n2 ⊢
      obtain ⟨t, u⟩ := S
      simp only at eg p2 f1 f3 f4 f11 n1 n2 ⊢
      have HC1 := hid (fun W => common_any u P (by omega) (Nat.lt_of_le_of_lt hP (by omega)) W)
      have HC2 := hid (fun W => common_any tp al (by omega) (by omega) W)
      rw [eg] at HC1
      rw [eg2] at HC2
      have e1 := ldDiv f1 (by omega)
      have e2 := ldMul f2 (by omega)
      have e3 := ldDiv f3 (by omega)
      have e4 := ldMul f4 (by omega)
      have e5 := ldDiv f5 (by omega)
      have e6 := ldMul f6 (by omega)
      have e7 := ldAdd f7 (by omega)
      have e8 := ldDiv f8 (by omega)
      have e9 := ldDiv f9 (by omega)
      have z1 : ¬ (g : Int) = 0 := by omega
      have z2 : ¬ (u : Int) = 0 := by omega
      have z3 : ¬ (P : Int) = 0 := by omega
      have z4 : ¬ (g2 : Int) = 0 := by omega
      clear hx1 hx2 ey eS els eg eg2 hxk f1 f2 f3 f4 f5 f6 f7 f8 f9 f10 f11 n1 n2 n3 n4 n5 n6 n7 n8 n9 n10 n11 p1 p2 p3 p4 hP HMAY
      go_wp2_with fail
      refine wp_region_past (by kernel_rfl) (by kernel_rfl) ?_
      repeat (go_big_quiet_step ((first | (go_at_call 23; first | with_reducible exact Calls.in_past (HC1.out _) | with_reducible exact Calls.in_past2 (HC1.out _)) | (go_at_call 23; first | exact Calls.in_past (HC1.out _) | exact Calls.in_past2 (HC1.out _)))))
      refine wpQuiet_nil ?_
      rintro _ ⟨_, rfl⟩
      go_wp2_with fail
      refine wp_region_past (by kernel_rfl) (by kernel_rfl) ?_
      repeat (go_big_quiet_step ((fail)))
      refine wpQuiet_nil ?_
      rintro _ ⟨_, rfl⟩
      go_wp2_with fail
      refine (HC2.out _).mono ?_
      rintro _ _ ⟨rfl, x2, rfl⟩
      go_wp2_with fail
      refine wp_region_past (by kernel_rfl) (by kernel_rfl) ?_
      repeat (go_big_quiet_step ((fail)))
      refine wpQuiet_nil ?_
      rintro _ ⟨_, rfl⟩
      go_wp2_with fail
      go_roundw
      case rel => exact ⟨k + 1, _, by rw [HS.out], by rw [HS.out], by go_num, by omega, (past_of (show Below w.heap.size w _ from by (repeat (first | exact Below.refl _ _ | refine RowKit.Below.past ?_ _ | refine RowKit.Below.alloc' ?_ _ | refine RowKit.Below.drew' ?_ | refine RowKit.Below.drewN' ?_ _ | refine RowKit.Below.setCell' ?_ (by simp [go_sem]) _)))).choose_spec⟩
      case measure => simp [intOf]; omega
    · obtain rfl : k = n := by omega
      have HE := hid (show ldK l k = ldE l by unfold ldE; rw [EN.out])
      go_wp2_with fail
      go_ret2
      refine Gives.mk (by rw [← HE.out]; rfl) (by (repeat (first | exact Below.refl _ _ | refine RowKit.Below.past ?_ _ | refine RowKit.Below.alloc' ?_ _ | refine RowKit.Below.drew' ?_ | refine RowKit.Below.drewN' ?_ _ | refine RowKit.Below.setCell' ?_ (by simp [go_sem]) _)))
theorem LoadN_any (A : Option Addr) (ca n : Nat) (l : List Wk) (en : l.length = n) (hm : mayF l = false) (w : World) (ha : Cells w A (tab wkV l)) :
    Calls Try.prog 10 #[.slice A n ca] w (Gives (.tuple #[.int .i64 0, .int .i64 0]) w) := by
  have HMAY := hid (May_any A ca n l en w ha)
  rw [hm] at HMAY
  clear ha hm
  go_enter Try.func10, Try.ntmps10
  go_wp2_with (go_at_call 11; refine HMAY.out.mono ?_; rintro _ _ ⟨rfl, x1, rfl⟩)
  go_ret2
  exact Gives.mk rfl (by (repeat (first | exact Below.refl _ _ | refine RowKit.Below.past ?_ _ | refine RowKit.Below.alloc' ?_ _ | refine RowKit.Below.drew' ?_ | refine RowKit.Below.drewN' ?_ _ | refine RowKit.Below.setCell' ?_ (by simp [go_sem]) _)))
set_option maxHeartbeats 2000000 in
theorem RLoad_any (A : Option Addr) (ca n : Nat) (l : List Wk) (en : l.length = n) (hm : mayF l = true) (w : World) (ha : Cells w A (tab wkV l)) :
    Calls Try.prog 17 #[.slice A n ca] w (Gives (.tuple #[.int .i64 ((ldE l).1 : Nat), .int .i64 ((ldE l).2 : Nat)]) w) := by
  obtain ⟨h6, hok⟩ := wks_ok hm
  rw [en] at h6
  have HA := hid ha
  have EN := hid en
  have HOK := hid hok
  clear ha en hm hok
  go_enter Try.func17, Try.ntmps17
  go_wp2_with fail
  go_loopw [4, 5, 6, 7, 8] (fun v u i _ _ wr => ∃ (k : Nat) (x : Past), v = .int .i64 ((ldK l k).1 : Nat) ∧ u = .int .i64 ((ldK l k).2 : Nat) ∧ i = .int .i64 (k : Int) ∧ k ≤ n ∧ wr = w.past x) (fun _ _ i _ _ _ => n - (intOf i).toNat)
  case atStart => exact ⟨0, _, rfl, rfl, rfl, by omega, World.past_refl w⟩
  case round =>
    obtain ⟨k, x, rfl, rfl, rfl, hk, rfl⟩ := hrel
    by_cases hlt : k < n
    · obtain ⟨g0, o, rfl, c0, c1, c2⟩ := wk_at HA.out (show k < l.length by rw [EN.out]; exact hlt)
      have hxk := wk_ok HOK.out k
      obtain ⟨g, wg, al, q, r, tq, cr, tp, g2, t2, w2, eg, eg2, els, p1, p2, p3, p4, f1, f2, f3, f4, f5, f6, f7, f8, f9, f10, f11, n1, n2, n3, n4, n5, n6, n7, n8, n9, n10, n11⟩ := ld_ints (show k ≤ 5 by omega) (ld_bound HOK.out k) hxk
      have HS := hid (show ldK l (k + 1) = (t2, w2) from els)
      obtain ⟨y, ey⟩ : ∃ y, wk l k = y := ⟨_, rfl⟩
      rw [ey] at c0 c1 c2 eg p4 f2 f5 f6 f10 hxk
      obtain ⟨c, p, d⟩ := y
      simp only at c0 c1 c2 eg p4 f2 f5 f6 f10
      have hx1 : 1 ≤ p ∧ p ≤ 1000 := hxk.2.1
      have hx2 : 1 ≤ c ∧ c ≤ 100 := hxk.1
      obtain ⟨P, rfl⟩ := Int.eq_ofNat_of_zero_le (show 0 ≤ p by omega)
      obtain ⟨C, rfl⟩ := Int.eq_ofNat_of_zero_le (show 0 ≤ c by omega)
      simp only [Int.toNat_natCast] at eg p4 f2 f5 f6 f10
      have hP : P ≤ 1000 := by omega
      obtain ⟨S, eS⟩ : ∃ S, ldK l k = S := ⟨_, rfl⟩
      rw [eS] at eg p2 f1 f3 f4 f11 n1 n2 ⊢
      obtain ⟨t, u⟩ := S
      simp only at eg p2 f1 f3 f4 f11 n1 n2 ⊢
      have HC1 := hid (fun W => rcommon_any u P (by omega) (Nat.lt_of_le_of_lt hP (by omega)) W)
      have HC2 := hid (fun W => rcommon_any tp al (by omega) (by omega) W)
      rw [eg] at HC1
      rw [eg2] at HC2
      have e1 := ldDiv f10 (by omega)
      have e2 := ldMul f11 (by omega)
      have e4 := ldMul f4 (by omega)
      have e5 := ldDiv f5 (by omega)
      have e6 := ldMul f6 (by omega)
      have e7 := ldAdd f7 (by omega)
      have e8 := ldDiv f8 (by omega)
      have e9 := ldDiv f9 (by omega)
      have z1 : ¬ (g : Int) = 0 := by omega
      have z3 : ¬ (P : Int) = 0 := by omega
      have z4 : ¬ (g2 : Int) = 0 := by omega
      clear hx1 hx2 ey eS els eg eg2 hxk f1 f2 f3 f4 f5 f6 f7 f8 f9 f10 f11 n1 n2 n3 n4 n5 n6 n7 n8 n9 n10 n11 p1 p2 p3 p4 hP
      go_wp2_with fail
      refine wp_region_past (by kernel_rfl) (by kernel_rfl) ?_
      repeat (go_big_quiet_step ((first | (go_at_call 29; first | with_reducible exact Calls.in_past (HC1.out _) | with_reducible exact Calls.in_past2 (HC1.out _)) | (go_at_call 29; first | exact Calls.in_past (HC1.out _) | exact Calls.in_past2 (HC1.out _)))))
      refine wpQuiet_nil ?_
      rintro _ ⟨_, rfl⟩
      go_wp2_with fail
      refine wp_region_past (by kernel_rfl) (by kernel_rfl) ?_
      repeat (go_big_quiet_step ((fail)))
      refine wpQuiet_nil ?_
      rintro _ ⟨_, rfl⟩
      go_wp2_with fail
      refine (HC2.out _).mono ?_
      rintro _ _ ⟨rfl, x2, rfl⟩
      go_wp2_with fail
      go_roundw
      case rel => exact ⟨k + 1, _, by rw [HS.out], by rw [HS.out], by go_num, by omega, (past_of (show Below w.heap.size w _ from by (repeat (first | exact Below.refl _ _ | refine RowKit.Below.past ?_ _ | refine RowKit.Below.alloc' ?_ _ | refine RowKit.Below.drew' ?_ | refine RowKit.Below.drewN' ?_ _ | refine RowKit.Below.setCell' ?_ (by simp [go_sem]) _)))).choose_spec⟩
      case measure => simp [intOf]; omega
    · obtain rfl : k = n := by omega
      have HE := hid (show ldK l k = ldE l by unfold ldE; rw [EN.out])
      go_wp2_with fail
      go_ret2
      refine Gives.mk (by rw [← HE.out]; rfl) (by (repeat (first | exact Below.refl _ _ | refine RowKit.Below.past ?_ _ | refine RowKit.Below.alloc' ?_ _ | refine RowKit.Below.drew' ?_ | refine RowKit.Below.drewN' ?_ _ | refine RowKit.Below.setCell' ?_ (by simp [go_sem]) _)))
end Go.Proofs.Ytolhbcgmlaodbaa
namespace Go.Proofs.Ytolhbcgmlaodbaa
open Go Go.RowKit
abbrev tJb : TypeId := 59
def djV (x : Dj) : List Value := [.int .i64 (x.w : Int), .int .i64 x.due, .int .i64 x.left]
theorem djV_length (x : Dj) : (djV x).length = 3 := rfl
theorem dj_at {w : World} {A : Option Addr} {D : List Dj} (h : Cells w A (tab djV D)) {k : Nat} (hk : k < D.length) : ∃ g o : Nat, A = some ⟨g, o, none⟩ ∧ w.cell? ⟨g, o + k * 3, none⟩ = some (.int .i64 ((dj D k).w : Int)) ∧ w.cell? ⟨g, o + k * 3 + 1, none⟩ = some (.int .i64 (dj D k).due) ∧ w.cell? ⟨g, o + k * 3 + 2, none⟩ = some (.int .i64 (dj D k).left) := by
  obtain ⟨g, o, rfl, hc⟩ := h.tab_at djV_length (dj_get hk) (by omega)
  exact ⟨g, o, rfl, by simpa using hc 0 _ rfl, hc 1 _ rfl, hc 2 _ rfl⟩
def bestI : Option Nat → Int
  | none => -1
  | some b => b
set_option maxRecDepth 100000 in
set_option maxHeartbeats 2000000 in
theorem first_any (A : Option Addr) (ca n : Nat) (D : List Dj) (en : D.length = n) (hn : n ≤ 100000) (w : World) (ha : Cells w A (tab djV D)) :
    Calls Try.prog 28 #[.slice A n ca] w (Gives (.int .i64 (bestI (best D))) w) := by
  have HA := hid ha
  have EN := hid en
  clear ha en
  go_enter Try.func28, Try.ntmps28
  go_wp2_with fail
  go_loopw [3, 4] (fun v i wr => ∃ (k : Nat) (x : Past), v = .int .i64 (bestI (bestK D k)) ∧ i = .int .i64 (k : Int) ∧ k ≤ n ∧ wr = w.past x) (fun _ i _ => n - (intOf i).toNat)
  case atStart => exact ⟨0, _, rfl, rfl, Nat.zero_le _, World.past_refl w⟩
  case round =>
    obtain ⟨k, x, rfl, rfl, hk, rfl⟩ := hrel
    by_cases hlt : k < n
    · have e1 : IntKind.i64.wrap ((k : Int) + 1) = (k : Int) + 1 := by rw [IntKind.wrap_i64]; omega
      rcases bestK_spec D k (by rw [EN.out]; omega) with ⟨rfl, eb⟩ | ⟨b, eb, hb, -⟩
      · have HN := hid (show bestK D (0 + 1) = some 0 by rw [bestK, eb])
        rw [eb]
        simp only [bestI]
        clear eb
        go_wp2_with fail
        refine wp_region_past (by kernel_rfl) (by kernel_rfl) ?_
        repeat (go_big_quiet_step ((fail)))
        refine wpQuiet_nil ?_
        rintro _ ⟨_, rfl⟩
        go_wp2_with fail
        exact ⟨⟨1, _, by rw [show (1 : Nat) = 0 + 1 from rfl, HN.out], rfl, by omega, (by first | rfl | exact World.past_past)⟩, by simp [intOf]; try omega⟩
      · obtain ⟨g, o, rfl, c0, c1, -⟩ := dj_at HA.out (show k < D.length by rw [EN.out]; exact hlt)
        obtain ⟨g', o', e', b0, b1, -⟩ := dj_at HA.out (show b < D.length by rw [EN.out]; omega)
        injection e' with e'
        injection e' with e1' e2' _
        subst e1'; subst e2'
        have HN := hid (show bestK D (k + 1) = if ltJ (dj D k) (dj D b) then some k else some b by rw [bestK, eb])
        rw [eb]
        simp only [bestI]
        obtain ⟨⟨wk', dk, lk⟩, ek⟩ : ∃ z, dj D k = z := ⟨_, rfl⟩
        obtain ⟨⟨wb, db, lb⟩, ebb⟩ : ∃ z, dj D b = z := ⟨_, rfl⟩
        rw [ek] at c0 c1 HN
        rw [ebb] at b0 b1 HN
        simp only at c0 c1 b0 b1 HN
        have hbn : (b : Int) < n := by omega
        have hb0 : decide ((b : Int) < 0) = false := by simp
        have hkn : (k : Int) < n := by omega
        have hcs : (dk < db) ∨ (¬ dk < db ∧ dk = db ∧ wk' < wb) ∨ (¬ dk < db ∧ dk = db ∧ ¬ wk' < wb) ∨ (¬ dk < db ∧ ¬ dk = db) := by omega
        clear eb ek ebb
        rcases hcs with h | ⟨h, h2, h3⟩ | ⟨h, h2, h3⟩ | ⟨h, h2⟩
        · have HN2 := hid (show bestK D (k + 1) = some k by rw [HN.out, if_pos (show ltJ _ _ from .inl h)])
          have d1 : decide (dk < db) = true := decide_eq_true h
          clear HN
          go_wp2_with fail
          refine wp_region_past (by kernel_rfl) (by kernel_rfl) ?_
          repeat (go_big_quiet_step ((fail)))
          refine wpQuiet_nil ?_
          rintro _ ⟨_, rfl⟩
          go_wp2_with fail
          exact ⟨⟨k + 1, _, by rw [HN2.out], by go_num, by omega, (by first | rfl | exact World.past_past)⟩, by simp [intOf]; try omega⟩
        · have HN2 := hid (show bestK D (k + 1) = some k by rw [HN.out, if_pos (show ltJ _ _ from .inr ⟨h2, h3⟩)])
          have d1 : decide (dk < db) = false := decide_eq_false h
          have d2 : (dk == db) = true := by simpa using h2
          have d3 : decide ((wk' : Int) < (wb : Int)) = true := by simp; omega
          have d4 : decide (wk' < wb) = true := by simp; omega
          clear HN h2
          go_wp2_with fail
          refine wp_region_past (by kernel_rfl) (by kernel_rfl) ?_
          repeat (go_big_quiet_step ((fail)))
          refine wpQuiet_nil ?_
          rintro _ ⟨_, rfl⟩
          go_wp2_with fail
          exact ⟨⟨k + 1, _, by rw [HN2.out], by go_num, by omega, (by first | rfl | exact World.past_past)⟩, by simp [intOf]; try omega⟩
        · have HN2 := hid (show bestK D (k + 1) = some b by rw [HN.out, if_neg (fun g : ltJ _ _ => by rcases g with g | g; exact h g; exact h3 g.2)])
          have d1 : decide (dk < db) = false := decide_eq_false h
          have d2 : (dk == db) = true := by simpa using h2
          have d3 : decide ((wk' : Int) < (wb : Int)) = false := by simp; omega
          have d4 : decide (wk' < wb) = false := by simp; omega
          clear HN h2
          go_wp2_with fail
          refine wp_region_past (by kernel_rfl) (by kernel_rfl) ?_
          repeat (go_big_quiet_step ((fail)))
          refine wpQuiet_nil ?_
          rintro _ ⟨_, rfl⟩
          go_wp2_with fail
          exact ⟨⟨k + 1, _, by rw [HN2.out], by go_num, by omega, (by first | rfl | exact World.past_past)⟩, by simp [intOf]; try omega⟩
        · have HN2 := hid (show bestK D (k + 1) = some b by rw [HN.out, if_neg (fun g : ltJ _ _ => by rcases g with g | g; exact h g; exact h2 g.1)])
          have d1 : decide (dk < db) = false := decide_eq_false h
          have d2 : (dk == db) = false := by simpa using h2
          clear HN
          go_wp2_with fail
          refine wp_region_past (by kernel_rfl) (by kernel_rfl) ?_
          repeat (go_big_quiet_step ((fail)))
          refine wpQuiet_nil ?_
          rintro _ ⟨_, rfl⟩
          go_wp2_with fail
          exact ⟨⟨k + 1, _, by rw [HN2.out], by go_num, by omega, (by first | rfl | exact World.past_past)⟩, by simp [intOf]; try omega⟩
    · obtain rfl : k = n := by omega
      have HE := hid (show bestK D k = best D by unfold best; rw [EN.out])
      go_wp2_with fail
      go_ret
      exact Gives.mk (by rw [← HE.out]; rfl) (by (repeat (first | exact Below.refl _ _ | refine RowKit.Below.past ?_ _ | refine RowKit.Below.alloc' ?_ _ | refine RowKit.Below.drew' ?_ | refine RowKit.Below.drewN' ?_ _ | refine RowKit.Below.setCell' ?_ (by simp [go_sem]) _)))
end Go.Proofs.Ytolhbcgmlaodbaa
