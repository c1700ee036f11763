/-
  Layer 43: when one is done, with all its guards; the order by deadlines. No condition but that they are ints.
-/
import Derived.Test.YtjkmakaahghddaaRtaF
namespace Go.Proofs.Ytjkmakaahghddaa
open Go.RowKit
theorem done_no (l : List Wk) (a u : Int) (h : mayF l = false ∨ a < 0 ∨ (l.length : Int) ≤ a) : DoneAll l a u = -1 := by
  unfold DoneAll
  rw [if_neg]
  rintro ⟨h1, h2, h3⟩
  rcases h with h | h | h
  · rw [h] at h1; cases h1
  · omega
  · omega
theorem done_yes (l : List Wk) (k : Nat) (u : Int) (hm : mayF l = true) (hk : k < l.length) : DoneAll l k u = doneF l k (clampF u 0 10000).toNat := by
  unfold DoneAll
  rw [if_pos ⟨hm, by omega, by omega⟩]
  rfl
theorem clamp_nat (u : Int) : ((clampF u 0 10000).toNat : Int) = clampF u 0 10000 := by
  unfold clampF; split <;> (try split) <;> omega
set_option maxHeartbeats 1000000 in
theorem Done_any (A : Option Addr) (ca n : Nat) (l : List Wk) (at' until' : Int) (w : World) (hw : LsW l n ca A w) :
    Calls Try.prog 9 #[.slice A n ca, .int .i64 at', .int .i64 until'] w (Gives (.int .i64 (DoneAll l at' until')) w) := by
  have hlen := hw.len
  have hM := hw.may
  cases hm : mayF l with
  | false =>
    have HD := hid (done_no l at' until' (.inl hm))
    rw [hm] at hM
    have HM := hid hM
    clear hM hm hw hlen
    go_enter Try.func9, Try.ntmps9
    go_wp2_with ((go_at_call 15; refine (HM.out).mono ?_; rintro _ _ ⟨rfl, _, rfl⟩))
    go_ret
    refine Gives.mk (by rw [HD.out]; rfl) ?_
    (repeat (first | exact Below.refl _ _ | refine RowKit.Below.past ?_ _ | refine RowKit.Below.alloc' ?_ _ | refine RowKit.Below.drew' ?_ | refine RowKit.Below.drewN' ?_ _ | refine RowKit.Below.setCell' ?_ (by simp [go_sem]) _))
  | true =>
    by_cases h0 : at' < 0
    · have HD := hid (done_no l at' until' (.inr (.inl h0)))
      rw [hm] at hM
      have HM := hid hM
      clear hM hm hw hlen
      go_enter Try.func9, Try.ntmps9
      go_wp2_with ((go_at_call 15; refine (HM.out).mono ?_; rintro _ _ ⟨rfl, _, rfl⟩))
      go_ret
      refine Gives.mk (by rw [HD.out]; rfl) ?_
      (repeat (first | exact Below.refl _ _ | refine RowKit.Below.past ?_ _ | refine RowKit.Below.alloc' ?_ _ | refine RowKit.Below.drew' ?_ | refine RowKit.Below.drewN' ?_ _ | refine RowKit.Below.setCell' ?_ (by simp [go_sem]) _))
    · by_cases h1 : (n : Int) ≤ at'
      · have HD := hid (done_no l at' until' (.inr (.inr (by rw [hlen]; exact h1))))
        rw [hm] at hM
        have HM := hid hM
        clear hM hm hw hlen
        go_enter Try.func9, Try.ntmps9
        go_wp2_with ((go_at_call 15; refine (HM.out).mono ?_; rintro _ _ ⟨rfl, _, rfl⟩))
        go_ret
        refine Gives.mk (by rw [HD.out]; rfl) ?_
        (repeat (first | exact Below.refl _ _ | refine RowKit.Below.past ?_ _ | refine RowKit.Below.alloc' ?_ _ | refine RowKit.Below.drew' ?_ | refine RowKit.Below.drewN' ?_ _ | refine RowKit.Below.setCell' ?_ (by simp [go_sem]) _))
      · obtain ⟨k, rfl⟩ := Int.eq_ofNat_of_zero_le (show 0 ≤ at' by omega)
        have hk : k < n := by omega
        rw [show ((k : Nat) : Int) = (k : Int) from rfl, done_yes l k until' hm (by rw [hlen]; exact hk)]
        exact Done_ok A ca n l k until' _ (clamp_nat until') w hw hm hk
set_option maxHeartbeats 1000000 in
theorem RDone_any (A : Option Addr) (ca n : Nat) (l : List Wk) (at' until' : Int) (w : World) (hw : LsW l n ca A w) :
    Calls Try.prog 10 #[.slice A n ca, .int .i64 at', .int .i64 until'] w (Gives (.int .i64 (DoneAll l at' until')) w) := by
  have hlen := hw.len
  have hM := RMay_any A ca n l hw.len (by have := hw.few; unfold maxLen; omega) w hw.cells
  cases hm : mayF l with
  | false =>
    have HD := hid (done_no l at' until' (.inl hm))
    rw [hm] at hM
    have HM := hid hM
    clear hM hm hw hlen
    go_enter Try.func10, Try.ntmps10
    go_wp2_with ((go_at_call 11; refine (HM.out).mono ?_; rintro _ _ ⟨rfl, _, rfl⟩))
    go_ret
    refine Gives.mk (by rw [HD.out]; rfl) ?_
    (repeat (first | exact Below.refl _ _ | refine RowKit.Below.past ?_ _ | refine RowKit.Below.alloc' ?_ _ | refine RowKit.Below.drew' ?_ | refine RowKit.Below.drewN' ?_ _ | refine RowKit.Below.setCell' ?_ (by simp [go_sem]) _))
  | true =>
    by_cases h0 : at' < 0
    · have HD := hid (done_no l at' until' (.inr (.inl h0)))
      rw [hm] at hM
      have HM := hid hM
      clear hM hm hw hlen
      go_enter Try.func10, Try.ntmps10
      go_wp2_with ((go_at_call 11; refine (HM.out).mono ?_; rintro _ _ ⟨rfl, _, rfl⟩))
      go_ret
      refine Gives.mk (by rw [HD.out]; rfl) ?_
      (repeat (first | exact Below.refl _ _ | refine RowKit.Below.past ?_ _ | refine RowKit.Below.alloc' ?_ _ | refine RowKit.Below.drew' ?_ | refine RowKit.Below.drewN' ?_ _ | refine RowKit.Below.setCell' ?_ (by simp [go_sem]) _))
    · by_cases h1 : (n : Int) ≤ at'
      · have HD := hid (done_no l at' until' (.inr (.inr (by rw [hlen]; exact h1))))
        rw [hm] at hM
        have HM := hid hM
        clear hM hm hw hlen
        go_enter Try.func10, Try.ntmps10
        go_wp2_with ((go_at_call 11; refine (HM.out).mono ?_; rintro _ _ ⟨rfl, _, rfl⟩))
        go_ret
        refine Gives.mk (by rw [HD.out]; rfl) ?_
        (repeat (first | exact Below.refl _ _ | refine RowKit.Below.past ?_ _ | refine RowKit.Below.alloc' ?_ _ | refine RowKit.Below.drew' ?_ | refine RowKit.Below.drewN' ?_ _ | refine RowKit.Below.setCell' ?_ (by simp [go_sem]) _))
      · obtain ⟨k, rfl⟩ := Int.eq_ofNat_of_zero_le (show 0 ≤ at' by omega)
        have hk : k < n := by omega
        rw [show ((k : Nat) : Int) = (k : Int) from rfl, done_yes l k until' hm (by rw [hlen]; exact hk)]
        exact RDone_ok A ca n l k until' _ (clamp_nat until') w hw hm hk
def cmpF (a b : Int) : Int := if decide (a < b) then -1 else if decide (b < a) then 1 else 0
set_option maxHeartbeats 400000 in
theorem NanI_any (a : Int) (w : World) : Calls Try.prog 28 #[.int .i64 a] w (Gives (.bool false) w) := by
  go_enter Try.func28, Try.ntmps28
  go_wp2
  go_ret
  exact Gives.refl (by simp)
set_option maxHeartbeats 1000000 in
theorem CmpI_any (a b : Int) (w : World) : Calls Try.prog 19 #[.int .i64 a, .int .i64 b] w (Gives (.int .i64 (cmpF a b)) w) := by
  rcases dec_cases (a < b) with h | h
  · go_enter Try.func19, Try.ntmps19
    go_wp2_with (go_at_call 28; refine (NanI_any _ _).mono ?_; rintro _ _ ⟨rfl, _, rfl⟩)
    go_ret
    refine Gives.mk (by simp [cmpF, h]) ?_
    (repeat (first | exact Below.refl _ _ | refine RowKit.Below.past ?_ _ | refine RowKit.Below.alloc' ?_ _ | refine RowKit.Below.drew' ?_ | refine RowKit.Below.drewN' ?_ _ | refine RowKit.Below.setCell' ?_ (by simp [go_sem]) _))
  · rcases dec_cases (b < a) with h2 | h2
    all_goals
      go_enter Try.func19, Try.ntmps19
      go_wp2_with (go_at_call 28; refine (NanI_any _ _).mono ?_; rintro _ _ ⟨rfl, _, rfl⟩)
      go_ret
      refine Gives.mk (by simp [cmpF, h, h2]) ?_
      (repeat (first | exact Below.refl _ _ | refine RowKit.Below.past ?_ _ | refine RowKit.Below.alloc' ?_ _ | refine RowKit.Below.drew' ?_ | refine RowKit.Below.drewN' ?_ _ | refine RowKit.Below.setCell' ?_ (by simp [go_sem]) _))
def dlF (l : List Wk) (a : Int) : Int := (wk l a.toNat).d
set_option maxHeartbeats 1000000 in
theorem less_any (A : Option Addr) (ca n : Nat) (l : List Wk) (bx : Nat) (a b : Int) (w : World) (hw : LsW l n ca A w) (hbx : w.cell? ⟨bx, 0, none⟩ = some (.slice A n ca)) (ha : 0 ≤ a ∧ a < n) (hb : 0 ≤ b ∧ b < n) :
    Calls Try.prog 18 #[.int .i64 a, .int .i64 b, .pointer (some ⟨bx, 0, none⟩)] w (Gives (.int .i64 (cmpF (dlF l a) (dlF l b))) w) := by
  obtain ⟨i, rfl⟩ := Int.eq_ofNat_of_zero_le ha.1
  obtain ⟨j, rfl⟩ := Int.eq_ofNat_of_zero_le hb.1
  have hi : i < n := by omega
  have hj : j < n := by omega
  obtain ⟨b1, o1, rfl, _, _, hc3⟩ := wk_at hw.cells (show i < l.length by rw [hw.len]; exact hi)
  obtain ⟨b2, o2, e, _, _, hd3⟩ := wk_at hw.cells (show j < l.length by rw [hw.len]; exact hj)
  injection e with e
  injection e with eb eo
  subst eb; subst eo
  have hbl := World.block_lt_of_cell? w _ hbx
  obtain ⟨x, ex⟩ : ∃ x, (wk l i).d = x := ⟨_, rfl⟩
  obtain ⟨y, ey⟩ : ∃ y, (wk l j).d = y := ⟨_, rfl⟩
  have h1 : dlF l (i : Int) = x := ex
  have h2 : dlF l (j : Int) = y := ey
  rw [ex] at hc3
  rw [ey] at hd3
  rw [h1, h2]
  have hq := fun w' => CmpI_any x y w'
  have HQ := hid hq
  clear hw ha hb ex ey h1 h2 hq
  go_enter Try.func18, Try.ntmps18
  go_wp2_with fail
  refine wp_region_past (by kernel_rfl) (by kernel_rfl) ?_
  repeat (go_big_quiet_step ((first | (go_at_call 19; first | with_reducible exact Calls.in_past (HQ.out _) | with_reducible exact Calls.in_past2 (HQ.out _)) | (go_at_call 19; first | exact Calls.in_past (HQ.out _) | exact Calls.in_past2 (HQ.out _)))))
  refine wpQuiet_nil ?_
  rintro _ ⟨_, rfl⟩
  go_wp2
  go_ret
  refine Gives.mk rfl ?_
  (repeat (first | exact Below.refl _ _ | refine RowKit.Below.past ?_ _ | refine RowKit.Below.alloc' ?_ _ | refine RowKit.Below.drew' ?_ | refine RowKit.Below.drewN' ?_ _ | refine RowKit.Below.setCell' ?_ (by simp [go_sem]) _))
end Go.Proofs.Ytjkmakaahghddaa
