/-
  Layer 42: what works need (the program's need, Demand). No condition.
-/
import Derived.Test.YtolhbcgmlaodbaaEdQ
import Derived.Test.YtolhbcgmlaodbaaAppC
import Derived.BigQuiet
namespace Go.Proofs.Ytolhbcgmlaodbaa
open Go.RowKit
def wkV (x : Wk) : List Value := [.int .i64 x.c, .int .i64 x.p, .int .i64 x.d]
theorem wkV_length (x : Wk) : (wkV x).length = 3 := rfl
def withinF (n m : Int) : Bool := decide (1 ≤ n) && decide (n ≤ m)
def okF (x : Wk) : Bool := withinF x.c 100 && withinF x.p 1000 && withinF x.d 1000
def mayF (l : List Wk) : Bool := decide (l.length ≤ 6) && l.all okF
theorem okF_iff (x : Wk) : okF x = true ↔ WkOk x := by
  simp [okF, withinF, WkOk, and_assoc]
theorem mayF_iff (l : List Wk) : mayF l = true ↔ l.length ≤ 6 ∧ ∀ x ∈ l, WkOk x := by
  simp [mayF, okF_iff]
theorem wk_at {w : World} {A : Option Addr} {l : List Wk} (h : Cells w A (tab wkV l)) {k : Nat} (hk : k < l.length) :
    ∃ b off : Nat, A = some ⟨b, off, none⟩ ∧ w.cell? ⟨b, off + k * 3, none⟩ = some (.int .i64 (wk l k).c) ∧ w.cell? ⟨b, off + k * 3 + 1, none⟩ = some (.int .i64 (wk l k).p) ∧ w.cell? ⟨b, off + k * 3 + 2, none⟩ = some (.int .i64 (wk l k).d) := by
  have e : l[k]? = some (wk l k) := by simp [wk, hk]
  obtain ⟨b, off, rfl, hc⟩ := h.tab_at wkV_length e (by omega)
  exact ⟨b, off, rfl, by simpa using hc 0 _ rfl, hc 1 _ rfl, hc 2 _ rfl⟩
set_option maxHeartbeats 400000 in
theorem within_any (n m : Int) (w : World) : Calls Try.prog 26 #[.int .i64 n, .int .i64 m] w (Gives (.bool (withinF n m)) w) := by
  rcases dec_cases (1 ≤ n) with h | h
  · rcases dec_cases (n ≤ m) with h2 | h2
    all_goals
      go_enter Try.func26, Try.ntmps26
      go_wp2
      go_ret
      exact Gives.refl (by simp only [withinF, h, h2]; rfl)
  · go_enter Try.func26, Try.ntmps26
    go_wp2
    go_ret
    exact Gives.refl (by simp only [withinF, h]; rfl)
set_option maxHeartbeats 1000000 in
theorem bad_any (x : Wk) (w : World) : Calls Try.prog 25 #[.agg #[.int .i64 x.c, .int .i64 x.p, .int .i64 x.d]] w (Gives (.bool (!okF x)) w) := by
  have e : okF x = (withinF x.c 100 && withinF x.p 1000 && withinF x.d 1000) := rfl
  have E := hid e
  clear e
  generalize h1 : withinF x.c 100 = r1 at E
  generalize h2 : withinF x.p 1000 = r2 at E
  generalize h3 : withinF x.d 1000 = r3 at E
  have q1 := fun w' => within_any x.c 100 w'
  have q2 := fun w' => within_any x.p 1000 w'
  have q3 := fun w' => within_any x.d 1000 w'
  rw [h1] at q1
  rw [h2] at q2
  rw [h3] at q3
  have Q1 := hid q1
  have Q2 := hid q2
  have Q3 := hid q3
  clear h1 h2 h3 q1 q2 q3
  cases r1 <;> cases r2 <;> cases r3
  all_goals
    go_enter Try.func25, Try.ntmps25
    go_wp2_with (go_at_call 26; first | ((with_reducible refine (Q1.out _).mono ?_); rintro _ _ ⟨rfl, _, rfl⟩) | ((with_reducible refine (Q2.out _).mono ?_); rintro _ _ ⟨rfl, _, rfl⟩) | ((with_reducible refine (Q3.out _).mono ?_); rintro _ _ ⟨rfl, _, rfl⟩))
    go_ret
    refine Gives.mk (by rw [E.out]; rfl) ?_
    (repeat (first | exact Below.refl _ _ | refine RowKit.Below.past ?_ _ | refine RowKit.Below.alloc' ?_ _ | refine RowKit.Below.drew' ?_ | refine RowKit.Below.drewN' ?_ _ | refine RowKit.Below.setCell' ?_ (by simp [go_sem]) _))
set_option maxHeartbeats 1000000 in
theorem indexBad_any (A : Option Addr) (ca n : Nat) (l : List Wk) (en : l.length = n) (hn : n ≤ 1000000) (w : World) (ha : Cells w A (tab wkV l)) :
    Calls Try.prog 35 #[.slice A n ca, .func (.func 25) #[] #[]] w (fun e w' => ∃ (r : Int) (x : Past), e = .returned (.int .i64 r) ∧ w' = w.past x ∧ decide (0 ≤ r) = l.any (fun x => !okF x)) := by
  have EN := hid en
  have HA := hid ha
  clear en ha
  go_enter Try.func35, Try.ntmps35
  go_wp2
  go_loopw [8] (fun i wr => ∃ (k : Nat) (x : Past), i = .int .i64 k ∧ k ≤ n ∧ wr = w.past x ∧ Hid (∀ j, j < k → okF (wk l j) = true)) (fun i _ => n - (intOf i).toNat)
  case atStart => exact ⟨0, _, rfl, by omega, World.past_refl w, hid (fun j h => by omega)⟩
  case round =>
    obtain ⟨k, x, rfl, hk, rfl, HJ⟩ := hrel
    by_cases hlt : k < n
    · obtain ⟨b1, o1, rfl, hc1, hc2, hc3⟩ := wk_at (HA.out.past x) (show k < l.length by rw [EN.out]; exact hlt)
      have hb := bad_any (wk l k) (w.past x)
      obtain ⟨r, hr⟩ : ∃ r, okF (wk l k) = r := ⟨_, rfl⟩
      rw [hr] at hb
      have HR := hid hr
      have HB := hid hb
      clear hr hb
      cases r
      · go_wp2_with (go_at_call 25; refine HB.out.mono ?_; rintro _ _ ⟨rfl, _, rfl⟩)
        go_ret
        refine ⟨k, _, rfl, rfl, ?_⟩
        have : l.any (fun x => !okF x) = true := by
          rw [List.any_eq_true]
          exact ⟨wk l k, by
            have : l[k]? = some (wk l k) := by simp [wk, show k < l.length by rw [EN.out]; exact hlt]
            exact List.mem_of_getElem? this, by rw [HR.out]; rfl⟩
        rw [this]
        simp
      · go_wp2_with (go_at_call 25; refine HB.out.mono ?_; rintro _ _ ⟨rfl, _, rfl⟩)
        go_roundw
        case rel => exact ⟨k + 1, _, by go_num, by omega, rfl, hid (fun j hj => by
          by_cases e : j = k
          · subst e; exact HR.out
          · exact HJ.out j (by omega))⟩
        case measure => simp [intOf]; omega
    · obtain rfl : k = n := by omega
      go_wp2
      go_ret
      refine ⟨-1, _, rfl, rfl, ?_⟩
      have : l.any (fun x => !okF x) = false := by
        rw [List.any_eq_false]
        intro x hx
        obtain ⟨i, hi⟩ := List.mem_iff_getElem?.1 hx
        have hlt := (List.getElem?_eq_some_iff.1 hi).1
        have := HJ.out i (by rw [← EN.out]; exact hlt)
        rw [wk, hi] at this
        simpa using this
      rw [this]
      rfl
theorem hasBad_any (A : Option Addr) (ca n : Nat) (l : List Wk) (en : l.length = n) (hn : n ≤ 1000000) (w : World) (ha : Cells w A (tab wkV l)) :
    Calls Try.prog 24 #[.slice A n ca, .func (.func 25) #[] #[]] w (Gives (.bool (l.any (fun x => !okF x))) w) := by
  have HI := hid (indexBad_any A ca n l en hn w ha)
  clear ha
  go_enter Try.func24, Try.ntmps24
  go_wp2_with fail
  refine HI.out.mono ?_
  rintro _ _ ⟨r, x, rfl, rfl, hr⟩
  have HRR := hid hr
  clear hr HI
  go_wp2
  go_ret
  refine Gives.mk (by rw [← HRR.out]; rfl) ?_
  (repeat (first | exact Below.refl _ _ | refine RowKit.Below.past ?_ _ | refine RowKit.Below.alloc' ?_ _ | refine RowKit.Below.drew' ?_ | refine RowKit.Below.drewN' ?_ _ | refine RowKit.Below.setCell' ?_ (by simp [go_sem]) _))
theorem May_any (A : Option Addr) (ca n : Nat) (l : List Wk) (en : l.length = n) (w : World) (ha : Cells w A (tab wkV l)) :
    Calls Try.prog 11 #[.slice A n ca] w (Gives (.bool (mayF l)) w) := by
  have EN := hid en
  by_cases h6 : n ≤ 6
  · obtain ⟨r, hr⟩ : ∃ r, l.any (fun x => !okF x) = r := ⟨_, rfl⟩
    have HB := hid (hasBad_any A ca n l en (by omega) w ha)
    rw [hr] at HB
    have hm : mayF l = !r := by
      rw [← hr]
      unfold mayF
      rw [EN.out]
      have : l.all okF = !(l.any fun x => !okF x) := by
        induction l with
        | nil => rfl
        | cons x l _ => simp [List.all_eq_not_any_not]
      rw [this]
      simp [h6]
    have HM := hid hm
    clear hr hm en ha
    go_enter Try.func11, Try.ntmps11
    go_wp2_with ((go_at_call 24; refine (HB.out).mono ?_; rintro _ _ ⟨rfl, _, rfl⟩))
    go_ret
    refine Gives.mk (by rw [HM.out]; rfl) ?_
    (repeat (first | exact Below.refl _ _ | refine RowKit.Below.past ?_ _ | refine RowKit.Below.alloc' ?_ _ | refine RowKit.Below.drew' ?_ | refine RowKit.Below.drewN' ?_ _ | refine RowKit.Below.setCell' ?_ (by simp [go_sem]) _))
  · have hm : mayF l = false := by unfold mayF; rw [EN.out]; simp [h6]
    have HM := hid hm
    clear hm en ha
    go_enter Try.func11, Try.ntmps11
    go_wp2
    go_ret
    exact Gives.refl (by rw [HM.out]; rfl)
theorem okF_parts (x : Wk) : okF x = !(decide (x.c < 1) || decide (100 < x.c) || decide (x.p < 1) || decide (1000 < x.p) || decide (x.d < 1) || decide (1000 < x.d)) := by
  unfold okF withinF
  by_cases h1 : x.c < 1 <;> by_cases h2 : 100 < x.c <;> by_cases h3 : x.p < 1 <;> by_cases h4 : 1000 < x.p <;> by_cases h5 : x.d < 1 <;> by_cases h6 : 1000 < x.d <;> simp [h1, h2, h3, h4, h5, h6] <;> omega
set_option maxHeartbeats 2000000 in
theorem RMay_any (A : Option Addr) (ca n : Nat) (l : List Wk) (en : l.length = n) (hn : n ≤ maxLen) (w : World) (ha : Cells w A (tab wkV l)) :
    Calls Try.prog 12 #[.slice A n ca] w (Gives (.bool (mayF l)) w) := by
  have EN := hid en
  have HA := hid ha
  clear en ha
  go_enter Try.func12, Try.ntmps12
  go_wp2
  go_loopw [3] (fun i wr => ∃ (k : Nat) (x : Past), i = .int .i64 k ∧ k ≤ n ∧ k ≤ 6 ∧ wr = w.past x ∧ Hid (∀ j, j < k → okF (wk l j) = true)) (fun i _ => n - (intOf i).toNat)
  case atStart => exact ⟨0, _, rfl, by omega, by omega, World.past_refl w, hid (fun j h => by omega)⟩
  case round =>
    obtain ⟨k, x, rfl, hk, hk6, rfl, HJ⟩ := hrel
    by_cases hlt : k < n
    · obtain ⟨b1, o1, rfl, hc1, hc2, hc3⟩ := wk_at (HA.out.past x) (show k < l.length by rw [EN.out]; exact hlt)
      by_cases h5 : 5 < k
      · have hm : mayF l = false := by unfold mayF; rw [EN.out]; simp [show ¬ n ≤ 6 by omega]
        have HM := hid hm
        clear hm
        go_wp2
        go_ret
        refine Gives.mk (by rw [HM.out]; rfl) ?_
        (repeat (first | exact Below.refl _ _ | refine RowKit.Below.past ?_ _ | refine RowKit.Below.alloc' ?_ _ | refine RowKit.Below.drew' ?_ | refine RowKit.Below.drewN' ?_ _ | refine RowKit.Below.setCell' ?_ (by simp [go_sem]) _))
      · have hp := okF_parts (wk l k)
        have HP := hid hp
        clear hp
        have hx : l[k]? = some (wk l k) := by simp [wk, show k < l.length by rw [EN.out]; exact hlt]
        have HX := hid hx
        clear hx
        generalize ec : (wk l k).c = c at *
        generalize ep : (wk l k).p = p at *
        generalize ed : (wk l k).d = d at *
        clear ec ep ed
        have bad : okF (wk l k) = false → mayF l = false := fun h => by
          unfold mayF
          have : l.all okF = false := by rw [List.all_eq_false]; exact ⟨_, List.mem_of_getElem? HX.out, by rw [h]; simp⟩
          rw [this]; simp
        have BAD := hid bad
        clear bad
        by_cases g1 : c < 1 ∨ 100 < c ∨ p < 1 ∨ 1000 < p ∨ d < 1 ∨ 1000 < d
        · have hm := BAD.out (by rw [HP.out]; simp; omega)
          have HM := hid hm
          clear hm
          have hc : decide (c < 1) = true ∨ (decide (c < 1) = false ∧ decide (100 < c) = true) ∨ (decide (c < 1) = false ∧ decide (100 < c) = false ∧ decide (p < 1) = true) ∨ (decide (c < 1) = false ∧ decide (100 < c) = false ∧ decide (p < 1) = false ∧ decide (1000 < p) = true) ∨ (decide (c < 1) = false ∧ decide (100 < c) = false ∧ decide (p < 1) = false ∧ decide (1000 < p) = false ∧ decide (d < 1) = true) ∨ (decide (c < 1) = false ∧ decide (100 < c) = false ∧ decide (p < 1) = false ∧ decide (1000 < p) = false ∧ decide (d < 1) = false ∧ decide (1000 < d) = true) := by
            simp only [decide_eq_true_eq, decide_eq_false_iff_not]; omega
          rcases hc with f1 | ⟨f1, f2⟩ | ⟨f1, f2, f3⟩ | ⟨f1, f2, f3, f4⟩ | ⟨f1, f2, f3, f4, f5⟩ | ⟨f1, f2, f3, f4, f5, f6⟩
          all_goals
            clear g1
            go_wp2
            go_ret
            refine Gives.mk (by rw [HM.out]; rfl) ?_
            (repeat (first | exact Below.refl _ _ | refine RowKit.Below.past ?_ _ | refine RowKit.Below.alloc' ?_ _ | refine RowKit.Below.drew' ?_ | refine RowKit.Below.drewN' ?_ _ | refine RowKit.Below.setCell' ?_ (by simp [go_sem]) _))
        · have f1 : decide (c < 1) = false := by simp; omega
          have f2 : decide (100 < c) = false := by simp; omega
          have f3 : decide (p < 1) = false := by simp; omega
          have f4 : decide (1000 < p) = false := by simp; omega
          have f5 : decide (d < 1) = false := by simp; omega
          have f6 : decide (1000 < d) = false := by simp; omega
          have ho : okF (wk l k) = true := by rw [HP.out, f1, f2, f3, f4, f5, f6]; rfl
          have HO := hid ho
          clear g1 ho
          go_wp2_with fail
          obtain ⟨x2, hx2⟩ := past_of (show Below w.heap.size w ((w.past x).alloc (.cells #[.int .i64 c, .int .i64 p, .int .i64 d] 37)) by (repeat (first | exact Below.refl _ _ | refine RowKit.Below.past ?_ _ | refine RowKit.Below.alloc' ?_ _ | refine RowKit.Below.drew' ?_ | refine RowKit.Below.drewN' ?_ _ | refine RowKit.Below.setCell' ?_ (by simp [go_sem]) _)))
          go_roundw
          case rel => exact ⟨k + 1, x2, by go_num, by omega, by omega, hx2, hid (fun j hj => by
            by_cases e : j = k
            · subst e; exact HO.out
            · exact HJ.out j (by omega))⟩
          case measure => simp [intOf]; omega
    · obtain rfl : k = n := by omega
      have hm : mayF l = true := by
        rw [mayF_iff]
        refine ⟨by rw [EN.out]; exact hk6, fun x hx => ?_⟩
        obtain ⟨i, hi⟩ := List.mem_iff_getElem?.1 hx
        have hlt := (List.getElem?_eq_some_iff.1 hi).1
        have := HJ.out i (by rw [← EN.out]; exact hlt)
        rw [wk, hi] at this
        exact (okF_iff x).1 (by simpa using this)
      have HM := hid hm
      clear hm
      go_wp2
      go_ret
      refine Gives.mk (by rw [HM.out]; rfl) ?_
      (repeat (first | exact Below.refl _ _ | refine RowKit.Below.past ?_ _ | refine RowKit.Below.alloc' ?_ _ | refine RowKit.Below.drew' ?_ | refine RowKit.Below.drewN' ?_ _ | refine RowKit.Below.setCell' ?_ (by simp [go_sem]) _))
end Go.Proofs.Ytolhbcgmlaodbaa
namespace Go.Proofs.Ytolhbcgmlaodbaa
open Go.RowKit
theorem needE_tdiv {x : Wk} (h : WkOk x) {t : Int} (ht : ¬ t < x.d) : ((t - x.d).tdiv x.p + 1) * x.c = needE x t := by
  have := h.2.1.1
  rw [needE, if_neg ht, Int.tdiv_eq_ediv_of_nonneg (by omega)]
set_option maxHeartbeats 1000000 in
theorem need_any (x : Wk) (hx : WkOk x) (t : Int) (h0 : 0 ≤ t) (ht : t ≤ 100000) (w : World) :
    Calls Try.prog 27 #[.agg #[.int .i64 x.c, .int .i64 x.p, .int .i64 x.d], .int .i64 t] w (Gives (.int .i64 (needE x t)) w) := by
  have hb := needE_in hx ht
  obtain ⟨c, p, d⟩ := x
  obtain ⟨⟨c0, c1⟩, ⟨p0, p1⟩, ⟨d0, d1⟩⟩ := id hx
  simp only at c0 c1 p0 p1 d0 d1 hb ⊢
  by_cases hlt : t < d
  · have E := hid (show needE ⟨c, p, d⟩ t = 0 by unfold needE; rw [if_pos hlt])
    clear hb hx
    go_enter Try.func27, Try.ntmps27
    go_wp2
    go_ret
    refine Gives.mk (by rw [E.out]; rfl) ?_
    (repeat (first | exact Below.refl _ _ | refine RowKit.Below.past ?_ _ | refine RowKit.Below.alloc' ?_ _ | refine RowKit.Below.drew' ?_ | refine RowKit.Below.drewN' ?_ _ | refine RowKit.Below.setCell' ?_ (by simp [go_sem]) _))
  · have he := needE_tdiv hx hlt
    simp only at he
    obtain ⟨q, eq⟩ : ∃ q, (t - d).tdiv p = q := ⟨_, rfl⟩
    rw [eq] at he
    have hq : 0 ≤ q ∧ q ≤ 100000 := by
      rw [← eq, Int.tdiv_eq_ediv_of_nonneg (by omega)]
      exact ⟨Int.ediv_nonneg (by omega) (by omega), Int.le_trans (Int.ediv_le_self _ (by omega)) (by omega)⟩
    have e1 : IntKind.i64.wrap (t - d) = t - d := by rw [IntKind.wrap_i64]; omega
    have e2 : IntKind.i64.wrap ((t - d).tdiv p) = q := by rw [eq, IntKind.wrap_i64]; omega
    have e3 : IntKind.i64.wrap (q + 1) = q + 1 := by rw [IntKind.wrap_i64]; omega
    have e4 : IntKind.i64.wrap ((q + 1) * c) = needE ⟨c, p, d⟩ t := by rw [he, IntKind.wrap_i64]; omega
    have hp0 : ¬ p = 0 := by omega
    obtain ⟨r, er⟩ : ∃ r, needE ⟨c, p, d⟩ t = r := ⟨_, rfl⟩
    rw [er] at e4 ⊢
    clear hb hx he er
    go_enter Try.func27, Try.ntmps27
    go_wp2_with fail
    refine wp_region_past (by kernel_rfl) (by kernel_rfl) ?_
    repeat (go_big_quiet_step ((fail)))
    refine wpQuiet_nil ?_
    rintro _ ⟨_, rfl⟩
    go_wp2_with fail
    go_ret
    refine Gives.mk ?_ (by (repeat (first | exact Below.refl _ _ | refine RowKit.Below.past ?_ _ | refine RowKit.Below.alloc' ?_ _ | refine RowKit.Below.drew' ?_ | refine RowKit.Below.drewN' ?_ _ | refine RowKit.Below.setCell' ?_ (by simp [go_sem]) _)))
    first | rfl | simp [e1, e2, e3, e4, eq]
end Go.Proofs.Ytolhbcgmlaodbaa
