/-
  Layer 33: how many pieces are ahead. No condition.
-/
import Derived.Test.YtjihhpipdhhjkaaSpS
import Derived.Test.YtjihhpipdhhjkaaLift
import Derived.WalkKit
import Derived.WalkSpells
import Derived.WalkLawsBesides
import Derived.BigQuiet
import Derived.Deep.CutRange
namespace Go.Proofs.Ytjihhpipdhhjkaa
open Go.RowKit
/-! Pieces, and what is ahead. -/
def ltV (a b : Int) : Bool := decide (a < b)
def cmV (a b : Int) : Int := if ltV a b then -1 else if ltV b a then 1 else 0
def pcV (x : Int × Int) : List Value := [.int .i64 x.1, .int .i64 x.2]
theorem pcV_length (x : Int × Int) : (pcV x).length = 2 := rfl
def pc (l : List (Int × Int)) (k : Nat) : Int × Int := l[k]?.getD (0, 0)
theorem pc_at {w : World} {A : Option Addr} {l : List (Int × Int)} (h : Cells w A (tab pcV l)) {k : Nat} (hk : k < l.length) :
    ∃ b off : Nat, A = some ⟨b, off, none⟩ ∧ w.cell? ⟨b, off + k * 2, none⟩ = some (.int .i64 (pc l k).1) ∧ w.cell? ⟨b, off + k * 2 + 1, none⟩ = some (.int .i64 (pc l k).2) := by
  have e : l[k]? = some (pc l k) := by simp [pc, hk]
  obtain ⟨b, off, rfl, hc⟩ := h.tab_at pcV_length e (by omega)
  exact ⟨b, off, rfl, by simpa using hc 0 _ rfl, hc 1 _ rfl⟩
def ahF (l : List (Int × Int)) (x : Int) (there : Bool) : Nat := bsN (fun k => cmpT there (cmV (pc l k).2 x)) l.length
def beF (l : List (Int × Int)) (x : Int) (there : Bool) : Nat := bsN (fun k => cmpT there (cmV (pc l k).1 x)) l.length
theorem nan_any (a : Int) (w : World) : Calls Try.prog 44 #[.int .i64 a] w (fun e w' => e = .returned (.bool false) ∧ w' = w) := by
  go_enter Try.func44, Try.ntmps44
  go_wp2
  go_ret
  exact ⟨by simp, rfl⟩
set_option maxHeartbeats 1000000 in
theorem compare_any (a b : Int) (w : World) : Calls Try.prog 36 #[.int .i64 a, .int .i64 b] w (fun e w' => e = .returned (.int .i64 (cmV a b)) ∧ w' = w) := by
  rcases Bool.eq_false_or_eq_true (ltV a b) with h | h
  · have HE := hid (show cmV a b = -1 by unfold cmV; rw [if_pos h])
    unfold ltV at h
    go_enter Try.func36, Try.ntmps36
    go_wp2_with (go_at_call 44; refine (nan_any _ _).mono ?_; rintro _ _ ⟨rfl, rfl⟩)
    go_ret
    exact ⟨by rw [HE.out]; rfl, rfl⟩
  · rcases Bool.eq_false_or_eq_true (ltV b a) with h2 | h2
    · have HE := hid (show cmV a b = 1 by unfold cmV; rw [if_neg (by simp [h]), if_pos h2])
      have h3 : decide (b < a) = true := by exact h2
      unfold ltV at h h2
      go_enter Try.func36, Try.ntmps36
      go_wp2_with (go_at_call 44; refine (nan_any _ _).mono ?_; rintro _ _ ⟨rfl, rfl⟩)
      go_ret
      exact ⟨by rw [HE.out]; rfl, rfl⟩
    · have HE := hid (show cmV a b = 0 by unfold cmV; rw [if_neg (by simp [h]), if_neg (by simp [h2])])
      have h3 : decide (b < a) = false := by exact h2
      unfold ltV at h h2
      go_enter Try.func36, Try.ntmps36
      go_wp2_with (go_at_call 44; refine (nan_any _ _).mono ?_; rintro _ _ ⟨rfl, rfl⟩)
      go_ret
      exact ⟨by rw [HE.out]; rfl, rfl⟩
set_option maxHeartbeats 1000000 in
theorem aheadC_any (p : Int × Int) (x : Int) (c : Nat) (there : Bool) (w : World) (hc : w.cell? ⟨c, 0, none⟩ = some (.bool there)) :
    Calls Try.prog 35 #[.agg #[.int .i64 p.1, .int .i64 p.2], .int .i64 x, .pointer (some ⟨c, 0, none⟩)] w (Gives (.int .i64 (cmpT there (cmV p.2 x))) w) := by
  have HC := hid (fun W => compare_any p.2 x W)
  obtain ⟨z, ez⟩ : ∃ z, cmV p.2 x = z := ⟨_, rfl⟩
  rw [ez] at HC ⊢
  clear ez
  have hcl := World.block_lt_of_cell? w _ hc
  rcases beq_cases z 0 with hz | hz <;> cases there
  all_goals
    have HE := hid (fun t => (show cmpT t z = if z == 0 && t then -1 else z from rfl))
    go_enter Try.func35, Try.ntmps35
    go_wp2_with (go_at_call 36; refine (HC.out _).mono ?_; rintro _ w7 ⟨rfl, h7⟩; rw [h7]; clear h7 w7)
    go_ret
    refine Gives.mk (by rw [HE.out, hz]; rfl) ?_
    (repeat (first | exact Below.refl _ _ | refine RowKit.Below.past ?_ _ | refine RowKit.Below.alloc' ?_ _ | refine RowKit.Below.drew' ?_ | refine RowKit.Below.drewN' ?_ _ | refine RowKit.Below.setCell' ?_ (by simp [go_sem]) _))
set_option maxHeartbeats 1000000 in
theorem begunC_any (p : Int × Int) (x : Int) (c : Nat) (there : Bool) (w : World) (hc : w.cell? ⟨c, 0, none⟩ = some (.bool there)) :
    Calls Try.prog 37 #[.agg #[.int .i64 p.1, .int .i64 p.2], .int .i64 x, .pointer (some ⟨c, 0, none⟩)] w (Gives (.int .i64 (cmpT there (cmV p.1 x))) w) := by
  have HC := hid (fun W => compare_any p.1 x W)
  obtain ⟨z, ez⟩ : ∃ z, cmV p.1 x = z := ⟨_, rfl⟩
  rw [ez] at HC ⊢
  clear ez
  have hcl := World.block_lt_of_cell? w _ hc
  rcases beq_cases z 0 with hz | hz <;> cases there
  all_goals
    have HE := hid (fun t => (show cmpT t z = if z == 0 && t then -1 else z from rfl))
    go_enter Try.func37, Try.ntmps37
    go_wp2_with (go_at_call 36; refine (HC.out _).mono ?_; rintro _ w7 ⟨rfl, h7⟩; rw [h7]; clear h7 w7)
    go_ret
    refine Gives.mk (by rw [HE.out, hz]; rfl) ?_
    (repeat (first | exact Below.refl _ _ | refine RowKit.Below.past ?_ _ | refine RowKit.Below.alloc' ?_ _ | refine RowKit.Below.drew' ?_ | refine RowKit.Below.drewN' ?_ _ | refine RowKit.Below.setCell' ?_ (by simp [go_sem]) _))
set_option maxRecDepth 100000 in
set_option maxHeartbeats 4000000 in
/-- Found by halves, whatever the closure tells. -/
theorem search_any (fn : Nat) (lb : Array Value) (A : Option Addr) (ca n : Nat) (l : List (Int × Int)) (en : l.length = n) (hn : n ≤ 1000000) (x : Int) (f : Nat → Int) (w : World) (ha : Cells w A (tab pcV l))
    (hfn : ∃ c, lb = #[.pointer (some ⟨c, 0, none⟩)])
    (hf : (fn = 35 ∨ fn = 37))
    (hcall : ∀ (k : Nat) (y : Past), k < n → Calls Try.prog fn (#[.agg #[.int .i64 (pc l k).1, .int .i64 (pc l k).2], .int .i64 x] ++ lb) (w.past y) (Gives (.int .i64 (f k)) (w.past y))) :
    Calls Try.prog 34 #[.slice A n ca, .int .i64 x, .func (.func fn) #[] lb] w (BsP (bsN f n) w) := by
  obtain ⟨c, rfl⟩ := hfn
  have HA := hid ha
  have EN := hid en
  have HCL := hid hcall
  clear ha en hcall
  rcases hf with rfl | rfl
  all_goals
    go_enter Try.func34, Try.ntmps34
    go_wp2_with fail
    go_loopw [9, 10, 11] (fun i j _ wr => ∃ (p q m : Nat) (y : Past), i = .int .i64 (p : Int) ∧ j = .int .i64 (q : Int) ∧ p ≤ q ∧ q ≤ n ∧ q - p ≤ m ∧ Hid (bsN f n = bsF f m p q) ∧ wr = w.past y) (fun i j _ _ => natI j - natI i)
    case atStart => exact ⟨0, n, n, _, rfl, rfl, Nat.zero_le _, Nat.le_refl _, by omega, hid rfl, w.past_refl⟩
    case round =>
      obtain ⟨p, q, m, y, rfl, rfl, hpq, hqn, hm, HB, rfl⟩ := hrel
      by_cases hlt : p < q
      · obtain ⟨m', em⟩ : ∃ m', m = m' + 1 := ⟨m - 1, by omega⟩
        subst em
        have hh1 : p ≤ (p + q) / 2 := by omega
        have hh2 : (p + q) / 2 < q := by omega
        have HB2 := hid (show bsN f n = if f ((p + q) / 2) < 0 then bsF f m' ((p + q) / 2 + 1) q else bsF f m' p ((p + q) / 2) by rw [HB.out, bsF, if_pos hlt])
        obtain ⟨b, o, rfl, c0, c1⟩ := pc_at (HA.out.past y) (k := (p + q) / 2) (by rw [EN.out]; omega)
        have HC := hid (HCL.out ((p + q) / 2) y (by omega))
        obtain ⟨z, ez⟩ : ∃ z, f ((p + q) / 2) = z := ⟨_, rfl⟩
        rw [ez] at HC HB2
        simp only [List.append_toArray, List.cons_append, List.nil_append] at HC
        obtain ⟨pa, epa⟩ : ∃ r, pc l ((p + q) / 2) = r := ⟨_, rfl⟩
        rw [epa] at HC c0 c1
        clear ez HB epa
        rcases dec_cases (z < 0) with hz | hz
        · have HB3 := hid (show bsN f n = bsF f m' ((p + q) / 2 + 1) q by rw [HB2.out, if_pos (by simpa using hz)])
          clear HB2
          go_wp2_with (first | (go_at_call 35; refine HC.out.mono ?_; rintro _ _ ⟨rfl, y2, rfl⟩) | (go_at_call 37; refine HC.out.mono ?_; rintro _ _ ⟨rfl, y2, rfl⟩))
          go_roundw
          case rel => exact ⟨(p + q) / 2 + 1, q, m', _, congrArg (Value.int .i64) (by omega), rfl, by omega, by omega, by omega, HB3, rfl⟩
          case measure => simp [natI]; omega
        · have HB3 := hid (show bsN f n = bsF f m' p ((p + q) / 2) by rw [HB2.out, if_neg (by simpa using hz)])
          clear HB2
          go_wp2_with (first | (go_at_call 35; refine HC.out.mono ?_; rintro _ _ ⟨rfl, y2, rfl⟩) | (go_at_call 37; refine HC.out.mono ?_; rintro _ _ ⟨rfl, y2, rfl⟩))
          go_roundw
          case rel => exact ⟨p, (p + q) / 2, m', _, rfl, congrArg (Value.int .i64) (by omega), by omega, by omega, by omega, HB3, rfl⟩
          case measure => simp [natI]; omega
      · obtain rfl : p = q := by omega
        have HB3 := hid (show bsN f n = p by rw [HB.out, bsF_end])
        clear HB
        by_cases hpn : p < n
        · obtain ⟨b, o, rfl, c0, c1⟩ := pc_at (HA.out.past y) (k := p) (by rw [EN.out]; omega)
          have HC := hid (HCL.out p y (by omega))
          obtain ⟨z, ez⟩ : ∃ z, f p = z := ⟨_, rfl⟩
          rw [ez] at HC
          simp only [List.append_toArray, List.cons_append, List.nil_append] at HC
          obtain ⟨pa, epa⟩ : ∃ q, pc l p = q := ⟨_, rfl⟩
          rw [epa] at HC c0 c1
          clear ez epa
          go_wp2_with (first | (go_at_call 35; refine HC.out.mono ?_; rintro _ _ ⟨rfl, y2, rfl⟩) | (go_at_call 37; refine HC.out.mono ?_; rintro _ _ ⟨rfl, y2, rfl⟩))
          go_ret2
          exact ⟨_, _, by rw [HB3.out]; rfl, rfl⟩
        · go_wp2_with fail
          go_ret2
          exact ⟨_, _, by rw [HB3.out]; rfl, rfl⟩

end Go.Proofs.Ytjihhpipdhhjkaa
