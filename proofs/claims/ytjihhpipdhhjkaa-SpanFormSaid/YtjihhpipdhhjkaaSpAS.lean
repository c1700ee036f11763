/-
  Layer 33: how many pieces of strings are ahead. No condition.
-/
import Derived.Test.YtjihhpipdhhjkaaSpA
namespace Go.Proofs.Ytjihhpipdhhjkaa
open Go.RowKit
theorem bl_irr : ∀ (x : List UInt8), Op.bytesLess x x = false
  | [] => rfl
  | a :: x => by rw [Op.bytesLess, bl_irr x]; simp
theorem bl_tot : ∀ (x y : List UInt8), Op.bytesLess x y = false → Op.bytesLess y x = false → x = y
  | [], [], _, _ => rfl
  | a :: x, [], _, h => by simp [Op.bytesLess] at h
  | [], b :: y, h, _ => by simp [Op.bytesLess] at h
  | a :: x, b :: y, h, k => by
    rw [Op.bytesLess] at h k
    simp only [Bool.or_eq_false_iff, decide_eq_false_iff_not, Bool.and_eq_false_iff] at h k
    have hab : a = b := by
      have h1 := h.1
      have k1 := k.1
      rw [UInt8.lt_iff_toNat_lt] at h1 k1
      exact UInt8.toNat_inj.1 (by omega)
    subst hab
    have h2 : Op.bytesLess x y = false := by rcases h.2 with h | h; (simp at h); exact h
    have k2 : Op.bytesLess y x = false := by rcases k.2 with h | h; (simp at h); exact h
    rw [bl_tot x y h2 k2]
theorem bl_asym (x y : List UInt8) : Op.bytesLess x y = true → Op.bytesLess y x = false := by
  induction x generalizing y with
  | nil => intro h; cases y <;> simp [Op.bytesLess] at h ⊢
  | cons a x ih =>
    intro h
    cases y with
    | nil => simp [Op.bytesLess] at h
    | cons b y =>
      rw [Op.bytesLess] at h ⊢
      simp only [Bool.or_eq_true, decide_eq_true_eq, Bool.and_eq_true, beq_iff_eq, Bool.or_eq_false_iff, decide_eq_false_iff_not, Bool.and_eq_false_iff] at h ⊢
      rcases h with h | ⟨h, h2⟩
      · rw [UInt8.lt_iff_toNat_lt] at h
        refine ⟨?_, .inl ?_⟩
        · rw [UInt8.lt_iff_toNat_lt]; omega
        · have : b ≠ a := fun e => by rw [e] at h; omega
          simpa using this
      · subst h
        exact ⟨by rw [UInt8.lt_iff_toNat_lt]; omega, .inr (ih y h2)⟩
theorem bl_gt {a b : ByteArray} (h : Op.bytesLess b.toList a.toList = true) : (!(a.toList == b.toList)) = true := by
  have : (a.toList == b.toList) = false := by
    have : a.toList ≠ b.toList := fun e => by rw [e, bl_irr] at h; cases h
    simpa using this
  rw [this]; rfl
theorem bl_ngt {a b : ByteArray} (h : Op.bytesLess a.toList b.toList = false) (h2 : Op.bytesLess b.toList a.toList = false) : (!(a.toList == b.toList)) = false := by
  rw [bl_tot _ _ h h2]; simp
/-! Pieces, and what is ahead. -/
def ltVS (a b : ByteArray) : Bool := Op.bytesLess a.toList b.toList
def cmVS (a b : ByteArray) : Int := if ltVS a b then -1 else if ltVS b a then 1 else 0
def pcVS (x : ByteArray × ByteArray) : List Value := [.string x.1, .string x.2]
theorem pcVS_length (x : ByteArray × ByteArray) : (pcVS x).length = 2 := rfl
def pcS (l : List (ByteArray × ByteArray)) (k : Nat) : ByteArray × ByteArray := l[k]?.getD (⟨#[]⟩, ⟨#[]⟩)
theorem pcS_at {w : World} {A : Option Addr} {l : List (ByteArray × ByteArray)} (h : Cells w A (tab pcVS l)) {k : Nat} (hk : k < l.length) :
    ∃ b off : Nat, A = some ⟨b, off, none⟩ ∧ w.cell? ⟨b, off + k * 2, none⟩ = some (.string (pcS l k).1) ∧ w.cell? ⟨b, off + k * 2 + 1, none⟩ = some (.string (pcS l k).2) := by
  have e : l[k]? = some (pcS l k) := by simp [pcS, hk]
  obtain ⟨b, off, rfl, hc⟩ := h.tab_at pcVS_length e (by omega)
  exact ⟨b, off, rfl, by simpa using hc 0 _ rfl, hc 1 _ rfl⟩
def ahFS (l : List (ByteArray × ByteArray)) (x : ByteArray) (there : Bool) : Nat := bsN (fun k => cmpT there (cmVS (pcS l k).2 x)) l.length
def beFS (l : List (ByteArray × ByteArray)) (x : ByteArray) (there : Bool) : Nat := bsN (fun k => cmpT there (cmVS (pcS l k).1 x)) l.length
theorem nanS_any (a : ByteArray) (w : World) : Calls Try.prog 45 #[.string a] w (fun e w' => e = .returned (.bool false) ∧ w' = w) := by
  go_enter Try.func45, Try.ntmps45
  go_wp2
  go_ret
  exact ⟨by simp, rfl⟩
set_option maxHeartbeats 1000000 in
theorem compareS_any (a b : ByteArray) (w : World) : Calls Try.prog 41 #[.string a, .string b] w (fun e w' => e = .returned (.int .i64 (cmVS a b)) ∧ w' = w) := by
  rcases Bool.eq_false_or_eq_true (ltVS a b) with h | h
  · have HE := hid (show cmVS a b = -1 by unfold cmVS; rw [if_pos h])
    unfold ltVS at h
    go_enter Try.func41, Try.ntmps41
    go_wp2_with (go_at_call 45; refine (nanS_any _ _).mono ?_; rintro _ _ ⟨rfl, rfl⟩)
    go_ret
    exact ⟨by rw [HE.out]; rfl, rfl⟩
  · rcases Bool.eq_false_or_eq_true (ltVS b a) with h2 | h2
    · have HE := hid (show cmVS a b = 1 by unfold cmVS; rw [if_neg (by simp [h]), if_pos h2])
      have h3 : (!(a.toList == b.toList)) = true := by exact bl_gt h2
      unfold ltVS at h h2
      go_enter Try.func41, Try.ntmps41
      go_wp2_with (go_at_call 45; refine (nanS_any _ _).mono ?_; rintro _ _ ⟨rfl, rfl⟩)
      go_ret
      exact ⟨by rw [HE.out]; rfl, rfl⟩
    · have HE := hid (show cmVS a b = 0 by unfold cmVS; rw [if_neg (by simp [h]), if_neg (by simp [h2])])
      have h3 : (!(a.toList == b.toList)) = false := by exact bl_ngt h h2
      unfold ltVS at h h2
      go_enter Try.func41, Try.ntmps41
      go_wp2_with (go_at_call 45; refine (nanS_any _ _).mono ?_; rintro _ _ ⟨rfl, rfl⟩)
      go_ret
      exact ⟨by rw [HE.out]; rfl, rfl⟩
set_option maxHeartbeats 1000000 in
theorem aheadCS_any (p : ByteArray × ByteArray) (x : ByteArray) (c : Nat) (there : Bool) (w : World) (hc : w.cell? ⟨c, 0, none⟩ = some (.bool there)) :
    Calls Try.prog 40 #[.agg #[.string p.1, .string p.2], .string x, .pointer (some ⟨c, 0, none⟩)] w (Gives (.int .i64 (cmpT there (cmVS p.2 x))) w) := by
  have HC := hid (fun W => compareS_any p.2 x W)
  obtain ⟨z, ez⟩ : ∃ z, cmVS p.2 x = z := ⟨_, rfl⟩
  rw [ez] at HC ⊢
  clear ez
  have hcl := World.block_lt_of_cell? w _ hc
  rcases beq_cases z 0 with hz | hz <;> cases there
  all_goals
    have HE := hid (fun t => (show cmpT t z = if z == 0 && t then -1 else z from rfl))
    go_enter Try.func40, Try.ntmps40
    go_wp2_with (go_at_call 41; refine (HC.out _).mono ?_; rintro _ w7 ⟨rfl, h7⟩; rw [h7]; clear h7 w7)
    go_ret
    refine Gives.mk (by rw [HE.out, hz]; rfl) ?_
    (repeat (first | exact Below.refl _ _ | refine RowKit.Below.past ?_ _ | refine RowKit.Below.alloc' ?_ _ | refine RowKit.Below.drew' ?_ | refine RowKit.Below.drewN' ?_ _ | refine RowKit.Below.setCell' ?_ (by simp [go_sem]) _))
set_option maxHeartbeats 1000000 in
theorem begunCS_any (p : ByteArray × ByteArray) (x : ByteArray) (c : Nat) (there : Bool) (w : World) (hc : w.cell? ⟨c, 0, none⟩ = some (.bool there)) :
    Calls Try.prog 42 #[.agg #[.string p.1, .string p.2], .string x, .pointer (some ⟨c, 0, none⟩)] w (Gives (.int .i64 (cmpT there (cmVS p.1 x))) w) := by
  have HC := hid (fun W => compareS_any p.1 x W)
  obtain ⟨z, ez⟩ : ∃ z, cmVS p.1 x = z := ⟨_, rfl⟩
  rw [ez] at HC ⊢
  clear ez
  have hcl := World.block_lt_of_cell? w _ hc
  rcases beq_cases z 0 with hz | hz <;> cases there
  all_goals
    have HE := hid (fun t => (show cmpT t z = if z == 0 && t then -1 else z from rfl))
    go_enter Try.func42, Try.ntmps42
    go_wp2_with (go_at_call 41; refine (HC.out _).mono ?_; rintro _ w7 ⟨rfl, h7⟩; rw [h7]; clear h7 w7)
    go_ret
    refine Gives.mk (by rw [HE.out, hz]; rfl) ?_
    (repeat (first | exact Below.refl _ _ | refine RowKit.Below.past ?_ _ | refine RowKit.Below.alloc' ?_ _ | refine RowKit.Below.drew' ?_ | refine RowKit.Below.drewN' ?_ _ | refine RowKit.Below.setCell' ?_ (by simp [go_sem]) _))
set_option maxRecDepth 100000 in
set_option maxHeartbeats 4000000 in
/-- Found by halves, whatever the closure tells. -/
theorem searchS_any (fn : Nat) (lb : Array Value) (A : Option Addr) (ca n : Nat) (l : List (ByteArray × ByteArray)) (en : l.length = n) (hn : n ≤ 1000000) (x : ByteArray) (f : Nat → Int) (w : World) (ha : Cells w A (tab pcVS l))
    (hfn : ∃ c, lb = #[.pointer (some ⟨c, 0, none⟩)])
    (hf : (fn = 40 ∨ fn = 42))
    (hcall : ∀ (k : Nat) (y : Past), k < n → Calls Try.prog fn (#[.agg #[.string (pcS l k).1, .string (pcS l k).2], .string x] ++ lb) (w.past y) (Gives (.int .i64 (f k)) (w.past y))) :
    Calls Try.prog 39 #[.slice A n ca, .string x, .func (.func fn) #[] lb] w (BsP (bsN f n) w) := by
  obtain ⟨c, rfl⟩ := hfn
  have HA := hid ha
  have EN := hid en
  have HCL := hid hcall
  clear ha en hcall
  rcases hf with rfl | rfl
  all_goals
    go_enter Try.func39, Try.ntmps39
    go_wp2_with fail
    go_loopw [9, 10, 11] (fun i j _ wr => ∃ (p q m : Nat) (y : Past), i = .int .i64 (p : Int) ∧ j = .int .i64 (q : Int) ∧ p ≤ q ∧ q ≤ n ∧ q - p ≤ m ∧ Hid (bsN f n = bsF f m p q) ∧ wr = w.past y) (fun i j _ _ => natI j - natI i)
    case atStart => exact ⟨0, n, n, _, rfl, rfl, Nat.zero_le _, Nat.le_refl _, by omega, hid rfl, w.past_refl⟩
    case round =>
      obtain ⟨p, q, m, y, rfl, rfl, hpq, hqn, hm, HB, rfl⟩ := hrel
      by_cases hlt : p < q
      · obtain ⟨m', em⟩ : ∃ m', m = m' + 1 := ⟨m - 1, by omega⟩
        subst em
        have hh1 : p ≤ (p + q) / 2 := by omega
        have hh2 : (p + q) / 2 < q := by omega
        have HB2 := hid (show bsN f n = if f ((p + q) / 2) < 0 then bsF f m' ((p + q) / 2 + 1) q else bsF f m' p ((p + q) / 2) by rw [HB.out, bsF, if_pos hlt])
        obtain ⟨b, o, rfl, c0, c1⟩ := pcS_at (HA.out.past y) (k := (p + q) / 2) (by rw [EN.out]; omega)
        have HC := hid (HCL.out ((p + q) / 2) y (by omega))
        obtain ⟨z, ez⟩ : ∃ z, f ((p + q) / 2) = z := ⟨_, rfl⟩
        rw [ez] at HC HB2
        simp only [List.append_toArray, List.cons_append, List.nil_append] at HC
        obtain ⟨pa, epa⟩ : ∃ r, pcS l ((p + q) / 2) = r := ⟨_, rfl⟩
        rw [epa] at HC c0 c1
        clear ez HB epa
        rcases dec_cases (z < 0) with hz | hz
        · have HB3 := hid (show bsN f n = bsF f m' ((p + q) / 2 + 1) q by rw [HB2.out, if_pos (by simpa using hz)])
          clear HB2
          go_wp2_with (first | (go_at_call 40; refine HC.out.mono ?_; rintro _ _ ⟨rfl, y2, rfl⟩) | (go_at_call 42; refine HC.out.mono ?_; rintro _ _ ⟨rfl, y2, rfl⟩))
          go_roundw
          case rel => exact ⟨(p + q) / 2 + 1, q, m', _, congrArg (Value.int .i64) (by omega), rfl, by omega, by omega, by omega, HB3, rfl⟩
          case measure => simp [natI]; omega
        · have HB3 := hid (show bsN f n = bsF f m' p ((p + q) / 2) by rw [HB2.out, if_neg (by simpa using hz)])
          clear HB2
          go_wp2_with (first | (go_at_call 40; refine HC.out.mono ?_; rintro _ _ ⟨rfl, y2, rfl⟩) | (go_at_call 42; refine HC.out.mono ?_; rintro _ _ ⟨rfl, y2, rfl⟩))
          go_roundw
          case rel => exact ⟨p, (p + q) / 2, m', _, rfl, congrArg (Value.int .i64) (by omega), by omega, by omega, by omega, HB3, rfl⟩
          case measure => simp [natI]; omega
      · obtain rfl : p = q := by omega
        have HB3 := hid (show bsN f n = p by rw [HB.out, bsF_end])
        clear HB
        by_cases hpn : p < n
        · obtain ⟨b, o, rfl, c0, c1⟩ := pcS_at (HA.out.past y) (k := p) (by rw [EN.out]; omega)
          have HC := hid (HCL.out p y (by omega))
          obtain ⟨z, ez⟩ : ∃ z, f p = z := ⟨_, rfl⟩
          rw [ez] at HC
          simp only [List.append_toArray, List.cons_append, List.nil_append] at HC
          obtain ⟨pa, epa⟩ : ∃ q, pcS l p = q := ⟨_, rfl⟩
          rw [epa] at HC c0 c1
          clear ez epa
          go_wp2_with (first | (go_at_call 40; refine HC.out.mono ?_; rintro _ _ ⟨rfl, y2, rfl⟩) | (go_at_call 42; refine HC.out.mono ?_; rintro _ _ ⟨rfl, y2, rfl⟩))
          go_ret2
          exact ⟨_, _, by rw [HB3.out]; rfl, rfl⟩
        · go_wp2_with fail
          go_ret2
          exact ⟨_, _, by rw [HB3.out]; rfl, rfl⟩

end Go.Proofs.Ytjihhpipdhhjkaa
