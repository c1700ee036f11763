/-
  Layer 18: who is behind whom, who is active, by the document's ledger. No condition.
-/
import Derived.Test.YtookaodcdglhfaaDoorRefL
namespace Go.Proofs.YtookaodcdglhfaaDoor
open Go.RowKit
theorem behK_no {l : List Pt} {p : Int} (h : isP l p = false) (has : Nat → Bool) : ∀ k, behK l p has k = 0
  | 0 => rfl
  | k + 1 => by
    have e : behK l p has (k + 1) = if has k then stepT l p (behK l p has k) k else behK l p has k := rfl
    rw [e, behK_no h has k]
    split
    · unfold stepT; rw [if_neg (fun c => by rw [h] at c; cases c.1)]
    · rfl
theorem tk_self (l : List Pt) (k : Nat) : tk l k k = 0 := by unfold tk; rw [if_neg (by omega)]
set_option maxRecDepth 100000 in
set_option maxHeartbeats 8000000 in
theorem RBehind_any {B b : Nat} {w : World} {l : List Pt} {sl cr fl : Int} {has : Nat → Bool} (hl8 : l.length ≤ 8) (hv : ∀ k, k < l.length → U64 (pt l k).v) (h : RfAt B w b l sl cr fl has) (p : Int) (s : Nat) :
    Calls Tryd.prog 23 #[.pointer (some ⟨b, 0, none⟩), .int .i64 p, .int .u64 s] w (Gives (.int .i64 (behF l p s)) w) := by
  obtain ⟨A, c, q0⟩ := h.len
  have HI := hid (RIs_any h p)
  cases e : isP l p with
  | false =>
    have HE := hid (show behF l p s = 0 from behK_no e _ _)
    rw [e] at HI
    clear e h q0
    go_enter Tryd.func23, Tryd.ntmps23
    go_wp2_with (go_at_call 24; refine HI.out.mono ?_; rintro _ _ ⟨rfl, x1, rfl⟩)
    go_ret
    exact Gives.mk (by rw [HE.out]; rfl) (w.below_past _)
  | true =>
    obtain ⟨h0, h1⟩ := isP_iff.1 e
    obtain ⟨y, rfl⟩ := Int.eq_ofNat_of_zero_le h0
    rw [e] at HI
    obtain ⟨n, en⟩ : ∃ n, l.length = n := ⟨_, rfl⟩
    have HE := hid (show behF l y s = behK l y (fun i => s.testBit i) n by rw [← en]; rfl)
    have HP := hid (fun j (hj : j < n) => (show ∃ g cap, A = some ⟨g, 0, none⟩ ∧ w.cell? ⟨g, j * 4, none⟩ = some (.int .i64 (pt l j).w) ∧ w.cell? ⟨g, j * 4 + 1, none⟩ = some (.int .u64 (pt l j).v) by
      obtain ⟨g, cap, r0, r1, r2, _⟩ := h.party (k := j) (by omega)
      rw [q0] at r0
      simp at r0
      exact ⟨g, cap, r0.1, r1, r2⟩))
    have HK := hid (behK_in hv (y : Int) (fun i => s.testBit i))
    rw [en] at q0 hl8
    have hy : y < n := by omega
    have EN := hid en
    have HV := hid hv
    have EI := hid e
    clear h en hv h0 h1 e
    go_enter Tryd.func23, Tryd.ntmps23
    go_wp2_with (go_at_call 24; refine HI.out.mono ?_; rintro _ _ ⟨rfl, x1, rfl⟩)
    go_loopw [7, 8, 9, 10] (fun v i _ _ wr => ∃ (k : Nat) (x : Past), k ≤ n ∧ i = .int .i64 k ∧ v = .int .i64 (behK l y (fun i => s.testBit i) k) ∧ wr = w.past x) (fun _ i _ _ _ => n - natI i)
    case atStart => exact ⟨0, x1, Nat.zero_le _, rfl, rfl, rfl⟩
    case round =>
      obtain ⟨k, x, hkn, rfl, rfl, rfl⟩ := hrel
      by_cases hlt : k < n
      · obtain ⟨g, cap, eA, c0, c1⟩ := HP.out k hlt
        subst eA
        obtain ⟨g2, cap2, eA2, d0, d1⟩ := HP.out y hy
        cases eA2
        have HHS := hid (fun W => RHasN_gives s k (by omega) W)
        have HSUC := hid (show behK l y (fun i => s.testBit i) (k + 1) = if s.testBit k then stepT l y (behK l y (fun i => s.testBit i) k) k else behK l y (fun i => s.testBit i) k from rfl)
        have hbk := HK.out k
        have hbd : 409518128176260 * (k : Int) ≤ 409518128176260 * 8 := by omega
        obtain ⟨bo, ebo⟩ : ∃ bo, behK l y (fun i => s.testBit i) k = bo := ⟨_, rfl⟩
        rw [ebo] at HSUC hbk ⊢
        have hb1 : 0 ≤ bo := hbk.1
        have hb2 : bo ≤ 3276145025410080 := by omega
        clear ebo hbk hbd
        have HF := hid (show ∀ (v : Int) (x : Past), behK l y (fun i => s.testBit i) (k + 1) = v → ∃ (k' : Nat) (x' : Past), k' ≤ n ∧ Value.int .i64 ((k : Int) + 1) = .int .i64 k' ∧ Value.int .i64 v = .int .i64 (behK l y (fun i => s.testBit i) k') ∧ w.past x = w.past x' from fun v x hv => ⟨k + 1, x, by omega, by go_num, by rw [hv], rfl⟩)
        have HST := hid (show stepT l y bo k = bo + tk l y k by unfold stepT; rw [if_pos ⟨EI.out, by rw [EN.out]; exact hlt⟩]; rfl)
        by_cases hky : k = y
        · subst hky
          have HS := hid (show behK l k (fun i => s.testBit i) (k + 1) = bo by rw [HSUC.out, HST.out, tk_self]; split <;> omega)
          have hbq : ((k : Int) == (k : Int)) = true := by simp
          go_wp2_with fail
          refine wp_region_past (by kernel_rfl) (by kernel_rfl) ?_
          repeat (go_big_quiet_step ((fail)))
          refine wpQuiet_nil ?_
          rintro _ ⟨_, rfl⟩
          go_wp2
          go_roundw
          case rel => exact HF.out bo _ HS.out
          case measure => simp [natI]; omega
        · have hbq : ((k : Int) == (y : Int)) = false := by simp; omega
          cases ht : s.testBit k with
          | false =>
            rw [ht] at HHS
            have HS := hid (show behK l y (fun i => s.testBit i) (k + 1) = bo by rw [HSUC.out, ht]; rfl)
            clear ht
            go_wp2_with fail
            refine wp_region_past (by kernel_rfl) (by kernel_rfl) ?_
            repeat (go_big_quiet_step ((first | (go_at_call 37; first | with_reducible exact Calls.in_past (HHS.out _) | with_reducible exact Calls.in_past2 (HHS.out _)) | (go_at_call 37; first | exact Calls.in_past (HHS.out _) | exact Calls.in_past2 (HHS.out _)))))
            refine wpQuiet_nil ?_
            rintro _ ⟨_, rfl⟩
            go_wp2
            go_roundw
            case rel => exact HF.out bo _ HS.out
            case measure => simp [natI]; omega
          | true =>
            rw [ht] at HHS
            have HS := hid (show behK l y (fun i => s.testBit i) (k + 1) = bo + tk l y k by rw [HSUC.out, ht, ← HST.out]; rfl)
            have HTK := hid (show tk l y k = if (pt l k).v < (pt l y).v then tkF ((pt l y).v - (pt l k).v) (lockF (pt l k).w) else 0 from rfl)
            obtain ⟨vx1, vx2⟩ := HV.out k (by rw [EN.out]; exact hlt)
            obtain ⟨vy1, vy2⟩ := HV.out y (by rw [EN.out]; exact hy)
            clear ht
            by_cases hvv : (pt l k).v < (pt l y).v
            · have hvb : decide ((pt l y).v ≤ (pt l k).v) = false := by simp; omega
              rw [if_pos hvv] at HTK
              go_wp2_with fail
              refine wp_region_past (by kernel_rfl) (by kernel_rfl) ?_
              repeat (go_big_quiet_step ((first | (go_at_call 37; first | with_reducible exact Calls.in_past (HHS.out _) | with_reducible exact Calls.in_past2 (HHS.out _)) | (go_at_call 37; first | exact Calls.in_past (HHS.out _) | exact Calls.in_past2 (HHS.out _)))))
              refine wpQuiet_nil ?_
              rintro _ ⟨_, rfl⟩
              obtain ⟨E, eE⟩ : ∃ E, lockF (pt l k).w = E := ⟨_, rfl⟩
              obtain ⟨G, eG⟩ : ∃ G, (pt l y).v - (pt l k).v = G := ⟨_, rfl⟩
              have hE : 45045 ≤ E := by rw [← eE]; exact lock_lo _
              have hE2 : E ≤ 720720 := by rw [← eE]; exact (lock_in _).2
              have HLK := hid (fun W => eE ▸ RLock_any (pt l k).w W)
              rw [eE, eG] at HTK
              have hG1 : 0 ≤ G := by omega
              have hG2 : G < 18446744073709551616 := by omega
              have hGw : IntKind.u64.wrap ((pt l y).v - (pt l k).v) = G := by rw [IntKind.wrap_u64]; omega
              obtain ⟨t1, t2, t3, t4, t5, t6⟩ := tkF_in hG1 hG2 hE
              have hTK2 : tkF G E = G / E + (if G % E > 0 then 1 else 0) := rfl
              rw [hTK2] at HTK t5 t6
              obtain ⟨Q, eQ⟩ : ∃ Q, G / E = Q := ⟨_, rfl⟩
              obtain ⟨R, eR⟩ : ∃ R, G % E = R := ⟨_, rfl⟩
              have hq2 : IntKind.u64.wrap (Int.tdiv G E) = Q := by rw [Int.tdiv_eq_ediv_of_nonneg hG1, eQ, IntKind.wrap_u64]; omega
              have hr2 : Int.tmod G E = R := by rw [Int.tmod_eq_emod_of_nonneg hG1, eR]
              rw [eQ] at t1 t2 HTK
              rw [eR] at t3 HTK
              have hc1 : IntKind.i64.wrap Q = Q := by rw [IntKind.wrap_i64]; omega
              have hs1 : IntKind.i64.wrap (bo + Q) = bo + Q := by rw [IntKind.wrap_i64]; omega
              have hs2 : IntKind.i64.wrap (bo + Q + 1) = bo + Q + 1 := by rw [IntKind.wrap_i64]; omega
              have hE0 : ¬ E = 0 := by omega
              clear eE eG hvv hvb t4 t5 t6 hTK2
              by_cases hR : 0 < R
              · rw [if_pos hR] at HTK
                have hR2 : decide (0 < R) = true := by simpa using hR
                go_wp2_with (go_at_call 34; refine (HLK.out _).mono ?_; rintro _ _ ⟨rfl, xl, rfl⟩)
                refine wp_region_past (by kernel_rfl) (by kernel_rfl) ?_
                repeat (go_big_quiet_step ((fail)))
                refine wpQuiet_nil ?_
                rintro _ ⟨_, rfl⟩
                go_wp2
                go_roundw
                case rel => exact HF.out (bo + Q + 1) _ (by rw [HS.out, HTK.out, ← Int.add_assoc])
                case measure => simp [natI]; omega
              · rw [if_neg hR] at HTK
                have hR2 : decide (0 < R) = false := by simpa using hR
                go_wp2_with (go_at_call 34; refine (HLK.out _).mono ?_; rintro _ _ ⟨rfl, xl, rfl⟩)
                refine wp_region_past (by kernel_rfl) (by kernel_rfl) ?_
                repeat (go_big_quiet_step ((fail)))
                refine wpQuiet_nil ?_
                rintro _ ⟨_, rfl⟩
                go_wp2
                go_roundw
                case rel => exact HF.out (bo + Q) _ (by rw [HS.out, HTK.out, Int.add_zero])
                case measure => simp [natI]; omega
            · have hvb : decide ((pt l y).v ≤ (pt l k).v) = true := by simp; omega
              rw [if_neg hvv] at HTK
              clear hvv
              go_wp2_with fail
              refine wp_region_past (by kernel_rfl) (by kernel_rfl) ?_
              repeat (go_big_quiet_step ((first | (go_at_call 37; first | with_reducible exact Calls.in_past (HHS.out _) | with_reducible exact Calls.in_past2 (HHS.out _)) | (go_at_call 37; first | exact Calls.in_past (HHS.out _) | exact Calls.in_past2 (HHS.out _)))))
              refine wpQuiet_nil ?_
              rintro _ ⟨_, rfl⟩
              go_wp2
              go_roundw
              case rel => exact HF.out bo _ (by rw [HS.out, HTK.out, Int.add_zero])
              case measure => simp [natI]; omega
      · obtain rfl : k = n := by omega
        rw [← HE.out]
        go_wp2
        go_ret
        exact Gives.mk rfl (w.below_past _)
set_option maxHeartbeats 4000000 in
theorem RActive_any {B b : Nat} {w : World} {l : List Pt} {sl cr fl : Int} {a : Nat} (hl8 : l.length ≤ 8) (ha : a < 2 ^ l.length) (h : RfAt B w b l sl cr fl (fun i => a.testBit i)) :
    Calls Tryd.prog 20 #[.pointer (some ⟨b, 0, none⟩)] w (Gives (.int .u64 (a : Int)) w) := by
  obtain ⟨A, c, q0⟩ := h.len
  obtain ⟨n, en⟩ : ∃ n, l.length = n := ⟨_, rfl⟩
  have HP := hid (fun j (hj : j < n) => (show ∃ g cap, A = some ⟨g, 0, none⟩ ∧ w.cell? ⟨g, j * 4 + 3, none⟩ = some (.bool (a.testBit j)) by
    obtain ⟨g, cap, r0, r1, r2, r3, r4⟩ := h.party (k := j) (by omega)
    rw [q0] at r0
    simp at r0
    exact ⟨g, cap, r0.1, r4⟩))
  rw [en] at q0 hl8 ha
  have HA := hid ha
  clear h en ha
  go_enter Tryd.func20, Tryd.ntmps20
  go_wp2
  go_loopw [3, 4] (fun v i wr => ∃ (k : Nat) (x : Past), k ≤ n ∧ i = .int .i64 k ∧ v = .int .u64 ((a % 2 ^ k : Nat) : Int) ∧ wr = w.past x) (fun _ i _ => n - natI i)
  case atStart => exact ⟨0, ⟨#[], w.drawn⟩, Nat.zero_le _, rfl, by rw [Nat.pow_zero, Nat.mod_one]; rfl, World.past_refl w⟩
  case round =>
    obtain ⟨k, x, hkn, rfl, rfl, rfl⟩ := hrel
    by_cases hlt : k < n
    · obtain ⟨g, cap, eA, c1⟩ := HP.out k hlt
      subst eA
      have hm : a % 2 ^ k < 2 ^ k := Nat.mod_lt _ (Nat.two_pow_pos k)
      have h8 : 2 ^ k ≤ 2 ^ 8 := Nat.pow_le_pow_right (by omega) (by omega)
      have HSUC := hid (Nat.mod_pow_succ (x := a) (b := 2) (k := k))
      have HBT := hid (Nat.testBit_eq_decide_div_mod_eq (x := a) (i := k))
      have HW := hid (fun W => RWithN_any (a % 2 ^ k) k (by omega) (by rw [Nat.testBit_mod_two_pow]; simp) (by omega) W)
      obtain ⟨m, em⟩ : ∃ m, a % 2 ^ k = m := ⟨_, rfl⟩
      rw [em] at HW HSUC ⊢
      clear em hm h8
      cases ht : a.testBit k with
      | false =>
        have HS := hid (show a % 2 ^ (k + 1) = m by
          have hb := HBT.out
          rw [ht] at hb
          have hz : a / 2 ^ k % 2 = 0 := by
            have : ¬ a / 2 ^ k % 2 = 1 := by simpa using hb.symm
            omega
          rw [HSUC.out, hz]; simp)
        rw [ht] at c1
        clear ht
        go_wp2
        go_roundw
        case rel => exact ⟨k + 1, x, by omega, by go_num, by rw [HS.out], rfl⟩
        case measure => simp [natI]; omega
      | true =>
        have HS := hid (show a % 2 ^ (k + 1) = m + 2 ^ k by
          have hb := HBT.out
          rw [ht] at hb
          have hz : a / 2 ^ k % 2 = 1 := by simpa using hb.symm
          rw [HSUC.out, hz]; simp)
        rw [ht] at c1
        clear ht
        obtain ⟨m2, em2⟩ : ∃ m2, m + 2 ^ k = m2 := ⟨_, rfl⟩
        rw [em2] at HW HS
        clear em2
        go_wp2_with (go_at_call 40; refine (HW.out _).mono ?_; rintro _ _ ⟨rfl, xl, rfl⟩)
        go_roundw
        case rel => exact ⟨k + 1, _, by omega, by go_num, by rw [HS.out], rfl⟩
        case measure => simp [natI]; omega
    · obtain rfl : k = n := by omega
      rw [Nat.mod_eq_of_lt HA.out]
      go_wp2
      go_ret
      exact Gives.mk rfl (w.below_past _)
end Go.Proofs.YtookaodcdglhfaaDoor
