/-
  Layer 36: the document's: the last dispatch, and whether that one went. No condition.
-/
import Derived.Test.YtphlbomcnholhaaGanA
namespace Go.Proofs.Ytphlbomcnholhaa
open Go.RowKit
theorem goneK_true {l : List Ev} {who time : Int} {i k n : Nat} (hi : i ≤ k) (hk : k < n) (h : goneE who time (ev l k) = true) : goneK l who time i n = true := by
  induction n with
  | zero => omega
  | succ n ih =>
    rw [goneK]
    by_cases e : k = n
    · subst e; rw [h, decide_eq_true hi]; simp
    · rw [ih (by omega)]; rfl
set_option maxHeartbeats 4000000 in
theorem gone_any (A : Option Addr) (ca n : Nat) (l : List Ev) (en : l.length = n) (hn : n ≤ 1000) (at' : Nat) (hat : at' < n) (time : Int) (w : World) (ha : Cells w A (tab evV l)) :
    Calls Try.prog 14 #[.slice A n ca, .int .i64 at', .int .u64 time] w (Gives (.bool (goneF l at' time)) w) := by
  have EN := hid en
  have HA := hid ha
  obtain ⟨aw, eaw⟩ : ∃ aw, (ev l at').a = aw := ⟨_, rfl⟩
  have hgf : goneF l at' time = goneK l aw time (at' + 1) n := by unfold goneF; rw [eaw, en]
  rw [hgf]
  have EAW := hid eaw
  have e1 : IntKind.i64.wrap ((at' : Int) + 1) = (at' : Int) + 1 := by rw [IntKind.wrap_i64]; omega
  clear en ha eaw hgf
  go_enter Try.func14, Try.ntmps14
  go_wp2
  go_loopw [7] (fun i wr => ∃ (k : Nat), i = .int .i64 k ∧ at' + 1 ≤ k ∧ k ≤ n ∧ Hid (Below w.heap.size w wr) ∧ Hid (goneK l aw time (at' + 1) k = false)) (fun i _ => n - (intOf i).toNat)
  case atStart => exact ⟨at' + 1, by go_num, by omega, by omega, hid (Below.refl _ _), hid (goneK_self _ _ _ _ _ (Nat.le_refl _))⟩
  case round =>
    obtain ⟨k, rfl, hk1, hk, HB, HG⟩ := hrel
    clear e1
    by_cases hlt : k < n
    · obtain ⟨b1, o1, rfl, c0, c1, c2, c3, c4⟩ := ev_at (HA.out.below HB.out) (show k < l.length by rw [EN.out]; exact hlt)
      obtain ⟨b2, o2, eA, _, _, d2, _, _⟩ := ev_at (HA.out.below HB.out) (show at' < l.length by rw [EN.out]; exact hat)
      injection eA with eA
      injection eA with e1 e2
      subst e1; subst e2
      rw [EAW.out] at d2
      have d5 := fun o => below_cell ((Below.refl _ wr).alloc (Nat.le_refl _) o) (Nat.le_refl _) _ _ d2
      obtain ⟨e, ee⟩ : ∃ e, ev l k = e := ⟨_, rfl⟩
      rw [ee] at c0 c1 c2 c3 c4
      have HEV := hid ee
      clear ee
      obtain ⟨t, kd, a, lk, cn⟩ := e
      simp only at c0 c1 c2 c3 c4
      by_cases q0 : a = aw
      · subst q0
        by_cases z3 : kd = 3
        · subst z3
          by_cases q2 : t ≤ time
          · have HRES := hid (goneK_true (n := n) hk1 hlt (show goneE a time (ev l k) = true by rw [HEV.out]; simp [goneE, endsF, q2]))
            clear HEV HG
            go_wp2_with fail
            refine wp_region_past (by kernel_rfl) (by kernel_rfl) ?_
            repeat (go_big_quiet_step ((fail)))
            refine wpQuiet_nil ?_
            rintro _ ⟨_, rfl⟩
            go_wp2_with fail
            go_ret
            exact Gives.mk (by rw [HRES.out]; rfl) (by repeat (first | exact HB.out | refine RowKit.Below.past ?_ _ | refine RowKit.Below.alloc' ?_ _))
          · have HNO := hid (show goneK l a time (at' + 1) (k + 1) = false by rw [goneK, HG.out, HEV.out]; simp [goneE, endsF, q2])
            clear HEV HG
            go_wp2_with fail
            refine wp_region_past (by kernel_rfl) (by kernel_rfl) ?_
            repeat (go_big_quiet_step ((fail)))
            refine wpQuiet_nil ?_
            rintro _ ⟨_, rfl⟩
            go_wp2_with fail
            go_roundw
            case rel => exact ⟨k + 1, by go_num, by omega, by omega, hid (by repeat (first | exact HB.out | refine RowKit.Below.past ?_ _ | refine RowKit.Below.alloc' ?_ _)), HNO⟩
            case measure => simp [intOf]; omega
        · by_cases z10 : kd = 10
          · subst z10
            by_cases q2 : t < time
            · have HRES := hid (goneK_true (n := n) hk1 hlt (show goneE a time (ev l k) = true by rw [HEV.out]; simp [goneE, endsF, q2]))
              clear HEV HG
              go_wp2_with fail
              refine wp_region_past (by kernel_rfl) (by kernel_rfl) ?_
              repeat (go_big_quiet_step ((fail)))
              refine wpQuiet_nil ?_
              rintro _ ⟨_, rfl⟩
              go_wp2_with fail
              go_ret
              exact Gives.mk (by rw [HRES.out]; rfl) (by repeat (first | exact HB.out | refine RowKit.Below.past ?_ _ | refine RowKit.Below.alloc' ?_ _))
            · have HNO := hid (show goneK l a time (at' + 1) (k + 1) = false by rw [goneK, HG.out, HEV.out]; simp [goneE, endsF, q2])
              clear HEV HG
              go_wp2_with fail
              refine wp_region_past (by kernel_rfl) (by kernel_rfl) ?_
              repeat (go_big_quiet_step ((fail)))
              refine wpQuiet_nil ?_
              rintro _ ⟨_, rfl⟩
              go_wp2_with fail
              go_roundw
              case rel => exact ⟨k + 1, by go_num, by omega, by omega, hid (by repeat (first | exact HB.out | refine RowKit.Below.past ?_ _ | refine RowKit.Below.alloc' ?_ _)), HNO⟩
              case measure => simp [intOf]; omega
          · by_cases z6 : kd = 6
            · subst z6
              by_cases q2 : t < time
              · have HRES := hid (goneK_true (n := n) hk1 hlt (show goneE a time (ev l k) = true by rw [HEV.out]; simp [goneE, endsF, q2]))
                clear HEV HG
                go_wp2_with fail
                refine wp_region_past (by kernel_rfl) (by kernel_rfl) ?_
                repeat (go_big_quiet_step ((fail)))
                refine wpQuiet_nil ?_
                rintro _ ⟨_, rfl⟩
                go_wp2_with fail
                go_ret
                exact Gives.mk (by rw [HRES.out]; rfl) (by repeat (first | exact HB.out | refine RowKit.Below.past ?_ _ | refine RowKit.Below.alloc' ?_ _))
              · have HNO := hid (show goneK l a time (at' + 1) (k + 1) = false by rw [goneK, HG.out, HEV.out]; simp [goneE, endsF, q2])
                clear HEV HG
                go_wp2_with fail
                refine wp_region_past (by kernel_rfl) (by kernel_rfl) ?_
                repeat (go_big_quiet_step ((fail)))
                refine wpQuiet_nil ?_
                rintro _ ⟨_, rfl⟩
                go_wp2_with fail
                go_roundw
                case rel => exact ⟨k + 1, by go_num, by omega, by omega, hid (by repeat (first | exact HB.out | refine RowKit.Below.past ?_ _ | refine RowKit.Below.alloc' ?_ _)), HNO⟩
                case measure => simp [intOf]; omega
            · by_cases z9 : kd = 9
              · subst z9
                by_cases q2 : t < time
                · have HRES := hid (goneK_true (n := n) hk1 hlt (show goneE a time (ev l k) = true by rw [HEV.out]; simp [goneE, endsF, q2]))
                  clear HEV HG
                  go_wp2_with fail
                  refine wp_region_past (by kernel_rfl) (by kernel_rfl) ?_
                  repeat (go_big_quiet_step ((fail)))
                  refine wpQuiet_nil ?_
                  rintro _ ⟨_, rfl⟩
                  go_wp2_with fail
                  go_ret
                  exact Gives.mk (by rw [HRES.out]; rfl) (by repeat (first | exact HB.out | refine RowKit.Below.past ?_ _ | refine RowKit.Below.alloc' ?_ _))
                · have HNO := hid (show goneK l a time (at' + 1) (k + 1) = false by rw [goneK, HG.out, HEV.out]; simp [goneE, endsF, q2])
                  clear HEV HG
                  go_wp2_with fail
                  refine wp_region_past (by kernel_rfl) (by kernel_rfl) ?_
                  repeat (go_big_quiet_step ((fail)))
                  refine wpQuiet_nil ?_
                  rintro _ ⟨_, rfl⟩
                  go_wp2_with fail
                  go_roundw
                  case rel => exact ⟨k + 1, by go_num, by omega, by omega, hid (by repeat (first | exact HB.out | refine RowKit.Below.past ?_ _ | refine RowKit.Below.alloc' ?_ _)), HNO⟩
                  case measure => simp [intOf]; omega
              · by_cases z11 : kd = 11
                · subst z11
                  by_cases q2 : t < time
                  · have HRES := hid (goneK_true (n := n) hk1 hlt (show goneE a time (ev l k) = true by rw [HEV.out]; simp [goneE, endsF, q2]))
                    clear HEV HG
                    go_wp2_with fail
                    refine wp_region_past (by kernel_rfl) (by kernel_rfl) ?_
                    repeat (go_big_quiet_step ((fail)))
                    refine wpQuiet_nil ?_
                    rintro _ ⟨_, rfl⟩
                    go_wp2_with fail
                    go_ret
                    exact Gives.mk (by rw [HRES.out]; rfl) (by repeat (first | exact HB.out | refine RowKit.Below.past ?_ _ | refine RowKit.Below.alloc' ?_ _))
                  · have HNO := hid (show goneK l a time (at' + 1) (k + 1) = false by rw [goneK, HG.out, HEV.out]; simp [goneE, endsF, q2])
                    clear HEV HG
                    go_wp2_with fail
                    refine wp_region_past (by kernel_rfl) (by kernel_rfl) ?_
                    repeat (go_big_quiet_step ((fail)))
                    refine wpQuiet_nil ?_
                    rintro _ ⟨_, rfl⟩
                    go_wp2_with fail
                    go_roundw
                    case rel => exact ⟨k + 1, by go_num, by omega, by omega, hid (by repeat (first | exact HB.out | refine RowKit.Below.past ?_ _ | refine RowKit.Below.alloc' ?_ _)), HNO⟩
                    case measure => simp [intOf]; omega
                · have HNO := hid (show goneK l a time (at' + 1) (k + 1) = false by rw [goneK, HG.out, HEV.out]; simp [goneE, endsF, z3, z10, z6, z9, z11])
                  clear HEV HG
                  go_wp2_with fail
                  refine wp_region_past (by kernel_rfl) (by kernel_rfl) ?_
                  repeat (go_big_quiet_step ((fail)))
                  refine wpQuiet_nil ?_
                  rintro _ ⟨_, rfl⟩
                  go_wp2_with fail
                  go_roundw
                  case rel => exact ⟨k + 1, by go_num, by omega, by omega, hid (by repeat (first | exact HB.out | refine RowKit.Below.past ?_ _ | refine RowKit.Below.alloc' ?_ _)), HNO⟩
                  case measure => simp [intOf]; omega
      · have HNO := hid (show goneK l aw time (at' + 1) (k + 1) = false by rw [goneK, HG.out, HEV.out]; simp [goneE, endsF, q0])
        clear HEV HG
        go_wp2_with fail
        refine wp_region_past (by kernel_rfl) (by kernel_rfl) ?_
        repeat (go_big_quiet_step ((fail)))
        refine wpQuiet_nil ?_
        rintro _ ⟨_, rfl⟩
        go_wp2_with fail
        go_roundw
        case rel => exact ⟨k + 1, by go_num, by omega, by omega, hid (by repeat (first | exact HB.out | refine RowKit.Below.past ?_ _ | refine RowKit.Below.alloc' ?_ _)), HNO⟩
        case measure => simp [intOf]; omega
    · obtain rfl : k = n := by omega
      go_wp2
      go_ret
      exact Gives.mk (by rw [HG.out]; rfl) HB.out
end Go.Proofs.Ytphlbomcnholhaa
