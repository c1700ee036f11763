/-
  Layer 25: the document's Tasks. No condition.
-/
import Derived.Test.YtdeejiiegmddaaaStO
import Derived.Test.YtdeejiiegmddaaaAppC
namespace Go.Proofs.Ytdeejiiegmddaaa
open Go Go.RowKit
theorem i64s_one (l : List Int) : ∀ u ∈ i64s l, u.oneCell' = true := by
  intro u hu
  simp only [i64s, List.mem_map] at hu
  obtain ⟨x, _, rfl⟩ := hu
  rfl
theorem i64s_take (a : List Int) (k : Nat) : i64s (a.take k) = (i64s a).take k := by simp [i64s, List.map_take]
theorem i64s_drop (a : List Int) (k : Nat) : i64s (a.drop k) = (i64s a).drop k := by simp [i64s, List.map_drop]
theorem own_room {w : World} {base : Nat} {e : TypeId} {g n c : Nat} {xs : List Value} (h : w.ownsRow base e 1 (.slice (some ⟨g, 0, none⟩) n c) n xs) : n ≤ c := by
  rcases h.2 with ⟨hv, _⟩ | ⟨g', cap', cur, hv, _, _, hnc, _⟩
  · cases hv
  · injection hv with _ _ e3
    subst e3
    exact hnc
theorem atL_cons (a : Int) (l : List Int) (i : Nat) : atL (a :: l) (i + 1) = atL l i := by simp [atL]
theorem insI_at (x : Int) : ∀ (R : List Int) (j : Nat), j ≤ R.length → (∀ i, i < j → atL R i < x) → (j < R.length → ¬ atL R j < x) → insI R x = if j < R.length ∧ atL R j = x then R else R.take j ++ x :: R.drop j
  | [], j, hj, _, _ => by
    obtain rfl : j = 0 := by simpa using hj
    simp [insI]
  | a :: R, 0, _, _, h2 => by
    have h3 : ¬ a < x := by simpa [atL] using h2 (by simp)
    rw [insI, if_neg h3]
    by_cases he : a = x
    · rw [if_pos he, if_pos ⟨by simp, by simpa [atL] using he⟩]
    · rw [if_neg he, if_neg (by rintro ⟨_, h⟩; exact he (by simpa [atL] using h))]; rfl
  | a :: R, j + 1, hj, h1, h2 => by
    have h3 : a < x := by simpa [atL] using h1 0 (by omega)
    have ih := insI_at x R j (by simpa using hj) (fun i hi => by have := h1 (i + 1) (by omega); rwa [atL_cons] at this) (fun hl => by have := h2 (by simpa using hl); rwa [atL_cons] at this)
    rw [insI, if_pos h3, ih]
    simp only [atL_cons, List.length_cons, Nat.add_lt_add_iff_right, List.take_succ_cons, List.drop_succ_cons]
    split <;> rfl
def rtasksF (l : List Ev) (n : Nat) : List Ty := (idsK l n).map fun x => rtK l x n
theorem info_i64 : (Try.prog.info? 3).map (fun i => (i.zero, i.size, i.bytes)) = some (some (.int .i64 0), 1, 8) := by kernel_rfl
theorem info_ty2 : (Try.prog.info? tTy).map (fun i => (i.zero, i.size, i.bytes)) = some (some (.agg (tyV ⟨0, 0, 0, 0, 0, 0, 0⟩).toArray), 7, 56) := by kernel_rfl
set_option maxRecDepth 100000 in
set_option maxHeartbeats 8000000 in
theorem RTasks_any (A : Option Addr) (ca n : Nat) (l : List Ev) (en : l.length = n) (hn : n ≤ 1000000) (hl : ∀ k, U64 (evA l k).time) (w : World) (ha : Cells w A (tab evV l)) :
    Calls Try.prog 8 #[.slice A n ca] w (GivesOwn tTy 7 (rtasksF l n).length (tab tyV (rtasksF l n)) w) := by
  obtain ⟨i0, hi, hz0, hz1, hz2⟩ := info_parts info_i64
  have HA := hid ha
  have EN := hid en
  have HL := hid hl
  clear ha en hl
  go_enter Try.func8, Try.ntmps8
  go_wp2_with fail
  go_loopw [3, 4] (fun v i wr => ∃ (k m : Nat), i = .int .i64 (k : Int) ∧ k ≤ n ∧ m ≤ k ∧ Hid ((idsK l k).length = m) ∧ Hid (Below w.heap.size w wr) ∧ Hid (wr.ownsRow w.heap.size 3 1 v m (i64s (idsK l k))) ∧ Hid ((m = 0 ∧ v = .slice none 0 0) ∨ ∃ g c, v = .slice (some ⟨g, 0, none⟩) m c ∧ m ≤ c)) (fun _ i _ => n - (intOf i).toNat)
  case atStart => exact ⟨0, 0, rfl, Nat.zero_le _, Nat.le_refl _, rfl, hid (Below.refl _ _), hid (World.ownsRow_nil _ _ _ _), hid (.inl ⟨rfl, rfl⟩)⟩
  case round =>
    obtain ⟨k, m, rfl, hk, hmk, HM, HB, HO, HV⟩ := hrel
    by_cases hlt : k < n
    · have hnext := fun j h1 h2 h3 => insI_at (evA l k).task (idsK l k) j h1 h2 h3
      have hidk : idsK l (k + 1) = insI (idsK l k) (evA l k).task := rfl
      obtain ⟨gA, oA, rfl, q0, q1, q2, q3, q4⟩ := ev_at (HA.out.below HB.out) (k := k) (by rw [EN.out]; exact hlt)
      obtain ⟨R, eR⟩ : ∃ R, idsK l k = R := ⟨_, rfl⟩
      obtain ⟨x, ex⟩ : ∃ x, (evA l k).task = x := ⟨_, rfl⟩
      rw [eR] at HO HM hnext hidk
      rw [ex] at q2 hnext hidk
      rw [← hidk] at hnext
      have HNX := hid hnext
      have hmn : m ≤ 1000000 := by omega
      have e1 : IntKind.i64.wrap ((k : Int) + 1) = (k : Int) + 1 := by rw [IntKind.wrap_i64]; omega
      clear eR ex hnext hidk q0 q1 q3 q4
      rcases HV.out with ⟨rfl, rfl⟩ | ⟨g, c, rfl, hkc⟩
      · have hR0 : R = [] := List.eq_nil_of_length_eq_zero HM.out
        have HX : Hid (idsK l (k + 1) = [x]) := hid (by rw [HNX.out 0 (Nat.zero_le _) (fun i h => by omega) (fun h => by rw [HM.out] at h; omega), hR0]; simp)
        clear HV HNX
        subst hR0
        go_wp2_with fail
        go_loopw [5] (fun i wr' => ∃ (y : Past), i = .int .i64 0 ∧ wr' = wr.past y) (fun _ _ => 0)
        case atStart => exact ⟨_, rfl, World.past_refl wr⟩
        case round =>
          obtain ⟨y, rfl, rfl⟩ := hrel
          go_wp2_with fail
          refine wp_region_past (by kernel_rfl) (by kernel_rfl) ?_
          repeat (go_big_quiet_step ((fail)))
          refine wpQuiet_nil ?_
          rintro _ ⟨_, rfl⟩
          go_wp2_with fail
          refine wp_region_past (by kernel_rfl) (by kernel_rfl) ?_
          repeat (go_big_quiet_step ((fail)))
          refine wpQuiet_nil ?_
          rintro _ ⟨_, rfl⟩
          go_upto_region 11 with (first | (at_builtin; refine wpList_appendC rfl (.tmp 49) (.tmp 52) 40 rfl 3 i0 (.int .i64 0) 1 8 Try.underlying40 hi hz0 hz1 hz2 rfl (by decide) (w0 := wr) ?_ _ (0) ([]) rfl ?_ _ _ _ ([]) rfl ?_ ?_ ?_ ?_ ?_ ?_; (· (repeat (first | exact Below.refl _ _ | refine RowKit.Below.past ?_ _ | refine RowKit.Below.alloc' ?_ _ | refine RowKit.Below.drew' ?_ | refine RowKit.Below.drewN' ?_ _ | refine RowKit.Below.setCell' ?_ (by simp [go_sem]) _))); (· (rw [← World.size_past]; exact World.ownsRow_lit _ #[] 0 (by simp [go_sem]) (by unfold maxLen; omega) rfl)); (· rfl); (· exact Cells.nil _ _); (· (intro u hu; cases hu)); (· (unfold maxLen; omega)); (· omega); intro x2 A2 c2 ho2) | (at_builtin; refine wpList_push rfl (.tmp 54) (.tmp 60) 40 rfl 3 i0 (.int .i64 0) 1 8 Try.underlying40 hi hz0 hz1 hz2 rfl (by decide) (w0 := wr) ?_ _ _ _ rfl (ho2) _ (#[.int .i64 x]) ?_ rfl rfl ?_ ?_ ?_ ?_; (· (repeat (first | exact Below.refl _ _ | refine RowKit.Below.past ?_ _ | refine RowKit.Below.alloc' ?_ _ | refine RowKit.Below.drew' ?_ | refine RowKit.Below.drewN' ?_ _ | refine RowKit.Below.setCell' ?_ (by simp [go_sem]) _))); (· simp [go_sem]); (· simp [Value.oneCell']); (· omega); (· (unfold maxLen; omega)); intro x1 g1 cap1 hown1))
          go_wp2_with ((at_builtin; refine wpList_appendC rfl (.tmp 62) (.tmp 65) 40 rfl 3 i0 (.int .i64 0) 1 8 Try.underlying40 hi hz0 hz1 hz2 rfl (by decide) (w0 := wr) ?_ _ (1) ([.int .i64 x]) rfl ?_ _ _ _ ([]) rfl ?_ ?_ ?_ ?_ ?_ ?_; (· (repeat (first | exact Below.refl _ _ | refine RowKit.Below.past ?_ _ | refine RowKit.Below.alloc' ?_ _ | refine RowKit.Below.drew' ?_ | refine RowKit.Below.drewN' ?_ _ | refine RowKit.Below.setCell' ?_ (by simp [go_sem]) _))); (· exact hown1); (· rfl); (· exact Cells.nil _ _); (· (intro u hu; cases hu)); (· (unfold maxLen; omega)); (· omega); intro x3 A3 c3 ho3))
          rw [show (1 : Nat) + 0 = 1 from rfl] at ho3
          obtain ⟨g3, c4, e3, _⟩ := own_succ ho3 (by omega)
          injection e3 with e31 _ e32
          subst e31; subst e32
          go_roundw
          case rel => exact ⟨k + 1, 1, by go_num, by omega, by omega, hid (by rw [HX.out]; rfl), hid (RowKit.Below.past HB.out _), hid (by rw [HX.out]; exact own_base ho3 HB.out.size), hid (.inr ⟨g3, c3, rfl, own_room ho3⟩)⟩
          case measure => simp [intOf]; omega
      · clear HV
        have hlk := (HO.out.lt g rfl).2
        go_wp2_with fail
        go_loopw [5] (fun i wr' => ∃ (j : Nat) (y : Past), i = .int .i64 (j : Int) ∧ j ≤ m ∧ wr' = wr.past y ∧ Hid (∀ i, i < j → atL R i < x)) (fun i _ => m - (intOf i).toNat)
        case atStart => exact ⟨0, _, rfl, Nat.zero_le _, World.past_refl wr, hid (fun i h => absurd h (Nat.not_lt_zero i))⟩
        case round =>
          obtain ⟨j, y, rfl, hj, rfl, HJ⟩ := hrel
          have hjm0 : (j : Int) ≤ (m : Int) := by omega
          by_cases hjk : j < m
          · obtain ⟨z, ez⟩ : ∃ z, atL R j = z := ⟨_, rfl⟩
            have hcj : wr.cell? ⟨g, j, none⟩ = some (.int .i64 z) := by
              rw [HO.out.cellAt j (by omega), ← ez]
              simp [i64s, atL, show j < R.length by rw [HM.out]; exact hjk]
            have EZ := hid ez
            clear ez
            by_cases hzx : z < x
            · have hd : decide (z < x) = true := by simpa using hzx
              go_wp2_with fail
              refine wp_region_past (by kernel_rfl) (by kernel_rfl) ?_
              repeat (go_big_quiet_step ((fail)))
              refine wpQuiet_nil ?_
              rintro _ ⟨_, rfl⟩
              go_wp2_with fail
              go_roundw
              case rel =>
                refine ⟨j + 1, _, by go_num, by omega, rfl, hid (fun i hi => ?_)⟩
                by_cases e : i = j
                · subst e; rw [EZ.out]; exact hzx
                · exact HJ.out i (by omega)
              case measure => simp [intOf]; omega
            · have hd : decide (z < x) = false := by simpa using hzx
              have hX0 := HNX.out j (by rw [HM.out]; exact hj) HJ.out (fun _ => by rw [EZ.out]; omega)
              rw [HM.out, EZ.out] at hX0
              by_cases hzx2 : z = x
              · subst hzx2
                have HX : Hid (idsK l (k + 1) = R) := hid (by rw [hX0, if_pos ⟨hjk, rfl⟩])
                clear hX0 HNX HJ
                have hd2 : (z == z) = true := by simp
                go_wp2_with fail
                refine wp_region_past (by kernel_rfl) (by kernel_rfl) ?_
                repeat (go_big_quiet_step ((fail)))
                refine wpQuiet_nil ?_
                rintro _ ⟨_, rfl⟩
                go_wp2_with fail
                refine wp_region_past (by kernel_rfl) (by kernel_rfl) ?_
                repeat (go_big_quiet_step ((fail)))
                refine wpQuiet_nil ?_
                rintro _ ⟨_, rfl⟩
                go_wp2_with fail
                go_roundw
                case rel => exact ⟨k + 1, m, by go_num, by omega, by omega, hid (by rw [HX.out]; exact HM.out), hid (RowKit.Below.past HB.out _), hid (by rw [HX.out]; exact own_past HO.out _), hid (.inr ⟨g, c, rfl, hkc⟩)⟩
                case measure => simp [intOf]; omega
              · have hd2 : (z == x) = false := by simpa using hzx2
                have hx : idsK l (k + 1) = R.take j ++ x :: R.drop j := by rw [hX0, if_neg (fun h => hzx2 h.2)]
                have HX := hid hx
                have hlt1 : (R.take j).length = j := by rw [List.length_take, HM.out]; omega
                have hlt2 : (R.drop j).length = m - j := by rw [List.length_drop, HM.out]
                have HL1 := hid hlt1
                have HL2 := hid hlt2
                have HLN : Hid ((idsK l (k + 1)).length = m + 1) := hid (by rw [hx, List.length_append, List.length_cons, hlt1, hlt2]; omega)
                have hmc : j < c := by omega
                clear hX0 HNX HJ hx hlt1 hlt2
                go_wp2_with fail
                refine wp_region_past (by kernel_rfl) (by kernel_rfl) ?_
                repeat (go_big_quiet_step ((fail)))
                refine wpQuiet_nil ?_
                rintro _ ⟨_, rfl⟩
                go_wp2_with fail
                refine wp_region_past (by kernel_rfl) (by kernel_rfl) ?_
                repeat (go_big_quiet_step ((fail)))
                refine wpQuiet_nil ?_
                rintro _ ⟨_, rfl⟩
                go_upto_region 11 with (first | (at_builtin; refine wpList_appendC rfl (.tmp 49) (.tmp 52) 40 rfl 3 i0 (.int .i64 0) 1 8 Try.underlying40 hi hz0 hz1 hz2 rfl (by decide) (w0 := wr) ?_ _ (0) ([]) rfl ?_ _ _ _ (i64s (R.take j)) rfl ?_ ?_ ?_ ?_ ?_ ?_; (· (repeat (first | exact Below.refl _ _ | refine RowKit.Below.past ?_ _ | refine RowKit.Below.alloc' ?_ _ | refine RowKit.Below.drew' ?_ | refine RowKit.Below.drewN' ?_ _ | refine RowKit.Below.setCell' ?_ (by simp [go_sem]) _))); (· (rw [← World.size_past]; exact World.ownsRow_lit _ #[] 0 (by simp [go_sem]) (by unfold maxLen; omega) rfl)); (· (rw [i64s_length, HL1.out] <;> omega)); (· (rw [i64s_take]; exact (((Cells.of_own HO.out).past _).alloc _).take j)); (· exact i64s_one _); (· (unfold maxLen; omega)); (· omega); intro x2 A2 c2 ho2; simp only [Nat.zero_add, List.nil_append] at ho2) | (at_builtin; refine wpList_push rfl (.tmp 54) (.tmp 60) 40 rfl 3 i0 (.int .i64 0) 1 8 Try.underlying40 hi hz0 hz1 hz2 rfl (by decide) (w0 := wr) ?_ _ _ _ rfl (ho2) _ (#[.int .i64 x]) ?_ rfl rfl ?_ ?_ ?_ ?_; (· (repeat (first | exact Below.refl _ _ | refine RowKit.Below.past ?_ _ | refine RowKit.Below.alloc' ?_ _ | refine RowKit.Below.drew' ?_ | refine RowKit.Below.drewN' ?_ _ | refine RowKit.Below.setCell' ?_ (by simp [go_sem]) _))); (· simp [go_sem]); (· simp [Value.oneCell']); (· omega); (· (unfold maxLen; omega)); intro x1 g1 cap1 hown1))
                have hcd : Cells (wr.past x1) (some ⟨g, j, none⟩) (i64s (R.drop j)) := by
                  have := ((Cells.of_own HO.out).past x1).drop j
                  rw [i64s_drop]
                  simpa using this
                have HCD := hid hcd
                clear hcd
                go_wp2_with ((at_builtin; refine wpList_appendC rfl (.tmp 62) (.tmp 65) 40 rfl 3 i0 (.int .i64 0) 1 8 Try.underlying40 hi hz0 hz1 hz2 rfl (by decide) (w0 := wr) ?_ _ (j + 1) (i64s (R.take j) ++ [.int .i64 x]) rfl ?_ _ _ _ (i64s (R.drop j)) rfl ?_ ?_ ?_ ?_ ?_ ?_; (· (repeat (first | exact Below.refl _ _ | refine RowKit.Below.past ?_ _ | refine RowKit.Below.alloc' ?_ _ | refine RowKit.Below.drew' ?_ | refine RowKit.Below.drewN' ?_ _ | refine RowKit.Below.setCell' ?_ (by simp [go_sem]) _))); (· exact hown1); (· (rw [i64s_length, HL2.out] <;> omega)); (· exact HCD.out); (· exact i64s_one _); (· (unfold maxLen; omega)); (· omega); intro x3 A3 c3 ho3))
                rw [show j + 1 + (m - j) = m + 1 by omega] at ho3 ⊢
                have hrow : i64s (R.take j) ++ [.int .i64 x] ++ i64s (R.drop j) = i64s (idsK l (k + 1)) := by
                  rw [HX.out]; simp [i64s]
                rw [hrow] at ho3
                obtain ⟨g3, c4, e3, _⟩ := own_succ ho3 (by omega)
                injection e3 with e31 _ e32
                subst e31; subst e32
                go_roundw
                case rel => exact ⟨k + 1, m + 1, by go_num, by omega, by omega, HLN, hid (RowKit.Below.past HB.out _), hid (own_base ho3 HB.out.size), hid (.inr ⟨g3, c3, rfl, own_room ho3⟩)⟩
                case measure => simp [intOf]; omega
          · obtain rfl : m = j := by omega
            have hX0 := HNX.out m (by rw [HM.out]; exact Nat.le_refl _) HJ.out (fun h => by rw [HM.out] at h; omega)
            have hx : idsK l (k + 1) = R.take m ++ x :: R.drop m := by rw [hX0, if_neg (fun h => by rw [HM.out] at h; omega)]
            have HX := hid hx
            have hlt1 : (R.take m).length = m := by rw [List.length_take, HM.out]; omega
            have hlt2 : R.drop m = [] := List.drop_of_length_le (by rw [HM.out]; exact Nat.le_refl _)
            have HL1 := hid hlt1
            have HL2 := hid hlt2
            have HLN : Hid ((idsK l (k + 1)).length = m + 1) := hid (by rw [hx, List.length_append, List.length_cons, hlt1, hlt2]; rfl)
            have hcc : m < c ∨ c = m := by omega
            clear hX0 HNX HJ hx hlt1 hlt2
            rcases hcc with hcc | hcc
            all_goals
              go_wp2_with fail
              refine wp_region_past (by kernel_rfl) (by kernel_rfl) ?_
              repeat (go_big_quiet_step ((fail)))
              refine wpQuiet_nil ?_
              rintro _ ⟨_, rfl⟩
              go_wp2_with fail
              refine wp_region_past (by kernel_rfl) (by kernel_rfl) ?_
              repeat (go_big_quiet_step ((fail)))
              refine wpQuiet_nil ?_
              rintro _ ⟨_, rfl⟩
              go_upto_region 11 with (first | (at_builtin; refine wpList_appendC rfl (.tmp 49) (.tmp 52) 40 rfl 3 i0 (.int .i64 0) 1 8 Try.underlying40 hi hz0 hz1 hz2 rfl (by decide) (w0 := wr) ?_ _ (0) ([]) rfl ?_ _ _ _ (i64s (R.take m)) rfl ?_ ?_ ?_ ?_ ?_ ?_; (· (repeat (first | exact Below.refl _ _ | refine RowKit.Below.past ?_ _ | refine RowKit.Below.alloc' ?_ _ | refine RowKit.Below.drew' ?_ | refine RowKit.Below.drewN' ?_ _ | refine RowKit.Below.setCell' ?_ (by simp [go_sem]) _))); (· (rw [← World.size_past]; exact World.ownsRow_lit _ #[] 0 (by simp [go_sem]) (by unfold maxLen; omega) rfl)); (· (rw [i64s_length, HL1.out] <;> omega)); (· (rw [i64s_take]; exact (((Cells.of_own HO.out).past _).alloc _).take m)); (· exact i64s_one _); (· (unfold maxLen; omega)); (· omega); intro x2 A2 c2 ho2; simp only [Nat.zero_add, List.nil_append] at ho2) | (at_builtin; refine wpList_push rfl (.tmp 54) (.tmp 60) 40 rfl 3 i0 (.int .i64 0) 1 8 Try.underlying40 hi hz0 hz1 hz2 rfl (by decide) (w0 := wr) ?_ _ _ _ rfl (ho2) _ (#[.int .i64 x]) ?_ rfl rfl ?_ ?_ ?_ ?_; (· (repeat (first | exact Below.refl _ _ | refine RowKit.Below.past ?_ _ | refine RowKit.Below.alloc' ?_ _ | refine RowKit.Below.drew' ?_ | refine RowKit.Below.drewN' ?_ _ | refine RowKit.Below.setCell' ?_ (by simp [go_sem]) _))); (· simp [go_sem]); (· simp [Value.oneCell']); (· omega); (· (unfold maxLen; omega)); intro x1 g1 cap1 hown1))
              go_wp2_with ((at_builtin; refine wpList_appendC rfl (.tmp 62) (.tmp 65) 40 rfl 3 i0 (.int .i64 0) 1 8 Try.underlying40 hi hz0 hz1 hz2 rfl (by decide) (w0 := wr) ?_ _ (m + 1) (i64s (R.take m) ++ [.int .i64 x]) rfl ?_ _ _ _ ([]) rfl ?_ ?_ ?_ ?_ ?_ ?_; (· (repeat (first | exact Below.refl _ _ | refine RowKit.Below.past ?_ _ | refine RowKit.Below.alloc' ?_ _ | refine RowKit.Below.drew' ?_ | refine RowKit.Below.drewN' ?_ _ | refine RowKit.Below.setCell' ?_ (by simp [go_sem]) _))); (· exact hown1); (· (simp)); (· exact Cells.nil _ _); (· (intro u hu; cases hu)); (· (unfold maxLen; omega)); (· omega); intro x3 A3 c3 ho3))
              simp only [Nat.sub_self, Nat.add_zero, List.append_nil] at ho3
              try simp only [Nat.sub_self, Nat.add_zero]
              have hrow : i64s (R.take m) ++ [.int .i64 x] = i64s (idsK l (k + 1)) := by
                rw [HX.out, HL2.out]; simp [i64s]
              rw [hrow] at ho3
              obtain ⟨g3, c4, e3, _⟩ := own_succ ho3 (by omega)
              injection e3 with e31 _ e32
              subst e31; subst e32
              go_roundw
              case rel => exact ⟨k + 1, m + 1, by go_num, by omega, by omega, HLN, hid (RowKit.Below.past HB.out _), hid (own_base ho3 HB.out.size), hid (.inr ⟨g3, c3, rfl, own_room ho3⟩)⟩
              case measure => simp [intOf]; omega
    · obtain rfl : n = k := by omega
      obtain ⟨Ai, ci, rfl⟩ := own_shape HO.out
      have HRF := hid (show rtasksF l n = (idsK l n).map (fun x => rtK l x n) from rfl)
      obtain ⟨R, eR⟩ : ∃ R, idsK l n = R := ⟨_, rfl⟩
      rw [eR] at HO HM HRF
      obtain ⟨TS, ets⟩ : ∃ z, rtasksF l n = z := ⟨_, rfl⟩
      have ETS := hid ets
      have htl : TS.length = m := by rw [← ets, HRF.out, List.length_map, HM.out]
      have HTL := hid htl
      have HTA := hid (fun j (hj : j < m) => show TS[j]? = some (rtK l (atL R j) n) from by
        rw [← ETS.out, HRF.out, List.getElem?_map]
        have hj' : j < R.length := by rw [HM.out]; exact hj
        simp [atL, List.getElem?_eq_getElem hj'])
      have HI3 := hid (Cells.of_own HO.out)
      have hmm : m ≤ 1000000 := by omega
      clear hi hz0 hz1 hz2 eR ets htl HV HO
      clear i0
      obtain ⟨i0, hi, hz0, hz1, hz2⟩ := info_parts info_ty2
      obtain ⟨wz, ewz⟩ : ∃ wz : World, wz = wr := ⟨_, rfl⟩
      rw [← ewz] at HB HI3 ⊢
      clear ewz
      have H0 := hid (show (wz.past ⟨#[], wz.drawn⟩).ownsRow wz.heap.size tTy 7 (.slice none 0 0) 0 (tab tyV (TS.take 0)) from ⟨rfl, .inl ⟨rfl, rfl⟩⟩)
      have E3 := hid (World.past_refl wz)
      go_wp2_with fail
      go_loopw [7, 8] (fun u7 v wq => ∃ (j : Nat) (A' : Option Addr) (c : Nat) (y : Past), v = .int .i64 (j : Int) ∧ j ≤ m ∧ u7 = .slice A' j c ∧ wq = wz.past y ∧ Hid ((wz.past y).ownsRow wz.heap.size tTy 7 (.slice A' j c) j (tab tyV (TS.take j)))) (fun _ v _ => m - (intOf v).toNat)
      case atStart => exact ⟨0, none, 0, _, rfl, Nat.zero_le _, rfl, E3.out, H0⟩
      case round =>
        clear H0
        obtain ⟨j, A', c, y, rfl, hj, rfl, rfl, HO2⟩ := hrel
        by_cases hjm : j < m
        · obtain ⟨gI, oI, rfl, qI⟩ := i64_at HI3.out (k := j) (by rw [HM.out]; exact hjm)
          have htj := HTA.out j hjm
          obtain ⟨x, ex⟩ : ∃ x, atL R j = x := ⟨_, rfl⟩
          rw [ex] at qI htj
          have hT := fun (W : World) (hW : Cells W A (tab evV l)) => RTask_any A ca n l EN.out (by omega) HL.out x W hW
          obtain ⟨⟨td, t1, t2, t3, t4, t5, tw⟩, et⟩ : ∃ z, rtK l x n = z := ⟨_, rfl⟩
          rw [et] at hT htj
          have HT := hid (fun (z : Past) => show Calls Try.prog 17 #[.slice A n ca, .int .i64 x] (wz.past z) (Gives (.agg #[.int .i64 td, .int .i64 t1, .int .i64 t2, .int .i64 t3, .int .i64 t4, .int .i64 t5, .int .u64 tw]) (wz.past z)) from hT _ ((HA.out.below HB.out).past z))
          have e1 : IntKind.i64.wrap ((j : Int) + 1) = (j : Int) + 1 := by rw [IntKind.wrap_i64]; omega
          have HTK : Hid (TS.take (j + 1) = TS.take j ++ [⟨td, t1, t2, t3, t4, t5, tw⟩]) := hid (by rw [List.take_add_one, htj]; rfl)
          clear ex et htj hT
          go_wp2_with (first | (go_at_call 17; refine (HT.out _).mono ?_; rintro _ _ ⟨rfl, y2, rfl⟩) | (at_builtin; refine wpList_push rfl (.tmp 73) (.tmp 80) 24 rfl 32 i0 (.agg (tyV ⟨0, 0, 0, 0, 0, 0, 0⟩).toArray) 7 56 Try.underlying24 hi hz0 hz1 hz2 rfl (by decide) (w0 := wz) ?_ _ _ _ rfl (own_and HO2.out _) _ (#[.int .i64 td, .int .i64 t1, .int .i64 t2, .int .i64 t3, .int .i64 t4, .int .i64 t5, .int .u64 tw]) ?_ rfl rfl ?_ ?_ ?_ ?_; (· (repeat (first | exact Below.refl _ _ | refine RowKit.Below.past ?_ _ | refine RowKit.Below.alloc' ?_ _ | refine RowKit.Below.drew' ?_ | refine RowKit.Below.drewN' ?_ _ | refine RowKit.Below.setCell' ?_ (by simp [go_sem]) _))); (· simp [go_sem]); (· simp [Value.oneCell']); (· omega); (· (unfold maxLen; omega)); intro x1 g1 cap1 hown1))
          go_roundw
          case rel => exact ⟨j + 1, _, cap1, x1, by go_num, by omega, rfl, by first | rfl | trivial, hid (by rw [HTK.out, ← tab_snoc]; exact hown1)⟩
          case measure => simp [intOf]; omega
        · obtain rfl : m = j := by omega
          go_wp2_with fail
          go_ret
          rw [ETS.out, HTL.out]
          refine ⟨A', c, rfl, RowKit.Below.past HB.out _, ?_⟩
          have hof := HO2.out
          rw [List.take_of_length_le (by rw [HTL.out]; exact Nat.le_refl _)] at hof
          exact own_base hof HB.out.size
end Go.Proofs.Ytdeejiiegmddaaa
