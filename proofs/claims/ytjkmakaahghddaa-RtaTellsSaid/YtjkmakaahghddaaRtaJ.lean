/-
  Layer 43: the order by deadlines, by the document. No condition but on how many.
-/
import Derived.Test.YtjkmakaahghddaaRtaI
import Derived.Test.YtjkmakaahghddaaAppC
namespace Go.Proofs.Ytjkmakaahghddaa
open Go.RowKit
theorem i64s_one (l : List Int) : ∀ u ∈ i64s l, u.oneCell' = true := by
  intro u hu
  simp only [i64s, List.mem_map] at hu
  obtain ⟨x, _, rfl⟩ := hu
  rfl
theorem i64s_append (a b : List Int) : i64s a ++ i64s b = i64s (a ++ b) := by simp [i64s]
theorem i64s_take (a : List Int) (k : Nat) : i64s (a.take k) = (i64s a).take k := by simp [i64s, List.map_take]
theorem i64s_drop (a : List Int) (k : Nat) : i64s (a.drop k) = (i64s a).drop k := by simp [i64s, List.map_drop]
theorem own_room {w : World} {base : Nat} {e : TypeId} {g n c : Nat} {xs : List Value} (h : w.ownsRow base e 1 (.slice (some ⟨g, 0, none⟩) n c) n xs) : n ≤ c := by
  rcases h.2 with ⟨hv, _⟩ | ⟨g', cap', cur, hv, _, _, hnc, _⟩
  · cases hv
  · injection hv with _ _ e3
    subst e3
    exact hnc
set_option maxHeartbeats 4000000 in
theorem RRise_any (A : Option Addr) (ca n : Nat) (l : List Wk) (w : World) (hw : LsW l n ca A w) (hn : n ≤ 100) :
    Calls Try.prog 13 #[.slice A n ca] w (GivesOwn 3 1 n (i64s (riseK (dlF l) n)) w) := by
  obtain ⟨i0, hi, hz0, hz1, hz2⟩ := info_parts info_i64
  have HW := hid hw
  clear hw
  go_enter Try.func13, Try.ntmps13
  go_wp2
  go_loopw [3, 4] (fun v i wr => ∃ (k : Nat), i = .int .i64 k ∧ k ≤ n ∧ Hid (Below w.heap.size w wr) ∧ Hid (wr.ownsRow w.heap.size 3 1 v k (i64s (riseK (dlF l) k))) ∧ Hid ((k = 0 ∧ v = .slice none 0 0) ∨ ∃ g c, v = .slice (some ⟨g, 0, none⟩) k c ∧ k ≤ c)) (fun _ i _ => n - (intOf i).toNat)
  case atStart => exact ⟨0, rfl, by omega, hid (Below.refl _ _), hid (World.ownsRow_nil _ _ _ _), hid (.inl ⟨rfl, rfl⟩)⟩
  case round =>
    obtain ⟨k, rfl, hk, HB, HO, HV⟩ := hrel
    by_cases hlt : k < n
    · obtain ⟨R, eR⟩ : ∃ R, riseK (dlF l) k = R := ⟨_, rfl⟩
      have hRl : R.length = k := by rw [← eR]; exact riseK_length _ _
      have hRi : ∀ i, i < k → 0 ≤ atL R i ∧ atL R i < k := by rw [← eR]; exact rise_in _ k
      have hRs : ∀ a b, a ≤ b → b < k → dlF l (atL R a) ≤ dlF l (atL R b) := by rw [← eR]; exact rise_sorted _ k
      have hnext : ∀ j, j ≤ k → (∀ i, i < j → dlF l (atL R i) ≤ dlF l k) → (j < k → dlF l k < dlF l (atL R j)) → riseK (dlF l) (k + 1) = R.take j ++ (k : Int) :: R.drop j := by
        intro j h1 h2 h3
        rw [riseK, eR]
        exact insR_at (by rw [hRl]; exact h1) h2 (by rw [hRl]; exact h3)
      rw [eR] at HO
      have HRL := hid hRl
      have HRI := hid hRi
      have HRS := hid hRs
      have HNX := hid hnext
      clear eR hRl hRi hRs hnext
      rcases HV.out with ⟨rfl, rfl⟩ | ⟨g, c, rfl, hkc⟩
      · have hR0 : R = [] := List.eq_nil_of_length_eq_zero HRL.out
        have HX := hid (HNX.out 0 (Nat.le_refl _) (fun i h => by omega) (fun h => by omega))
        clear HV HNX HRI HRS
        subst hR0
        go_wp2_with fail
        go_loopw [5] (fun i wr' => ∃ (x : Past), i = .int .i64 0 ∧ wr' = wr.past x) (fun _ _ => 0)
        case atStart => exact ⟨_, rfl, World.past_refl wr⟩
        case round =>
          obtain ⟨x, rfl, rfl⟩ := hrel
          go_wp2_with fail
          refine wp_region_past (by kernel_rfl) (by kernel_rfl) ?_
          repeat (go_big_quiet_step ((fail)))
          refine wpQuiet_nil ?_
          rintro _ ⟨_, rfl⟩
          go_upto_region 10 with (first | (at_builtin; refine wpList_appendC rfl (.tmp 35) (.tmp 38) 25 rfl 3 i0 (.int .i64 0) 1 8 Try.underlying25 hi hz0 hz1 hz2 rfl (by decide) (w0 := wr) ?_ _ (0) ([]) rfl ?_ _ _ _ ([]) rfl ?_ ?_ ?_ ?_ ?_ ?_; (· (repeat (first | exact Below.refl _ _ | refine RowKit.Below.past ?_ _ | refine RowKit.Below.alloc' ?_ _ | refine RowKit.Below.drew' ?_ | refine RowKit.Below.drewN' ?_ _ | refine RowKit.Below.setCell' ?_ (by simp [go_sem]) _))); (· (rw [← World.size_past]; exact World.ownsRow_lit _ #[] 0 (by simp [go_sem]) (by unfold maxLen; omega) rfl)); (· rfl); (· exact Cells.nil _ _); (· (intro u hu; cases hu)); (· (unfold maxLen; omega)); (· omega); intro x2 A2 c2 ho2) | (at_builtin; refine wpList_push rfl (.tmp 40) (.tmp 42) 25 rfl 3 i0 (.int .i64 0) 1 8 Try.underlying25 hi hz0 hz1 hz2 rfl (by decide) (w0 := wr) ?_ _ _ _ rfl (ho2) _ (#[.int .i64 0]) ?_ rfl rfl ?_ ?_ ?_ ?_; (· (repeat (first | exact Below.refl _ _ | refine RowKit.Below.past ?_ _ | refine RowKit.Below.alloc' ?_ _ | refine RowKit.Below.drew' ?_ | refine RowKit.Below.drewN' ?_ _ | refine RowKit.Below.setCell' ?_ (by simp [go_sem]) _))); (· simp [go_sem]); (· simp [Value.oneCell']); (· omega); (· (unfold maxLen; omega)); intro x1 g1 cap1 hown1))
          go_wp2_with ((at_builtin; refine wpList_appendC rfl (.tmp 44) (.tmp 47) 25 rfl 3 i0 (.int .i64 0) 1 8 Try.underlying25 hi hz0 hz1 hz2 rfl (by decide) (w0 := wr) ?_ _ (1) ([.int .i64 0]) rfl ?_ _ _ _ ([]) rfl ?_ ?_ ?_ ?_ ?_ ?_; (· (repeat (first | exact Below.refl _ _ | refine RowKit.Below.past ?_ _ | refine RowKit.Below.alloc' ?_ _ | refine RowKit.Below.drew' ?_ | refine RowKit.Below.drewN' ?_ _ | refine RowKit.Below.setCell' ?_ (by simp [go_sem]) _))); (· exact hown1); (· rfl); (· exact Cells.nil _ _); (· (intro u hu; cases hu)); (· (unfold maxLen; omega)); (· omega); intro x3 A3 c3 ho3))
          rw [show (1 : Nat) + 0 = 1 from rfl] at ho3
          obtain ⟨g3, c4, e3, _⟩ := own_succ ho3 (by omega)
          injection e3 with e31 _ e32
          subst e31; subst e32
          go_roundw
          case rel => exact ⟨1, rfl, by omega, hid (RowKit.Below.past HB.out _), hid (by rw [show riseK (dlF l) 1 = [0] from HX.out]; exact own_base ho3 HB.out.size), hid (.inr ⟨g3, c3, rfl, own_room ho3⟩)⟩
          case measure => simp [intOf]; omega
      · clear HV
        have hlk := (HO.out.lt g rfl).2
        go_wp2_with fail
        go_loopw [5] (fun i wr' => ∃ (j : Nat) (x : Past), i = .int .i64 j ∧ j ≤ k ∧ wr' = wr.past x ∧ Hid (∀ i, i < j → dlF l (atL R i) ≤ dlF l k)) (fun i _ => k - (intOf i).toNat)
        case atStart => exact ⟨0, _, rfl, by omega, World.past_refl wr, hid (fun i h => by omega)⟩
        case round =>
          obtain ⟨j, x, rfl, hj, rfl, HJ⟩ := hrel
          by_cases hjk : j < k
          · have hri := HRI.out j hjk
            obtain ⟨m, hm⟩ := Int.eq_ofNat_of_zero_le hri.1
            rw [hm] at hri
            have hcj : wr.cell? ⟨g, j, none⟩ = some (.int .i64 (m : Int)) := by
              rw [HO.out.cellAt j (by omega), ← hm]
              simp [i64s, atL, show j < R.length by rw [HRL.out]; exact hjk]
            obtain ⟨b1, o1, rfl, _, _, hd1⟩ := wk_at (HW.out.below HB.out).cells (show m < l.length by rw [HW.out.len]; omega)
            obtain ⟨b2, o2, e, _, _, hd2⟩ := wk_at (HW.out.below HB.out).cells (show k < l.length by rw [HW.out.len]; omega)
            injection e with e
            injection e with eb eo
            subst eb; subst eo
            obtain ⟨p, ep⟩ : ∃ p, (wk l m).d = p := ⟨_, rfl⟩
            obtain ⟨q, eq⟩ : ∃ q, (wk l k).d = q := ⟨_, rfl⟩
            rw [ep] at hd1
            rw [eq] at hd2
            have h1 : dlF l (atL R j) = p := by rw [hm]; exact ep
            have h2 : dlF l (k : Int) = q := eq
            have H1 := hid h1
            have H2 := hid h2
            have hmn : m < n := by omega
            clear hm ep eq h1 h2
            rcases dec_cases (p ≤ q) with hb | hb
            · have HJ2 := hid (show ∀ i, i < j + 1 → dlF l (atL R i) ≤ dlF l k by
                intro i hi
                by_cases e : i = j
                · subst e; rw [H1.out, H2.out]; simpa using hb
                · exact HJ.out i (by omega))
              go_wp2_with fail
              refine wp_region_past (by kernel_rfl) (by kernel_rfl) ?_
              repeat (go_big_quiet_step ((fail)))
              refine wpQuiet_nil ?_
              rintro _ ⟨_, rfl⟩
              go_wp2_with fail
              go_roundw
              case rel => exact ⟨j + 1, _, by go_num, by omega, rfl, HJ2⟩
              case measure => simp [intOf]; omega
            · have HXX := hid (HNX.out j hj HJ.out (fun _ => by rw [H1.out, H2.out]; simpa using hb))
              clear HNX HRI HRS HJ
              go_wp2_with fail
              refine wp_region_past (by kernel_rfl) (by kernel_rfl) ?_
              repeat (go_big_quiet_step ((fail)))
              refine wpQuiet_nil ?_
              rintro _ ⟨_, rfl⟩
              obtain ⟨y, hx, hj0⟩ : ∃ y : Unit, riseK (dlF l) (k + 1) = R.take j ++ (k : Int) :: R.drop j ∧ j ≤ k := ⟨(), HXX.out, hj⟩
              have HX := hid hx
              have hlt1 : (R.take j).length = j := by rw [List.length_take, HRL.out]; omega
              have hlt2 : (R.drop j).length = k - j := by rw [List.length_drop, HRL.out]
              have HL1 := hid hlt1
              have HL2 := hid hlt2
              clear hx hlt1 hlt2 HXX
              go_upto_region 10 with (first | (at_builtin; refine wpList_appendC rfl (.tmp 35) (.tmp 38) 25 rfl 3 i0 (.int .i64 0) 1 8 Try.underlying25 hi hz0 hz1 hz2 rfl (by decide) (w0 := wr) ?_ _ (0) ([]) rfl ?_ _ _ _ (i64s (R.take j)) rfl ?_ ?_ ?_ ?_ ?_ ?_; (· (repeat (first | exact Below.refl _ _ | refine RowKit.Below.past ?_ _ | refine RowKit.Below.alloc' ?_ _ | refine RowKit.Below.drew' ?_ | refine RowKit.Below.drewN' ?_ _ | refine RowKit.Below.setCell' ?_ (by simp [go_sem]) _))); (· (rw [← World.size_past]; exact World.ownsRow_lit _ #[] 0 (by simp [go_sem]) (by unfold maxLen; omega) rfl)); (· (rw [i64s_length, HL1.out] <;> omega)); (· (rw [i64s_take]; exact (((Cells.of_own HO.out).past _).alloc _).take j)); (· exact i64s_one _); (· (unfold maxLen; omega)); (· omega); intro x2 A2 c2 ho2; simp only [Nat.zero_add, List.nil_append] at ho2) | (at_builtin; refine wpList_push rfl (.tmp 40) (.tmp 42) 25 rfl 3 i0 (.int .i64 0) 1 8 Try.underlying25 hi hz0 hz1 hz2 rfl (by decide) (w0 := wr) ?_ _ _ _ rfl (ho2) _ (#[.int .i64 k]) ?_ rfl rfl ?_ ?_ ?_ ?_; (· (repeat (first | exact Below.refl _ _ | refine RowKit.Below.past ?_ _ | refine RowKit.Below.alloc' ?_ _ | refine RowKit.Below.drew' ?_ | refine RowKit.Below.drewN' ?_ _ | refine RowKit.Below.setCell' ?_ (by simp [go_sem]) _))); (· simp [go_sem]); (· simp [Value.oneCell']); (· omega); (· (unfold maxLen; omega)); intro x1 g1 cap1 hown1))
              have hcd : Cells (wr.past x1) (some ⟨g, j, none⟩) (i64s (R.drop j)) := by
                have := ((Cells.of_own HO.out).past x1).drop j
                rw [i64s_drop]
                simpa using this
              have HCD := hid hcd
              clear hcd
              go_wp2_with ((at_builtin; refine wpList_appendC rfl (.tmp 44) (.tmp 47) 25 rfl 3 i0 (.int .i64 0) 1 8 Try.underlying25 hi hz0 hz1 hz2 rfl (by decide) (w0 := wr) ?_ _ (j + 1) (i64s (R.take j) ++ [.int .i64 k]) rfl ?_ _ _ _ (i64s (R.drop j)) rfl ?_ ?_ ?_ ?_ ?_ ?_; (· (repeat (first | exact Below.refl _ _ | refine RowKit.Below.past ?_ _ | refine RowKit.Below.alloc' ?_ _ | refine RowKit.Below.drew' ?_ | refine RowKit.Below.drewN' ?_ _ | refine RowKit.Below.setCell' ?_ (by simp [go_sem]) _))); (· exact hown1); (· (rw [i64s_length, HL2.out] <;> omega)); (· exact HCD.out); (· exact i64s_one _); (· (unfold maxLen; omega)); (· omega); intro x3 A3 c3 ho3))
              rw [show j + 1 + (k - j) = k + 1 by omega] at ho3 ⊢
              have hrow : i64s (R.take j) ++ [.int .i64 k] ++ i64s (R.drop j) = i64s (riseK (dlF l) (k + 1)) := by
                rw [HX.out]; simp [i64s]
              rw [hrow] at ho3
              obtain ⟨g3, c4, e3, _⟩ := own_succ ho3 (by omega)
              injection e3 with e31 _ e32
              subst e31; subst e32
              go_roundw
              case rel => exact ⟨k + 1, by go_num, by omega, hid (RowKit.Below.past HB.out _), hid (own_base ho3 HB.out.size), hid (.inr ⟨g3, c3, rfl, own_room ho3⟩)⟩
              case measure => simp [intOf]; omega
          · obtain rfl : j = k := by omega
            have HXX := hid (HNX.out j hj HJ.out (fun h => by omega))
            clear HNX HRI HRS HJ
            have hcc : j < c ∨ c = j := by omega
            rcases hcc with hcc | hcc
            all_goals
              go_wp2_with fail
              refine wp_region_past (by kernel_rfl) (by kernel_rfl) ?_
              repeat (go_big_quiet_step ((fail)))
              refine wpQuiet_nil ?_
              rintro _ ⟨_, rfl⟩
              obtain ⟨y, hx, hj0⟩ : ∃ y : Unit, riseK (dlF l) (j + 1) = R.take j ++ (j : Int) :: R.drop j ∧ j ≤ j := ⟨(), HXX.out, hj⟩
              have HX := hid hx
              have hlt1 : (R.take j).length = j := by rw [List.length_take, HRL.out]; omega
              have hlt2 : (R.drop j).length = j - j := by rw [List.length_drop, HRL.out]
              have HL1 := hid hlt1
              have HL2 := hid hlt2
              clear hx hlt1 hlt2 HXX
              go_upto_region 10 with (first | (at_builtin; refine wpList_appendC rfl (.tmp 35) (.tmp 38) 25 rfl 3 i0 (.int .i64 0) 1 8 Try.underlying25 hi hz0 hz1 hz2 rfl (by decide) (w0 := wr) ?_ _ (0) ([]) rfl ?_ _ _ _ (i64s (R.take j)) rfl ?_ ?_ ?_ ?_ ?_ ?_; (· (repeat (first | exact Below.refl _ _ | refine RowKit.Below.past ?_ _ | refine RowKit.Below.alloc' ?_ _ | refine RowKit.Below.drew' ?_ | refine RowKit.Below.drewN' ?_ _ | refine RowKit.Below.setCell' ?_ (by simp [go_sem]) _))); (· (rw [← World.size_past]; exact World.ownsRow_lit _ #[] 0 (by simp [go_sem]) (by unfold maxLen; omega) rfl)); (· (rw [i64s_length, HL1.out] <;> omega)); (· (rw [i64s_take]; exact (((Cells.of_own HO.out).past _).alloc _).take j)); (· exact i64s_one _); (· (unfold maxLen; omega)); (· omega); intro x2 A2 c2 ho2; simp only [Nat.zero_add, List.nil_append] at ho2) | (at_builtin; refine wpList_push rfl (.tmp 40) (.tmp 42) 25 rfl 3 i0 (.int .i64 0) 1 8 Try.underlying25 hi hz0 hz1 hz2 rfl (by decide) (w0 := wr) ?_ _ _ _ rfl (ho2) _ (#[.int .i64 j]) ?_ rfl rfl ?_ ?_ ?_ ?_; (· (repeat (first | exact Below.refl _ _ | refine RowKit.Below.past ?_ _ | refine RowKit.Below.alloc' ?_ _ | refine RowKit.Below.drew' ?_ | refine RowKit.Below.drewN' ?_ _ | refine RowKit.Below.setCell' ?_ (by simp [go_sem]) _))); (· simp [go_sem]); (· simp [Value.oneCell']); (· omega); (· (unfold maxLen; omega)); intro x1 g1 cap1 hown1))
              go_wp2_with ((at_builtin; refine wpList_appendC rfl (.tmp 44) (.tmp 47) 25 rfl 3 i0 (.int .i64 0) 1 8 Try.underlying25 hi hz0 hz1 hz2 rfl (by decide) (w0 := wr) ?_ _ (j + 1) (i64s (R.take j) ++ [.int .i64 j]) rfl ?_ _ _ _ (i64s (R.drop j)) rfl ?_ ?_ ?_ ?_ ?_ ?_; (· (repeat (first | exact Below.refl _ _ | refine RowKit.Below.past ?_ _ | refine RowKit.Below.alloc' ?_ _ | refine RowKit.Below.drew' ?_ | refine RowKit.Below.drewN' ?_ _ | refine RowKit.Below.setCell' ?_ (by simp [go_sem]) _))); (· exact hown1); (· (rw [i64s_length, HL2.out] <;> omega)); (· (rw [show R.drop j = [] from List.eq_nil_of_length_eq_zero (by rw [HL2.out]; omega)]; exact Cells.nil _ _)); (· exact i64s_one _); (· (unfold maxLen; omega)); (· omega); intro x3 A3 c3 ho3))
              simp only [Nat.sub_self, Nat.add_zero] at ho3
              try simp only [Nat.sub_self, Nat.add_zero]
              have hrow : i64s (R.take j) ++ [.int .i64 j] ++ i64s (R.drop j) = i64s (riseK (dlF l) (j + 1)) := by
                rw [HX.out]; simp [i64s]
              rw [hrow] at ho3
              obtain ⟨g3, c4, e3, _⟩ := own_succ ho3 (by omega)
              injection e3 with e31 _ e32
              subst e31; subst e32
              go_roundw
              case rel => exact ⟨j + 1, by go_num, by omega, hid (RowKit.Below.past HB.out _), hid (own_base ho3 HB.out.size), hid (.inr ⟨g3, c3, rfl, own_room ho3⟩)⟩
              case measure => simp [intOf]; omega
    · obtain rfl : k = n := by omega
      obtain ⟨A', c', rfl⟩ := own_shape HO.out
      go_wp2
      go_ret
      exact ⟨A', c', rfl, HB.out, HO.out⟩
end Go.Proofs.Ytjkmakaahghddaa
