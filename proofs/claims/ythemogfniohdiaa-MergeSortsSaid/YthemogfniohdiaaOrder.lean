/-
  Layer 32's law MergeSorts: a list put in order; what is brought into one out of rows in order is in order. No condition but on how many.
-/
import Derived.Test.YthemogfniohdiaaAwake
import Derived.Deep.CutRange
namespace Go.Proofs.Ythemogfniohdiaa
open Go.RowKit
theorem i64s_one (l : List Int) : ∀ u ∈ i64s l, u.oneCell' = true := by
  intro u hu
  simp only [i64s, List.mem_map] at hu
  obtain ⟨x, _, rfl⟩ := hu
  rfl
theorem i64s_append (a b : List Int) : i64s a ++ i64s b = i64s (a ++ b) := by simp [i64s]
theorem i64s_take (a : List Int) (k : Nat) : i64s (a.take k) = (i64s a).take k := by simp [i64s, List.map_take]
theorem i64s_drop (a : List Int) (k : Nat) : i64s (a.drop k) = (i64s a).drop k := by simp [i64s, List.map_drop]
theorem own_room {w : World} {base : Nat} {e : TypeId} {g n c : Nat} {xs : List Value} (h : w.ownsRow base e 1 (.slice (some ⟨g, 0, none⟩) n c) n xs) : n ≤ c := by
  rcases h.2 with ⟨hv, _⟩ | ⟨g', cap', cur, hv, _, _, hnc, _⟩
  · cases hv
  · injection hv with _ _ e3
    subst e3
    exact hnc
def insO (x : Int) : List Int → List Int
  | [] => [x]
  | y :: r => if y ≤ x then y :: insO x r else x :: y :: r
def orderK (l : List Int) : Nat → List Int
  | 0 => []
  | k + 1 => insO (atL l k) (orderK l k)
theorem insO_length (x : Int) (R : List Int) : (insO x R).length = R.length + 1 := by
  induction R with
  | nil => rfl
  | cons y r ih => rw [insO]; split <;> simp [ih]
theorem orderK_length (l : List Int) (k : Nat) : (orderK l k).length = k := by
  induction k with
  | zero => rfl
  | succ k ih => rw [orderK, insO_length, ih]
theorem insO_at (x : Int) : ∀ (R : List Int) (j : Nat), j ≤ R.length → (∀ i, i < j → atL R i ≤ x) → (j < R.length → x < atL R j) → insO x R = R.take j ++ x :: R.drop j
  | [], j, h1, _, _ => by simp [insO]
  | y :: r, 0, _, _, h3 => by
    have := h3 (by simp)
    rw [insO, if_neg (by simp [atL] at this; omega)]; simp
  | y :: r, j + 1, h1, h2, h3 => by
    have h0 : y ≤ x := by have := h2 0 (by omega); simpa [atL] using this
    rw [insO, if_pos h0, insO_at x r j (by simpa using h1) (fun i hi => by have := h2 (i + 1) (by omega); simpa [atL] using this) (fun hj => by have := h3 (by simpa using hj); simpa [atL] using this)]
    simp
def Srt (l : List Int) : Prop := l.Pairwise (· ≤ ·)
theorem insO_mem (x : Int) (R : List Int) (z : Int) (h : z ∈ insO x R) : z = x ∨ z ∈ R := by
  induction R with
  | nil => simp [insO] at h; exact .inl h
  | cons y r ih =>
    rw [insO] at h
    split at h
    · rcases List.mem_cons.1 h with e | e
      · exact .inr (by simp [e])
      · rcases ih e with e | e
        · exact .inl e
        · exact .inr (by simp [e])
    · rcases List.mem_cons.1 h with e | e
      · exact .inl e
      · exact .inr e
theorem insO_srt (x : Int) (R : List Int) (h : Srt R) : Srt (insO x R) := by
  induction R with
  | nil => simp [insO, Srt]
  | cons y r ih =>
    have hc := List.pairwise_cons.1 h
    rw [insO]
    split
    · rename_i hyx
      refine List.pairwise_cons.2 ⟨fun z hz => ?_, ih hc.2⟩
      rcases insO_mem x r z hz with rfl | e
      · exact hyx
      · exact hc.1 z e
    · rename_i hyx
      refine List.pairwise_cons.2 ⟨fun z hz => ?_, h⟩
      rcases List.mem_cons.1 hz with rfl | e
      · omega
      · have := hc.1 z e; omega
theorem orderK_srt (l : List Int) (k : Nat) : Srt (orderK l k) := by
  induction k with
  | zero => simp [orderK, Srt]
  | succ k ih => exact insO_srt _ _ ih
theorem merge_mem (z : Int) : ∀ a b : List Int, z ∈ mergeF ltI a b → z ∈ a ∨ z ∈ b
  | [], b, h => by rw [merge_zero] at h; exact .inr h
  | x :: a, [], h => by rw [merge_nil] at h; exact .inl h
  | x :: a, y :: b, h => by
    rw [mergeF] at h
    split at h
    · rcases List.mem_cons.1 h with e | e
      · exact .inr (by simp [e])
      · rcases merge_mem z (x :: a) b e with e | e
        · exact .inl e
        · exact .inr (by simp [e])
    · rcases List.mem_cons.1 h with e | e
      · exact .inl (by simp [e])
      · rcases merge_mem z a (y :: b) e with e | e
        · exact .inl (by simp [e])
        · exact .inr e
termination_by a b => a.length + b.length
theorem merge_srt : ∀ a b : List Int, Srt a → Srt b → Srt (mergeF ltI a b)
  | [], b, _, h => by rw [merge_zero]; exact h
  | x :: a, [], h, _ => by rw [merge_nil]; exact h
  | x :: a, y :: b, ha, hb => by
    have hca := List.pairwise_cons.1 ha
    have hcb := List.pairwise_cons.1 hb
    rw [mergeF]
    split
    · rename_i hl
      have hl' : y < x := by simpa [ltI] using hl
      refine List.pairwise_cons.2 ⟨fun z hz => ?_, merge_srt (x :: a) b ha hcb.2⟩
      rcases merge_mem z _ _ hz with e | e
      · rcases List.mem_cons.1 e with rfl | e
        · omega
        · have := hca.1 z e; omega
      · exact hcb.1 z e
    · rename_i hl
      have hl' : ¬ y < x := by simpa [ltI] using hl
      refine List.pairwise_cons.2 ⟨fun z hz => ?_, merge_srt a (y :: b) hca.2 hb⟩
      rcases merge_mem z _ _ hz with e | e
      · exact hca.1 z e
      · rcases List.mem_cons.1 e with rfl | e
        · omega
        · have := hcb.1 z e; omega
termination_by a b => a.length + b.length
theorem srt_at {l : List Int} (h : Srt l) {i : Nat} (h0 : 0 < i) (hi : i < l.length) : atL l (i - 1) ≤ atL l i := by
  have := List.pairwise_iff_getElem.1 h (i - 1) i (by omega) hi (by omega)
  simpa [atL, hi, show i - 1 < l.length by omega] using this
set_option maxHeartbeats 4000000 in
theorem order_any (A : Option Addr) (ca n : Nat) (l : List Int) (el : l.length = n) (w : World) (hw : Cells w A (i64s l)) (hn : n ≤ 100) :
    Calls Try.prog 12 #[.slice A n ca] w (GivesOwn 3 1 n (i64s (orderK l n)) w) := by
  obtain ⟨i0, hi, hz0, hz1, hz2⟩ := info_parts info_i64
  have HW := hid hw
  have EL := hid el
  clear hw el
  go_enter Try.func12, Try.ntmps12
  go_wp2
  go_loopw [3, 10] (fun v i wr => ∃ (k : Nat), i = .int .i64 k ∧ k ≤ n ∧ Hid (Below w.heap.size w wr) ∧ Hid (wr.ownsRow w.heap.size 3 1 v k (i64s (orderK l k))) ∧ Hid ((k = 0 ∧ v = .slice none 0 0) ∨ ∃ g c, v = .slice (some ⟨g, 0, none⟩) k c ∧ k ≤ c)) (fun _ i _ => n - (intOf i).toNat)
  case atStart => exact ⟨0, rfl, by omega, hid (Below.refl _ _), hid (World.ownsRow_nil _ _ _ _), hid (.inl ⟨rfl, rfl⟩)⟩
  case round =>
    obtain ⟨k, rfl, hk, HB, HO, HV⟩ := hrel
    by_cases hlt : k < n
    · obtain ⟨R, eR⟩ : ∃ R, orderK l k = R := ⟨_, rfl⟩
      have hRl : R.length = k := by rw [← eR]; exact orderK_length _ _
      obtain ⟨b1, o1, eA, hcx⟩ := i64_at (HW.out.below HB.out) (show k < l.length by rw [EL.out]; exact hlt)
      obtain ⟨v, ev⟩ : ∃ v, atL l k = v := ⟨_, rfl⟩
      have hnext : ∀ j, j ≤ k → (∀ i, i < j → atL R i ≤ v) → (j < k → v < atL R j) → orderK l (k + 1) = R.take j ++ v :: R.drop j := by
        intro j h1 h2 h3
        rw [orderK, eR, ev]
        exact insO_at v R j (by rw [hRl]; exact h1) h2 (by rw [hRl]; exact h3)
      rw [eR] at HO
      rw [ev] at hcx
      subst eA
      have HRL := hid hRl
      have HNX := hid hnext
      clear eR hRl hnext ev
      rcases HV.out with ⟨rfl, rfl⟩ | ⟨g, c, rfl, hkc⟩
      · have hR0 : R = [] := List.eq_nil_of_length_eq_zero HRL.out
        have HX := hid (HNX.out 0 (Nat.le_refl _) (fun i h => by omega) (fun h => by omega))
        clear HV HNX
        subst hR0
        simp only [Nat.add_zero] at hcx
        go_wp2_with fail
        go_loopw [6] (fun i wr' => ∃ (x : Past), i = .int .i64 0 ∧ wr' = wr.past x) (fun _ _ => 0)
        case atStart => exact ⟨_, rfl, World.past_refl wr⟩
        case round =>
          obtain ⟨x, rfl, rfl⟩ := hrel
          go_upto_region 10 with (first | (at_builtin; refine wpList_appendC rfl (.tmp 28) (.tmp 31) 22 rfl 3 i0 (.int .i64 0) 1 8 Try.underlying22 hi hz0 hz1 hz2 rfl (by decide) (w0 := wr) ?_ _ (0) ([]) rfl ?_ _ _ _ ([]) rfl ?_ ?_ ?_ ?_ ?_ ?_; (· (repeat (first | exact Below.refl _ _ | refine RowKit.Below.past ?_ _ | refine RowKit.Below.alloc' ?_ _ | refine RowKit.Below.drew' ?_ | refine RowKit.Below.drewN' ?_ _ | refine RowKit.Below.setCell' ?_ (by simp [go_sem]) _))); (· (rw [← World.size_past]; exact World.ownsRow_lit _ #[] 0 (by simp [go_sem]) (by unfold maxLen; omega) rfl)); (· rfl); (· exact Cells.nil _ _); (· (intro u hu; cases hu)); (· (unfold maxLen; omega)); (· omega); intro x2 A2 c2 ho2) | (at_builtin; refine wpList_push rfl (.tmp 33) (.tmp 35) 22 rfl 3 i0 (.int .i64 0) 1 8 Try.underlying22 hi hz0 hz1 hz2 rfl (by decide) (w0 := wr) ?_ _ _ _ rfl (ho2) _ (#[.int .i64 v]) ?_ rfl rfl ?_ ?_ ?_ ?_; (· (repeat (first | exact Below.refl _ _ | refine RowKit.Below.past ?_ _ | refine RowKit.Below.alloc' ?_ _ | refine RowKit.Below.drew' ?_ | refine RowKit.Below.drewN' ?_ _ | refine RowKit.Below.setCell' ?_ (by simp [go_sem]) _))); (· simp [go_sem]); (· simp [Value.oneCell']); (· omega); (· (unfold maxLen; omega)); intro x1 g1 cap1 hown1))
          go_wp2_with ((at_builtin; refine wpList_appendC rfl (.tmp 37) (.tmp 40) 22 rfl 3 i0 (.int .i64 0) 1 8 Try.underlying22 hi hz0 hz1 hz2 rfl (by decide) (w0 := wr) ?_ _ (1) ([.int .i64 v]) rfl ?_ _ _ _ ([]) rfl ?_ ?_ ?_ ?_ ?_ ?_; (· (repeat (first | exact Below.refl _ _ | refine RowKit.Below.past ?_ _ | refine RowKit.Below.alloc' ?_ _ | refine RowKit.Below.drew' ?_ | refine RowKit.Below.drewN' ?_ _ | refine RowKit.Below.setCell' ?_ (by simp [go_sem]) _))); (· exact hown1); (· rfl); (· exact Cells.nil _ _); (· (intro u hu; cases hu)); (· (unfold maxLen; omega)); (· omega); intro x3 A3 c3 ho3))
          rw [show (1 : Nat) + 0 = 1 from rfl] at ho3
          obtain ⟨g3, c4, e3, _⟩ := own_succ ho3 (by omega)
          injection e3 with e31 _ e32
          subst e31; subst e32
          go_roundw
          case rel => exact ⟨1, rfl, by omega, hid (RowKit.Below.past HB.out _), hid (by rw [show orderK l 1 = [v] from HX.out]; exact own_base ho3 HB.out.size), hid (.inr ⟨g3, c3, rfl, own_room ho3⟩)⟩
          case measure => simp [intOf]; omega
      · clear HV
        have hlk := (HO.out.lt g rfl).2
        go_wp2_with fail
        go_loopw [6] (fun i wr' => ∃ (j : Nat) (x : Past), i = .int .i64 j ∧ j ≤ k ∧ wr' = wr.past x ∧ Hid (∀ i, i < j → atL R i ≤ v)) (fun i _ => k - (intOf i).toNat)
        case atStart => exact ⟨0, _, rfl, by omega, World.past_refl wr, hid (fun i h => by omega)⟩
        case round =>
          obtain ⟨j, x, rfl, hj, rfl, HJ⟩ := hrel
          by_cases hjk : j < k
          · obtain ⟨p, ep⟩ : ∃ p, atL R j = p := ⟨_, rfl⟩
            have hcj : wr.cell? ⟨g, j, none⟩ = some (.int .i64 p) := by
              rw [HO.out.cellAt j (by omega), ← ep]
              simp [i64s, atL, show j < R.length by rw [HRL.out]; exact hjk]
            have H1 := hid ep
            clear ep
            rcases dec_cases (p ≤ v) with hb | hb
            · have HJ2 := hid (show ∀ i, i < j + 1 → atL R i ≤ v by
                intro i hi
                by_cases e : i = j
                · subst e; rw [H1.out]; simpa using hb
                · exact HJ.out i (by omega))
              go_wp2_with fail
              go_roundw
              case rel => exact ⟨j + 1, _, by go_num, by omega, rfl, HJ2⟩
              case measure => simp [intOf]; omega
            · have HXX := hid (HNX.out j hj HJ.out (fun _ => by rw [H1.out]; simpa using hb))
              clear HNX HJ
              obtain ⟨y, hx, hj0⟩ : ∃ y : Unit, orderK l (k + 1) = R.take j ++ v :: R.drop j ∧ j ≤ k := ⟨(), HXX.out, hj⟩
              have HX := hid hx
              have hlt1 : (R.take j).length = j := by rw [List.length_take, HRL.out]; omega
              have hlt2 : (R.drop j).length = k - j := by rw [List.length_drop, HRL.out]
              have HL1 := hid hlt1
              have HL2 := hid hlt2
              clear hx hlt1 hlt2 HXX
              go_upto_region 10 with (first | (at_builtin; refine wpList_appendC rfl (.tmp 28) (.tmp 31) 22 rfl 3 i0 (.int .i64 0) 1 8 Try.underlying22 hi hz0 hz1 hz2 rfl (by decide) (w0 := wr) ?_ _ (0) ([]) rfl ?_ _ _ _ (i64s (R.take j)) rfl ?_ ?_ ?_ ?_ ?_ ?_; (· (repeat (first | exact Below.refl _ _ | refine RowKit.Below.past ?_ _ | refine RowKit.Below.alloc' ?_ _ | refine RowKit.Below.drew' ?_ | refine RowKit.Below.drewN' ?_ _ | refine RowKit.Below.setCell' ?_ (by simp [go_sem]) _))); (· (rw [← World.size_past]; exact World.ownsRow_lit _ #[] 0 (by simp [go_sem]) (by unfold maxLen; omega) rfl)); (· (rw [i64s_length, HL1.out] <;> omega)); (· (rw [i64s_take]; exact (((Cells.of_own HO.out).past _).alloc _).take j)); (· exact i64s_one _); (· (unfold maxLen; omega)); (· omega); intro x2 A2 c2 ho2; simp only [Nat.zero_add, List.nil_append] at ho2) | (at_builtin; refine wpList_push rfl (.tmp 33) (.tmp 35) 22 rfl 3 i0 (.int .i64 0) 1 8 Try.underlying22 hi hz0 hz1 hz2 rfl (by decide) (w0 := wr) ?_ _ _ _ rfl (ho2) _ (#[.int .i64 v]) ?_ rfl rfl ?_ ?_ ?_ ?_; (· (repeat (first | exact Below.refl _ _ | refine RowKit.Below.past ?_ _ | refine RowKit.Below.alloc' ?_ _ | refine RowKit.Below.drew' ?_ | refine RowKit.Below.drewN' ?_ _ | refine RowKit.Below.setCell' ?_ (by simp [go_sem]) _))); (· simp [go_sem]); (· simp [Value.oneCell']); (· omega); (· (unfold maxLen; omega)); intro x1 g1 cap1 hown1))
              have hcd : Cells (wr.past x1) (some ⟨g, j, none⟩) (i64s (R.drop j)) := by
                have := ((Cells.of_own HO.out).past x1).drop j
                rw [i64s_drop]
                simpa using this
              have HCD := hid hcd
              clear hcd
              go_wp2_with ((at_builtin; refine wpList_appendC rfl (.tmp 37) (.tmp 40) 22 rfl 3 i0 (.int .i64 0) 1 8 Try.underlying22 hi hz0 hz1 hz2 rfl (by decide) (w0 := wr) ?_ _ (j + 1) (i64s (R.take j) ++ [.int .i64 v]) rfl ?_ _ _ _ (i64s (R.drop j)) rfl ?_ ?_ ?_ ?_ ?_ ?_; (· (repeat (first | exact Below.refl _ _ | refine RowKit.Below.past ?_ _ | refine RowKit.Below.alloc' ?_ _ | refine RowKit.Below.drew' ?_ | refine RowKit.Below.drewN' ?_ _ | refine RowKit.Below.setCell' ?_ (by simp [go_sem]) _))); (· exact hown1); (· (rw [i64s_length, HL2.out] <;> omega)); (· exact HCD.out); (· exact i64s_one _); (· (unfold maxLen; omega)); (· omega); intro x3 A3 c3 ho3))
              rw [show j + 1 + (k - j) = k + 1 by omega] at ho3 ⊢
              have hrow : i64s (R.take j) ++ [.int .i64 v] ++ i64s (R.drop j) = i64s (orderK l (k + 1)) := by
                rw [HX.out]; simp [i64s]
              rw [hrow] at ho3
              obtain ⟨g3, c4, e3, _⟩ := own_succ ho3 (by omega)
              injection e3 with e31 _ e32
              subst e31; subst e32
              go_roundw
              case rel => exact ⟨k + 1, by go_num, by omega, hid (RowKit.Below.past HB.out _), hid (own_base ho3 HB.out.size), hid (.inr ⟨g3, c3, rfl, own_room ho3⟩)⟩
              case measure => simp [intOf]; omega
          · obtain rfl : j = k := by omega
            have HXX := hid (HNX.out j hj HJ.out (fun h => by omega))
            clear HNX HJ
            have hcc : j < c ∨ c = j := by omega
            rcases hcc with hcc | hcc
            all_goals
              obtain ⟨y, hx, hj0⟩ : ∃ y : Unit, orderK l (j + 1) = R.take j ++ v :: R.drop j ∧ j ≤ j := ⟨(), HXX.out, hj⟩
              have HX := hid hx
              have hlt1 : (R.take j).length = j := by rw [List.length_take, HRL.out]; omega
              have hlt2 : (R.drop j).length = j - j := by rw [List.length_drop, HRL.out]
              have HL1 := hid hlt1
              have HL2 := hid hlt2
              clear hx hlt1 hlt2 HXX
              go_upto_region 10 with (first | (at_builtin; refine wpList_appendC rfl (.tmp 28) (.tmp 31) 22 rfl 3 i0 (.int .i64 0) 1 8 Try.underlying22 hi hz0 hz1 hz2 rfl (by decide) (w0 := wr) ?_ _ (0) ([]) rfl ?_ _ _ _ (i64s (R.take j)) rfl ?_ ?_ ?_ ?_ ?_ ?_; (· (repeat (first | exact Below.refl _ _ | refine RowKit.Below.past ?_ _ | refine RowKit.Below.alloc' ?_ _ | refine RowKit.Below.drew' ?_ | refine RowKit.Below.drewN' ?_ _ | refine RowKit.Below.setCell' ?_ (by simp [go_sem]) _))); (· (rw [← World.size_past]; exact World.ownsRow_lit _ #[] 0 (by simp [go_sem]) (by unfold maxLen; omega) rfl)); (· (rw [i64s_length, HL1.out] <;> omega)); (· (rw [i64s_take]; exact (((Cells.of_own HO.out).past _).alloc _).take j)); (· exact i64s_one _); (· (unfold maxLen; omega)); (· omega); intro x2 A2 c2 ho2; simp only [Nat.zero_add, List.nil_append] at ho2) | (at_builtin; refine wpList_push rfl (.tmp 33) (.tmp 35) 22 rfl 3 i0 (.int .i64 0) 1 8 Try.underlying22 hi hz0 hz1 hz2 rfl (by decide) (w0 := wr) ?_ _ _ _ rfl (ho2) _ (#[.int .i64 v]) ?_ rfl rfl ?_ ?_ ?_ ?_; (· (repeat (first | exact Below.refl _ _ | refine RowKit.Below.past ?_ _ | refine RowKit.Below.alloc' ?_ _ | refine RowKit.Below.drew' ?_ | refine RowKit.Below.drewN' ?_ _ | refine RowKit.Below.setCell' ?_ (by simp [go_sem]) _))); (· simp [go_sem]); (· simp [Value.oneCell']); (· omega); (· (unfold maxLen; omega)); intro x1 g1 cap1 hown1))
              go_wp2_with ((at_builtin; refine wpList_appendC rfl (.tmp 37) (.tmp 40) 22 rfl 3 i0 (.int .i64 0) 1 8 Try.underlying22 hi hz0 hz1 hz2 rfl (by decide) (w0 := wr) ?_ _ (j + 1) (i64s (R.take j) ++ [.int .i64 v]) rfl ?_ _ _ _ (i64s (R.drop j)) rfl ?_ ?_ ?_ ?_ ?_ ?_; (· (repeat (first | exact Below.refl _ _ | refine RowKit.Below.past ?_ _ | refine RowKit.Below.alloc' ?_ _ | refine RowKit.Below.drew' ?_ | refine RowKit.Below.drewN' ?_ _ | refine RowKit.Below.setCell' ?_ (by simp [go_sem]) _))); (· exact hown1); (· (rw [i64s_length, HL2.out] <;> omega)); (· (rw [show R.drop j = [] from List.eq_nil_of_length_eq_zero (by rw [HL2.out]; omega)]; exact Cells.nil _ _)); (· exact i64s_one _); (· (unfold maxLen; omega)); (· omega); intro x3 A3 c3 ho3))
              simp only [Nat.sub_self, Nat.add_zero] at ho3
              try simp only [Nat.sub_self, Nat.add_zero]
              have hrow : i64s (R.take j) ++ [.int .i64 v] ++ i64s (R.drop j) = i64s (orderK l (j + 1)) := by
                rw [HX.out]; simp [i64s]
              rw [hrow] at ho3
              obtain ⟨g3, c4, e3, _⟩ := own_succ ho3 (by omega)
              injection e3 with e31 _ e32
              subst e31; subst e32
              go_roundw
              case rel => exact ⟨j + 1, by go_num, by omega, hid (RowKit.Below.past HB.out _), hid (own_base ho3 HB.out.size), hid (.inr ⟨g3, c3, rfl, own_room ho3⟩)⟩
              case measure => simp [intOf]; omega
    · obtain rfl : k = n := by omega
      obtain ⟨A', c', rfl⟩ := own_shape HO.out
      go_wp2
      go_ret
      exact ⟨A', c', rfl, HB.out, HO.out⟩
end Go.Proofs.Ythemogfniohdiaa
