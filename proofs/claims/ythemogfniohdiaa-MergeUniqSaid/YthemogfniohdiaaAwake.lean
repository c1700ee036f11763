/-
  Layer 32's law begins with two rows: it is awake; and what its laws lean on: Two, the document's Two, ints. No condition.
-/
import Derived.Test.YthemogfniohdiaaFirstS
import Derived.Test.YthemogfniohdiaaAppC
namespace Go.Proofs.Ythemogfniohdiaa
open Go.RowKit
theorem twoI_any (A B : Option Addr) (na ca nb cb : Nat) (w : World) :
    Calls Try.prog 9 #[.slice A na ca, .slice B nb cb] w (fun e w' => e = .returned (.func (.func 20) #[] #[.pointer (some ⟨w.heap.size, 0, none⟩), .pointer (some ⟨w.heap.size + 1, 0, none⟩)]) ∧
      Below w.heap.size w w' ∧ w'.cell? ⟨w.heap.size, 0, none⟩ = some (.slice A na ca) ∧ w'.cell? ⟨w.heap.size + 1, 0, none⟩ = some (.slice B nb cb)) := by
  go_enter Try.func9, Try.ntmps9
  go_wp2
  go_ret
  exact ⟨rfl, ((Below.refl _ w).alloc (Nat.le_refl _) _).alloc (by simp) _, by simp [go_sem], by simp [go_sem]⟩
theorem twoS_any (A B : Option Addr) (na ca nb cb : Nat) (w : World) :
    Calls Try.prog 19 #[.slice A na ca, .slice B nb cb] w (fun e w' => e = .returned (.func (.func 26) #[] #[.pointer (some ⟨w.heap.size, 0, none⟩), .pointer (some ⟨w.heap.size + 1, 0, none⟩)]) ∧
      Below w.heap.size w w' ∧ w'.cell? ⟨w.heap.size, 0, none⟩ = some (.slice A na ca) ∧ w'.cell? ⟨w.heap.size + 1, 0, none⟩ = some (.slice B nb cb)) := by
  go_enter Try.func19, Try.ntmps19
  go_wp2
  go_ret
  exact ⟨rfl, ((Below.refl _ w).alloc (Nat.le_refl _) _).alloc (by simp) _, by simp [go_sem], by simp [go_sem]⟩
def sA : ByteArray := ⟨#[97]⟩
def sB : ByteArray := ⟨#[98]⟩
def sC : ByteArray := ⟨#[99]⟩
theorem awake_merge : takeF (mergeF ltS [sA, sC] [sB]) 9 = [sA, sB, sC] := by
  have h1 : ltS sB sA = false := by kernel_rfl
  have h2 : ltS sB sC = true := by kernel_rfl
  rw [merge_lo _ _ h1, merge_hi _ _ h2, merge_nil]
  rfl
theorem str_lit (w : World) (cs : List ByteArray) (h : cs.length ≤ 1000) : Cells (w.alloc (.cells (strs cs).toArray 9)) (some ⟨w.heap.size, 0, none⟩) (strs cs) :=
  Cells.of_own (World.ownsRow_lit (base := 0) (size := 1) w (strs cs).toArray cs.length (Nat.zero_le _) (by unfold maxLen; omega) (by simp [strs]))
set_option maxHeartbeats 2000000 in
theorem awake_any (w : World) : Calls Try.prog 7 #[] w (Gives (.bool true) w) := by
  obtain ⟨W, eW⟩ : ∃ W, W = (w.alloc (.cells #[.string sA, .string sC] 9)).alloc (.cells #[.string sB] 9) := ⟨_, rfl⟩
  have hbW : Below w.heap.size w W := by rw [eW]; exact ((Below.refl _ w).alloc (Nat.le_refl _) _).alloc (by simp) _
  have h1 : Cells W (some ⟨w.heap.size, 0, none⟩) (strs [sA, sC]) := by rw [eW]; exact (str_lit w [sA, sC] (by simp)).alloc _
  have h2 : Cells W (some ⟨w.heap.size + 1, 0, none⟩) (strs [sB]) := by
    rw [eW]
    have := str_lit (w.alloc (.cells #[.string sA, .string sC] 9)) [sB] (by simp)
    rw [World.size_alloc] at this
    exact this
  have EW := hid eW
  have HBW := hid hbW
  have H1 := hid h1
  have H2 := hid h2
  clear eW hbW h1 h2
  have hsA : (⟨#[97]⟩ : ByteArray) = sA := rfl
  have hsB : (⟨#[98]⟩ : ByteArray) = sB := rfl
  have hsC : (⟨#[99]⟩ : ByteArray) = sC := rfl
  go_enter Try.func7, Try.ntmps7
  go_wp2_with fail
  rw [← EW.out]
  refine (twoS_any _ _ 2 2 1 1 W).mono ?_
  rintro _ w2 ⟨rfl, hb2, hc0, hc1⟩
  have HB2 := hid (below_trans' HBW.out hb2)
  have HA2 := hid (H1.out.below hb2)
  have HC2 := hid (H2.out.below hb2)
  have HF := hid (FirstS_two w2 w2 W.heap.size (W.heap.size + 1) _ _ 2 1 2 1 [sA, sC] [sB] rfl rfl hc0 hc1 HA2.out HC2.out (by omega) (by omega) (Below.refl _ _) 9)
  clear hb2 hc0 hc1 H1 H2 HA2 HC2 HBW EW
  go_wp2_with fail
  refine HF.out.mono ?_
  rw [awake_merge]
  rintro _ w3 ⟨R, cr, rfl, hb3, ho3⟩
  have HB3 := hid (below_trans' HB2.out hb3)
  have HC3 := hid (Cells.of_own ho3)
  clear hb3 ho3 HB2 HF
  obtain ⟨b1, o1, rfl, hc0⟩ := str_at HC3.out (k := 0) (by decide)
  obtain ⟨b2, o2, e, hc1⟩ := str_at HC3.out (k := 1) (by decide)
  injection e with e
  injection e with eb eo
  subst eb; subst eo
  obtain ⟨b2, o2, e, hc2⟩ := str_at HC3.out (k := 2) (by decide)
  injection e with e
  injection e with eb eo
  subst eb; subst eo
  have v0 : atS [sA, sB, sC] 0 = sA := rfl
  have v1 : atS [sA, sB, sC] 1 = sB := rfl
  have v2 : atS [sA, sB, sC] 2 = sC := rfl
  rw [v0] at hc0
  rw [v1] at hc1
  rw [v2] at hc2
  simp only [Nat.add_zero] at hc0
  clear v0 v1 v2
  go_wp2
  go_ret
  exact Gives.mk rfl HB3.out
set_option maxHeartbeats 2000000 in
theorem RTwo_any (A B : Option Addr) (ca cb na nb : Nat) (a b : List Int) (ea : a.length = na) (eb : b.length = nb) (hla : na ≤ 100000) (hlb : nb ≤ 100000) (w : World) (ha : Cells w A (i64s a)) (hb : Cells w B (i64s b)) :
    Calls Try.prog 8 #[.slice A na ca, .slice B nb cb] w (GivesOwn 3 1 (mergeF ltI a b).length (i64s (mergeF ltI a b)) w) := by
  obtain ⟨i0, hi, hz0, hz1, hz2⟩ := info_parts info_i64
  have EA := hid ea
  have EB := hid eb
  have HA := hid ha
  have HB := hid hb
  clear ea eb ha hb
  go_enter Try.func8, Try.ntmps8
  go_wp2
  go_loopw [5, 6, 7] (fun v iv kv wr => ∃ (i k : Nat) (pre : List Int) (x : Past), iv = .int .i64 i ∧ kv = .int .i64 k ∧ i ≤ na ∧ k ≤ nb ∧ wr = w.past x ∧ Hid ((w.past x).ownsRow w.heap.size 3 1 v pre.length (i64s pre)) ∧ Hid (mergeF ltI a b = pre ++ mergeF ltI (a.drop i) (b.drop k)) ∧ Hid (pre.length = i + k)) (fun _ iv kv _ => (na - (intOf iv).toNat) + (nb - (intOf kv).toNat))
  case atStart => exact ⟨0, 0, [], _, rfl, rfl, by omega, by omega, World.past_refl w, hid (World.ownsRow_nil _ _ _ _), hid (by simp), hid rfl⟩
  case round =>
    obtain ⟨i, k, pre, x, rfl, rfl, hi', hk', rfl, HO, HM, HL⟩ := hrel
    have hlp := HL.out
    obtain ⟨lp, elp⟩ : ∃ lp, pre.length = lp := ⟨_, rfl⟩
    rw [elp] at HO hlp
    have ELP := hid elp
    have HLP := hid hlp
    have hlb2 : lp ≤ 200000 := by omega
    clear elp hlp
    by_cases h1 : i < na
    · obtain ⟨b1, o1, rfl, hcx⟩ := i64_at HA.out (show i < a.length by rw [EA.out]; exact h1)
      have hax : a.drop i = atL a i :: a.drop (i + 1) := drop_cons (by simp [atL, show i < a.length by rw [EA.out]; exact h1])
      obtain ⟨p, ep⟩ : ∃ p, atL a i = p := ⟨_, rfl⟩
      rw [ep] at hcx hax
      by_cases h2 : k < nb
      · obtain ⟨b2, o2, rfl, hcy⟩ := i64_at HB.out (show k < b.length by rw [EB.out]; exact h2)
        have hby : b.drop k = atL b k :: b.drop (k + 1) := drop_cons (by simp [atL, show k < b.length by rw [EB.out]; exact h2])
        obtain ⟨q, eq⟩ : ∃ q, atL b k = q := ⟨_, rfl⟩
        rw [eq] at hcy hby
        have hne : ((k : Int) == (nb : Int)) = false := by simp; omega
        rcases dec_cases (p ≤ q) with hpq | hpq
        · have HM2 := hid (show mergeF ltI a b = (pre ++ [p]) ++ mergeF ltI (a.drop (i + 1)) (b.drop k) by
            rw [HM.out, hax, hby, merge_lo _ _ (by simp [ltI] at hpq ⊢; omega)]; simp)
          clear ep eq hax hby HM
          go_wp2_with fail
          refine wp_region_past (by kernel_rfl) (by kernel_rfl) ?_
          repeat (go_big_quiet_step ((fail)))
          refine wpQuiet_nil ?_
          rintro _ ⟨_, rfl⟩
          go_wp2_with (at_builtin; refine wpList_push rfl (.tmp 39) (.tmp 44) 22 rfl 3 i0 (.int .i64 0) 1 8 Try.underlying22 hi hz0 hz1 hz2 rfl (by decide) (w0 := w) ?_ _ _ _ rfl (own_and HO.out _) _ (#[.int .i64 p]) ?_ rfl rfl ?_ ?_ ?_ ?_; (· (repeat (first | exact Below.refl _ _ | refine RowKit.Below.past ?_ _ | refine RowKit.Below.alloc' ?_ _ | refine RowKit.Below.drew' ?_ | refine RowKit.Below.drewN' ?_ _ | refine RowKit.Below.setCell' ?_ (by simp [go_sem]) _))); (· simp [go_sem]); (· simp [Value.oneCell']); (· omega); (· (unfold maxLen; omega)); intro x1 g1 cap1 hown1)
          go_roundw
          case rel =>
            refine ⟨i + 1, k, pre ++ [p], _, by go_num, by go_num, by omega, by omega, rfl, hid ?_, HM2, hid (by rw [List.length_append, HL.out]; simp; omega)⟩
            rw [← i64s_snoc, List.length_append, ELP.out]
            exact hown1
          case measure => simp [intOf]; omega
        · have HM2 := hid (show mergeF ltI a b = (pre ++ [q]) ++ mergeF ltI (a.drop i) (b.drop (k + 1)) by
            rw [HM.out, hax, hby, merge_hi _ _ (by simp [ltI] at hpq ⊢; omega)]; simp)
          clear ep eq hax hby HM
          go_wp2_with fail
          refine wp_region_past (by kernel_rfl) (by kernel_rfl) ?_
          repeat (go_big_quiet_step ((fail)))
          refine wpQuiet_nil ?_
          rintro _ ⟨_, rfl⟩
          go_wp2_with (at_builtin; refine wpList_push rfl (.tmp 48) (.tmp 53) 22 rfl 3 i0 (.int .i64 0) 1 8 Try.underlying22 hi hz0 hz1 hz2 rfl (by decide) (w0 := w) ?_ _ _ _ rfl (own_and HO.out _) _ (#[.int .i64 q]) ?_ rfl rfl ?_ ?_ ?_ ?_; (· (repeat (first | exact Below.refl _ _ | refine RowKit.Below.past ?_ _ | refine RowKit.Below.alloc' ?_ _ | refine RowKit.Below.drew' ?_ | refine RowKit.Below.drewN' ?_ _ | refine RowKit.Below.setCell' ?_ (by simp [go_sem]) _))); (· simp [go_sem]); (· simp [Value.oneCell']); (· omega); (· (unfold maxLen; omega)); intro x1 g1 cap1 hown1)
          go_roundw
          case rel =>
            refine ⟨i, k + 1, pre ++ [q], _, by go_num, by go_num, by omega, by omega, rfl, hid ?_, HM2, hid (by rw [List.length_append, HL.out]; simp; omega)⟩
            rw [← i64s_snoc, List.length_append, ELP.out]
            exact hown1
          case measure => simp [intOf]; omega
      · obtain rfl : k = nb := by omega
        have hbn : b.drop k = [] := by rw [← EB.out]; exact List.drop_length
        have HM2 := hid (show mergeF ltI a b = (pre ++ [p]) ++ mergeF ltI (a.drop (i + 1)) (b.drop k) by
          rw [HM.out, hax, hbn, merge_one]; simp)
        clear ep hax hbn HM
        go_wp2_with fail
        refine wp_region_past (by kernel_rfl) (by kernel_rfl) ?_
        repeat (go_big_quiet_step ((fail)))
        refine wpQuiet_nil ?_
        rintro _ ⟨_, rfl⟩
        go_wp2_with (at_builtin; refine wpList_push rfl (.tmp 39) (.tmp 44) 22 rfl 3 i0 (.int .i64 0) 1 8 Try.underlying22 hi hz0 hz1 hz2 rfl (by decide) (w0 := w) ?_ _ _ _ rfl (own_and HO.out _) _ (#[.int .i64 p]) ?_ rfl rfl ?_ ?_ ?_ ?_; (· (repeat (first | exact Below.refl _ _ | refine RowKit.Below.past ?_ _ | refine RowKit.Below.alloc' ?_ _ | refine RowKit.Below.drew' ?_ | refine RowKit.Below.drewN' ?_ _ | refine RowKit.Below.setCell' ?_ (by simp [go_sem]) _))); (· simp [go_sem]); (· simp [Value.oneCell']); (· omega); (· (unfold maxLen; omega)); intro x1 g1 cap1 hown1)
        go_roundw
        case rel =>
          refine ⟨i + 1, k, pre ++ [p], _, by go_num, by go_num, by omega, by omega, rfl, hid ?_, HM2, hid (by rw [List.length_append, HL.out]; simp; omega)⟩
          rw [← i64s_snoc, List.length_append, ELP.out]
          exact hown1
        case measure => simp [intOf]; omega
    · obtain rfl : i = na := by omega
      have han : a.drop i = [] := by rw [← EA.out]; exact List.drop_length
      by_cases h2 : k < nb
      · obtain ⟨b2, o2, rfl, hcy⟩ := i64_at HB.out (show k < b.length by rw [EB.out]; exact h2)
        have hby : b.drop k = atL b k :: b.drop (k + 1) := drop_cons (by simp [atL, show k < b.length by rw [EB.out]; exact h2])
        obtain ⟨q, eq⟩ : ∃ q, atL b k = q := ⟨_, rfl⟩
        rw [eq] at hcy hby
        have hne : ((k : Int) == (nb : Int)) = false := by simp; omega
        have HM2 := hid (show mergeF ltI a b = (pre ++ [q]) ++ mergeF ltI (a.drop i) (b.drop (k + 1)) by
          rw [HM.out, hby, han, merge_zero, merge_zero]; simp)
        clear eq hby han HM
        go_wp2_with fail
        refine wp_region_past (by kernel_rfl) (by kernel_rfl) ?_
        repeat (go_big_quiet_step ((fail)))
        refine wpQuiet_nil ?_
        rintro _ ⟨_, rfl⟩
        go_wp2_with (at_builtin; refine wpList_push rfl (.tmp 48) (.tmp 53) 22 rfl 3 i0 (.int .i64 0) 1 8 Try.underlying22 hi hz0 hz1 hz2 rfl (by decide) (w0 := w) ?_ _ _ _ rfl (own_and HO.out _) _ (#[.int .i64 q]) ?_ rfl rfl ?_ ?_ ?_ ?_; (· (repeat (first | exact Below.refl _ _ | refine RowKit.Below.past ?_ _ | refine RowKit.Below.alloc' ?_ _ | refine RowKit.Below.drew' ?_ | refine RowKit.Below.drewN' ?_ _ | refine RowKit.Below.setCell' ?_ (by simp [go_sem]) _))); (· simp [go_sem]); (· simp [Value.oneCell']); (· omega); (· (unfold maxLen; omega)); intro x1 g1 cap1 hown1)
        go_roundw
        case rel =>
          refine ⟨i, k + 1, pre ++ [q], _, by go_num, by go_num, by omega, by omega, rfl, hid ?_, HM2, hid (by rw [List.length_append, HL.out]; simp; omega)⟩
          rw [← i64s_snoc, List.length_append, ELP.out]
          exact hown1
        case measure => simp [intOf]; omega
      · obtain rfl : k = nb := by omega
        have hbn : b.drop k = [] := by rw [← EB.out]; exact List.drop_length
        have HM2 := hid (show mergeF ltI a b = pre by rw [HM.out, han, hbn, merge_zero]; simp)
        clear han hbn HM
        obtain ⟨A', c', rfl⟩ := own_shape HO.out
        go_wp2
        go_ret
        refine ⟨A', c', ?_, w.below_past x, ?_⟩
        · rw [HM2.out, ELP.out]; rfl
        · rw [HM2.out, ELP.out]; exact HO.out
set_option maxHeartbeats 1000000 in
theorem ints_any (A B : Option Addr) (ca cb na nb : Nat) (a b : List Int) (ea : a.length = na) (eb : b.length = nb) (hla : na ≤ 1000000) (w : World) (ha : Cells w A (i64s a)) (hb : Cells w B (i64s b)) :
    Calls Try.prog 10 #[.slice A na ca, .slice B nb cb] w (Gives (.bool (decide (a = b))) w) := by
  have EA := hid ea
  have EB := hid eb
  have HA := hid ha
  have HB := hid hb
  by_cases hn : na = nb
  · subst hn
    clear ea eb ha hb
    go_enter Try.func10, Try.ntmps10
    go_wp2
    go_loopw [13] (fun iv wr => ∃ (i : Nat) (x : Past), iv = .int .i64 i ∧ i ≤ na ∧ wr = w.past x ∧ Hid (∀ j, j < i → atL a j = atL b j)) (fun iv _ => na - (intOf iv).toNat)
    case atStart => exact ⟨0, _, rfl, by omega, World.past_refl w, hid (fun j h => by omega)⟩
    case round =>
      obtain ⟨i, x, rfl, hi', rfl, HJ⟩ := hrel
      by_cases h1 : i < na
      · obtain ⟨b1, o1, rfl, hcx⟩ := i64_at HA.out (show i < a.length by rw [EA.out]; exact h1)
        obtain ⟨b2, o2, rfl, hcy⟩ := i64_at HB.out (show i < b.length by rw [EB.out]; exact h1)
        obtain ⟨p, ep⟩ : ∃ p, atL a i = p := ⟨_, rfl⟩
        obtain ⟨q, eq⟩ : ∃ q, atL b i = q := ⟨_, rfl⟩
        rw [ep] at hcx
        rw [eq] at hcy
        have EP := hid ep
        have EQ := hid eq
        clear ep eq
        rcases bne_cases p q with h | h
        · have hv : decide (a = b) = false := by
            simp only [decide_eq_false_iff_not]
            rintro rfl
            rw [EP.out] at EQ
            have := EQ.out
            simp at h
            exact h this
          have HV := hid hv
          clear hv
          go_wp2_with fail
          refine wp_region_past (by kernel_rfl) (by kernel_rfl) ?_
          repeat (go_big_quiet_step ((fail)))
          refine wpQuiet_nil ?_
          rintro _ ⟨_, rfl⟩
          go_wp2
          go_ret
          refine Gives.mk (by rw [HV.out]; rfl) ?_
          (repeat (first | exact Below.refl _ _ | refine RowKit.Below.past ?_ _ | refine RowKit.Below.alloc' ?_ _ | refine RowKit.Below.drew' ?_ | refine RowKit.Below.drewN' ?_ _ | refine RowKit.Below.setCell' ?_ (by simp [go_sem]) _))
        · have h' : p = q := by simpa using h
          have H' := hid h'
          clear h'
          go_wp2_with fail
          refine wp_region_past (by kernel_rfl) (by kernel_rfl) ?_
          repeat (go_big_quiet_step ((fail)))
          refine wpQuiet_nil ?_
          rintro _ ⟨_, rfl⟩
          go_wp2_with fail
          go_roundw
          case rel => exact ⟨i + 1, _, by go_num, by omega, rfl, hid (fun j hj => by
            by_cases e : j = i
            · subst e; rw [EP.out, EQ.out, H'.out]
            · exact HJ.out j (by omega))⟩
          case measure => simp [intOf]; omega
      · obtain rfl : i = na := by omega
        have hv : decide (a = b) = true := by
          simp only [decide_eq_true_eq]
          apply List.ext_getElem (by rw [EA.out, EB.out])
          intro j h1 h2
          have := HJ.out j (by rw [← EA.out]; exact h1)
          simpa [atL, h1, h2] using this
        have HV := hid hv
        clear hv
        go_wp2
        go_ret
        refine Gives.mk (by rw [HV.out]; rfl) ?_
        (repeat (first | exact Below.refl _ _ | refine RowKit.Below.past ?_ _ | refine RowKit.Below.alloc' ?_ _ | refine RowKit.Below.drew' ?_ | refine RowKit.Below.drewN' ?_ _ | refine RowKit.Below.setCell' ?_ (by simp [go_sem]) _))
  · have hv : decide (a = b) = false := by
      simp only [decide_eq_false_iff_not]
      rintro rfl
      exact hn (by rw [← ea, ← eb])
    have hnb : ((na : Int) != (nb : Int)) = true := by simp; omega
    have HV := hid hv
    clear hv ea eb ha hb
    go_enter Try.func10, Try.ntmps10
    go_wp2
    go_ret
    exact Gives.refl (by rw [HV.out]; rfl)
end Go.Proofs.Ythemogfniohdiaa
