/-
  Layer 38's QuotaFits: whether budgets fit is the document's answer, and those that do do so, if one is left out. No condition.
-/
import Derived.Test.YtmkndabbkceknaaAwake
namespace Go.Proofs.Ytmkndabbkceknaa
open Go.RowKit Go.ChangeShapes Go.WideShapes Go.ChangeAt
def pairAt (l : List (Int × Int)) (k : Nat) : Int × Int := l[k]?.getD (0, 0)
def lessK (l : List (Int × Int)) (at' : Int) : Nat → List (Int × Int)
  | 0 => []
  | k + 1 => if ((k : Int) != at') = true then lessK l at' k ++ [pairAt l k] else lessK l at' k
theorem lessK_length (l : List (Int × Int)) (at' : Int) : ∀ k, (lessK l at' k).length ≤ k := by
  intro k
  induction k with
  | zero => simp [lessK]
  | succ k ih =>
    simp only [lessK]
    split
    · simp; omega
    · omega
theorem lessK_in {l : List (Int × Int)} (hI : ∀ x ∈ l, I64 x.1 ∧ I64 x.2) (at' : Int) : ∀ k, ∀ x ∈ lessK l at' k, I64 x.1 ∧ I64 x.2 := by
  intro k
  induction k with
  | zero => intro x hx; simp [lessK] at hx
  | succ k ih =>
    intro x hx
    simp only [lessK] at hx
    split at hx
    · rcases List.mem_append.1 hx with h | h
      · exact ih x h
      · simp at h
        subst h
        unfold pairAt
        cases e : l[k]? with
        | none => exact ⟨⟨by simp, by simp⟩, ⟨by simp, by simp⟩⟩
        | some y => exact hI y (List.mem_of_getElem? e)
    · exact ih x hx
theorem fit_less (l : List (Int × Int)) (at' : Int) : ∀ k, k ≤ l.length → ∃ p : Int, 1 ≤ p ∧ 0 ≤ (fitTL (l.take k)).2 ∧ (fitTL (l.take k)).2 = p * (fitTL (lessK l at' k)).2 ∧ p * (fitTL (lessK l at' k)).1 ≤ (fitTL (l.take k)).1 := by
  intro k
  induction k with
  | zero => intro _; exact ⟨1, by omega, by simp [fitTL], by simp [lessK], by simp [lessK]⟩
  | succ k ih =>
    intro hk
    obtain ⟨p, h1, h2, h3, h4⟩ := ih (by omega)
    have hx : l[k]? = some (pairAt l k) := by simp [pairAt, show k < l.length by omega]
    have hb := bring_in (pairAt l k).1
    have hp := bring_in (pairAt l k).2
    rw [take_snoc hx, fitTL_snoc]
    generalize fitTL (l.take k) = t at *
    simp only [lessK]
    split
    · rw [fitTL_snoc]
      generalize fitTL (lessK l at' k) = s at *
      simp only [fitStep]
      generalize bringF (pairAt l k).1 1 1048576 = B at *
      generalize bringF (pairAt l k).2 1 1048576 = P at *
      refine ⟨p, h1, Int.mul_nonneg h2 (by omega), by rw [h3, Int.mul_assoc], ?_⟩
      have := Int.mul_le_mul_of_nonneg_right h4 (show (0 : Int) ≤ P by omega)
      rw [h3, Int.mul_add, ← Int.mul_assoc, ← Int.mul_assoc]
      omega
    · generalize fitTL (lessK l at' k) = s at *
      simp only [fitStep]
      generalize bringF (pairAt l k).1 1 1048576 = B at *
      generalize bringF (pairAt l k).2 1 1048576 = P at *
      have a := Int.mul_le_mul_of_nonneg_right h4 (show (0 : Int) ≤ P by omega)
      have b := Int.mul_nonneg h2 (show (0 : Int) ≤ B by omega)
      refine ⟨p * P, ?_, Int.mul_nonneg h2 (by omega), by rw [h3, Int.mul_right_comm], ?_⟩
      · have := Int.mul_le_mul h1 (show (1 : Int) ≤ P by omega) (by omega) (by omega)
        omega
      · rw [Int.mul_right_comm]
        omega
theorem less_fits (l : List (Int × Int)) (at' : Int) (h : fitB l = true) : fitB (lessK l at' l.length) = true := by
  unfold fitB at h ⊢
  obtain ⟨p, h1, h2, h3, h4⟩ := fit_less l at' l.length (Nat.le_refl _)
  rw [List.take_length] at h2 h3 h4
  have hl := lessK_length l at' l.length
  simp only [Bool.and_eq_true, decide_eq_true_eq] at h ⊢
  refine ⟨by omega, ?_⟩
  have : p * (fitTL (lessK l at' l.length)).1 ≤ p * (fitTL (lessK l at' l.length)).2 := by omega
  exact Int.le_of_mul_le_mul_left this (by omega)
theorem info_pair : (Try.prog.info? 22).map (fun i => (i.zero, i.size, i.bytes)) = some (some (.agg #[.int .i64 0, .int .i64 0]), 2, 16) := by kernel_rfl
set_option maxHeartbeats 4000000 in
theorem QuotaFits_any (A : Option Addr) (ca : Nat) (l : List (Int × Int)) (n : Nat) (en : l.length = n) (at' : Int) (w : World) (hn : n ≤ maxLen) (hI : ∀ x ∈ l, I64 x.1 ∧ I64 x.2) (ha : Cells w A (tab pairI l)) :
    Calls Try.prog 4 #[.slice A n ca, .int .i64 at'] w (Gives (.bool true) w) := by
  obtain ⟨i0, hi, hz0, hz1, hz2⟩ := info_parts info_pair
  have EN := hid en
  have HA := hid ha
  clear en ha
  by_cases hbig : 70 < n
  · go_enter Try.func4, Try.ntmps4
    go_wp2_with ((go_at_call 5; refine (awake_any _).mono ?_; rintro _ _ ⟨rfl, _, rfl⟩))
    go_ret
    refine Gives.mk rfl ?_
    (repeat (first | exact Below.refl _ _ | refine RowKit.Below.past ?_ _ | refine RowKit.Below.alloc' ?_ _ | refine RowKit.Below.drew' ?_ | refine RowKit.Below.drewN' ?_ _ | refine RowKit.Below.setCell' ?_ (by simp [go_sem]) _))
  · have hn' : n ≤ 1000000 := by omega
    clear hn
    obtain ⟨r, hr⟩ : ∃ r, fitB l = r := ⟨_, rfl⟩
    have hl := less_fits l at'
    rw [hr, EN.out] at hl
    have HR := hid hr
    have HL := hid hl
    have F1 := hid (fun w' (h : Cells w' A (tab pairI l)) => by have := Fit_any A ca l n EN.out w' hn' hI h; rw [hr] at this; exact this)
    have F2 := hid (fun w' (h : Cells w' A (tab pairI l)) => by have := RFit_any A ca l n EN.out w' hn' hI h; rw [hr] at this; exact this)
    clear hr hl
    go_enter Try.func4, Try.ntmps4
    go_wp2_with (first | (go_at_call 5; refine (awake_any _).mono ?_; rintro _ _ ⟨rfl, _, rfl⟩) | (go_at_call 9; refine (F1.out _ (HA.out.past _)).mono ?_; rintro _ _ ⟨rfl, _, rfl⟩) | (go_at_call 10; refine (F2.out _ (HA.out.past _)).mono ?_; rintro _ _ ⟨rfl, _, rfl⟩))
    go_loopw [6, 22] (fun v i wr => ∃ (k : Nat) (x : Past), i = .int .i64 k ∧ k ≤ n ∧ wr = w.past x ∧ Hid ((w.past x).ownsRow w.heap.size 22 2 v (lessK l at' k).length (tab pairI (lessK l at' k)))) (fun _ i _ => n - (intOf i).toNat)
    case atStart => exact ⟨0, _, rfl, by omega, rfl, hid (World.ownsRow_nil _ _ _ _)⟩
    case round =>
      obtain ⟨k, x, rfl, hk, rfl, HO⟩ := hrel
      by_cases hlt : k < n
      · obtain ⟨y, hy⟩ : ∃ y, l[k]? = some y := ⟨_, List.getElem?_eq_getElem (by rw [EN.out]; exact hlt)⟩
        obtain ⟨b1, o1, rfl, hc⟩ := (HA.out.past x).tab_at pairI_length hy (by omega)
        have hc1 := hc 0 _ rfl
        have hc2 := hc 1 _ rfl
        obtain ⟨y1, y2⟩ := y
        simp only [Nat.add_zero] at hc1
        have hp : pairAt l k = (y1, y2) := by simp [pairAt, hy]
        have HP := hid hp
        have hlen := lessK_length l at' k
        obtain ⟨m, em⟩ : ∃ m, (lessK l at' k).length = m := ⟨_, rfl⟩
        rw [em] at HO hlen
        have EM := hid em
        clear hc hy hp em
        rcases bne_cases (k : Int) at' with hne | hne
        · have e1 : lessK l at' (k + 1) = lessK l at' k ++ [(y1, y2)] := by simp only [lessK, hne, HP.out]; rfl
          have E1 := hid e1
          clear e1
          go_wp2_with (at_builtin; refine wpList_push rfl (.tmp 30) (.tmp 32) 35 rfl 22 i0 (.agg #[.int .i64 0, .int .i64 0]) 2 16 Try.underlying35 hi hz0 hz1 hz2 rfl (by decide) (w0 := w) ?_ _ _ _ rfl (HO.out.alloc _) _ (#[.int .i64 y1, .int .i64 y2]) ?_ rfl rfl ?_ ?_ ?_ ?_; (· (repeat (first | exact Below.refl _ _ | refine RowKit.Below.past ?_ _ | refine RowKit.Below.alloc' ?_ _ | refine RowKit.Below.drew' ?_ | refine RowKit.Below.drewN' ?_ _ | refine RowKit.Below.setCell' ?_ (by simp [go_sem]) _))); (· simp [go_sem]); (· simp [Value.oneCell']); (· omega); (· (unfold maxLen; omega)); intro x1 g1 cap1 hown1)
          go_roundw
          case rel =>
            refine ⟨k + 1, x1, by go_num, by omega, rfl, hid ?_⟩
            rw [E1.out, ← tab_snoc, List.length_append, EM.out]
            exact hown1
          case measure => simp [intOf]; omega
        · have e1 : lessK l at' (k + 1) = lessK l at' k := by simp only [lessK, hne]; rfl
          have E1 := hid e1
          clear e1
          go_wp2_with fail
          obtain ⟨x2, hx2⟩ := past_of (show Below w.heap.size w ((w.past x).alloc (.cells #[.int .i64 y1, .int .i64 y2] 22)) by (repeat (first | exact Below.refl _ _ | refine RowKit.Below.past ?_ _ | refine RowKit.Below.alloc' ?_ _ | refine RowKit.Below.drew' ?_ | refine RowKit.Below.drewN' ?_ _ | refine RowKit.Below.setCell' ?_ (by simp [go_sem]) _)))
          go_roundw
          case rel =>
            refine ⟨k + 1, x2, by go_num, by omega, hx2, hid ?_⟩
            rw [E1.out, EM.out, ← hx2]
            exact HO.out.alloc _
          case measure => simp [intOf]; omega
      · obtain rfl : k = n := by omega
        obtain ⟨A', cap', rfl⟩ := own_shape HO.out
        cases r with
        | false =>
          clear F1 F2
          go_wp2
          go_ret
          refine Gives.mk rfl ?_
          (repeat (first | exact Below.refl _ _ | refine RowKit.Below.past ?_ _ | refine RowKit.Below.alloc' ?_ _ | refine RowKit.Below.drew' ?_ | refine RowKit.Below.drewN' ?_ _ | refine RowKit.Below.setCell' ?_ (by simp [go_sem]) _))
        | true =>
          have hl := lessK_length l at' k
          have hI2 := lessK_in hI at' k
          have F3 := hid (Fit_any A' cap' (lessK l at' k) _ rfl (w.past x) (by omega) hI2 (Cells.of_own HO.out))
          have HL2 := hid (HL.out rfl)
          rw [HL2.out] at F3
          clear F1 F2 HL hl hI2
          go_wp2_with fail
          refine F3.out.mono ?_
          rintro _ _ ⟨rfl, _, rfl⟩
          go_wp2
          go_ret
          refine Gives.mk rfl ?_
          (repeat (first | exact Below.refl _ _ | refine RowKit.Below.past ?_ _ | refine RowKit.Below.alloc' ?_ _ | refine RowKit.Below.drew' ?_ | refine RowKit.Below.drewN' ?_ _ | refine RowKit.Below.setCell' ?_ (by simp [go_sem]) _))
theorem c_pair_3 : Try.prog.cellsOf 3 = 1 := by kernel_rfl
theorem c_pair : Try.prog.cellsOf 22 = 2 := by kernel_rfl
theorem rd_pair {H : Type} {enc : TypeId × Value → H} {W : World} {cs : Array Value} (h : Rd enc Try.prog W 22 cs.toList) : ∃ x0 x1 : Int, cs = #[.int .i64 x0, .int .i64 x1] ∧ I64 x0 ∧ I64 x1 := by
  obtain ⟨c0, c1, e⟩ := cs_two (h.len_array Try.underlying22 c_pair)
  rw [e] at h
  obtain ⟨x0, e0, w0⟩ := Rd.int (h.elem Try.underlying22 0 (by decide) 1 c_pair_3) Try.underlying3
  obtain ⟨x1, e1, w1⟩ := Rd.int (h.elem Try.underlying22 1 (by decide) 1 c_pair_3) Try.underlying3
  simp at e0 e1
  subst e0 e1
  exact ⟨x0, x1, arr_of e, i64_of w0, i64_of w1⟩
theorem rd_pairs {H : Type} {enc : TypeId × Value → H} {W : World} {v : Value} (h : Rd enc Try.prog W 35 [v]) : ∃ (A : Option Addr) (c : Nat) (l : List (Int × Int)), v = .slice A l.length c ∧ Cells W A (tab pairI l) ∧ (∀ x ∈ l, I64 x.1 ∧ I64 x.2) ∧ l.length ≤ maxLen :=
  rd_tab pairI_length (by omega) h Try.underlying35 c_pair (fun cs hcs => by
    obtain ⟨x0, x1, e, h0, h1⟩ := rd_pair (cs := cs.toArray) hcs
    exact ⟨(x0, x1), by simpa [pairI] using congrArg Array.toList e, h0, h1⟩)
theorem quotaFits_own : ownKnob Try.prog.godebug = none := by kernel_rfl
theorem quotaFits_laidOut : laidOutB Try.prog = true := by kernel_rfl
theorem quotaFits_types : ∀ t ∈ Try.f4.params.toList, Try.prog.readableRec t = true ∧ t < Try.prog.types.size := by
  rw [Try.params4]
  intro t ht
  simp only [List.mem_cons, List.not_mem_nil, or_false] at ht
  rcases ht with rfl | rfl
  · exact ⟨by kernel_rfl, of_decide_eq_true (by kernel_rfl)⟩
  · exact ⟨by kernel_rfl, of_decide_eq_true (by kernel_rfl)⟩
set_option maxRecDepth 100000 in
theorem quotaFits_lifted (os : Os) (started : os.Started) (H : Type) (enc : TypeId × Value → H) :
    ReturnsInHanded {} Try.checked os 4 .any (Rows.quotaFitsSpec.pre6 enc Try.prog Try.f4 Rows.quotaFitsRow.domain false) (Rows.quotaFitsSpec.post enc Try.prog Try.f4 false true false false) := by
  refine returnsInHanded_of_change (C := Try.checked) quotaFits_own started (by kernel_rfl) Try.func4
    (ChangeSpec.witness6 (enc := enc) (C := Try.checked) false ⟨#[], #[.slice none 0 0, .int .i64 0], []⟩ 8 (by kernel_rfl) (by kernel_rfl) (by kernel_rfl) (by kernel_rfl)) ?_
  intro W base args ds gs before hval0 hW hcnd _
  have hval : ∀ (j : Nat) t v, Try.f4.params[j]? = some t → args[j]? = some v → Value.okWide Try.prog W .any base t v := hval0
  have hW' := hW
  obtain ⟨p, q, hA0, hV, hpq, hfz, hnd⟩ := hW
  have hA : DataW.TrodAll enc Try.prog W 0 (fun _ => true) true Try.f4.params.toList args.toList ds p := hA0
  rw [Try.params4] at hA hval
  obtain ⟨v0, vs0, d0, ds0, p0, q0, hargs, rfl, rfl, h0, r0⟩ := trodAll_cons hA
  obtain ⟨v1, vs1, d1, ds1, p1, q1, rfl, rfl, rfl, h1, r1⟩ := trodAll_cons r0
  obtain ⟨rfl, rfl, rfl⟩ := trodAll_nil r1
  obtain rfl : args = #[v0, v1] := by cases args; simp_all
  have k0 := hval 0 35 v0 rfl rfl
  have k1 := hval 1 3 v1 rfl rfl
  clear hA0 hval0 hval hcnd hfz hnd hpq hV hargs r1
  suffices hs : Calls Try.prog 4 #[v0, v1] W (Gives (.bool true) W) from hs.mono fun e W' ⟨he, x, hx⟩ => ⟨_, he, law_post quotaFits_laidOut hW' rfl rfl (by kernel_rfl) (by first | exact Try.underlying4 | rfl) quotaFits_types (hx ▸ W.below_past x)⟩
  clear hW'
  obtain ⟨A, ca, l, rfl, ha, hI, hl⟩ := rd_pairs (rd_slice Try.underlying35 k0 h0)
  obtain ⟨x1, rfl, _, _, w1⟩ := open_int Try.underlying3 k1 h1
  exact QuotaFits_any A ca l _ rfl x1 W hl hI ha
theorem quotaFits_holds : Rows.QuotaFitsSaid :=
  OpenClaim.holds_of_wide 4 Try.f4 rfl rfl rfl rfl rfl rfl rfl ⟨rfl, rfl, rfl, rfl, rfl⟩ rfl rfl rfl rfl rfl (by kernel_rfl) Try.func4 (by kernel_rfl)
    (of_decide_eq_true (by kernel_rfl)) (by unfold Func.isWrapper; first | (rw [if_pos (by decide +kernel)]; kernel_rfl) | (rw [if_neg (by decide +kernel)]; exact ⟨rfl, rfl⟩))
    (fun os started H enc _ => quotaFits_lifted os started H enc)
end Go.Proofs.Ytmkndabbkceknaa
