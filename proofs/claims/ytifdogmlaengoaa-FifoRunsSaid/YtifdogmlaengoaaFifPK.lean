/-
  Layer 05: two queues beside one another, and what else lies there (ints): Pour. Its walk is XFifT's. No condition.
-/
import Derived.Test.YtifdogmlaengoaaFifU
namespace Go.Proofs.Ytifdogmlaengoaa
open Go.RowKit
attribute [local go_sem] Oper.semAt_some
section
variable {B : Nat} {X : Nat → Prop} {w8 W W' : World} {b1 b2 : Nat} {m1 m2 t1 t2 : Int} {L1 L2 : List (Int × Int)}
theorem QK.q2 (h : QK B X w8 W b1 b2 m1 m2 t1 t2 L1 L2) : Q2 B W W b1 b2 m1 m2 t1 t2 L1 L2 := by
  obtain ⟨F1, F2, h1, h2, h3, _⟩ := h.ex
  exact ⟨h.size, Below.refl _ _, F1, F2, h1, h2, h3⟩
theorem QK.far (h : QK B X w8 W b1 b2 m1 m2 t1 t2 L1 L2) (hb : Below W.heap.size W W') : QK B X w8 W' b1 b2 m1 m2 t1 t2 L1 L2 := by
  obtain ⟨F1, F2, h1, h2, h3, h4, h5⟩ := h.ex
  exact ⟨h.sz, h.kp.trans (Kept.of_below hb X), F1, F2, h1.far hb, h2.far hb, h3, h4, h5⟩
theorem QK.ne (h : QK B X w8 W b1 b2 m1 m2 t1 t2 L1 L2) : b1 ≠ b2 := h.q2.ne
theorem QK.eql (h : QK B X w8 W b1 b2 m1 m2 t1 t2 L1 L2) : (binOp .eql 24 (.pointer (some ⟨b1, 0, none⟩)) (.pointer (some ⟨b2, 0, none⟩))).run Try.prog W = .ok (.bool false) W := h.q2.eql
theorem QK.len1 (h : QK B X w8 W b1 b2 m1 m2 t1 t2 L1 L2) : Calls Try.prog 10 #[.pointer (some ⟨b1, 0, none⟩)] W (Gives (.int .i64 (L1.length : Int)) W) := h.q2.len1
end
set_option maxRecDepth 100000 in
set_option maxHeartbeats 4000000 in
theorem PourK_any {B : Nat} {X : Nat → Prop} {w0 W : World} {b1 b2 : Nat} {m1 m2 t1 t2 : Int} {L1 L2 : List (Int × Int)} (h : QK B X w0 W b1 b2 m1 m2 t1 t2 L1 L2) (ht1 : t1 ≤ 1000000) (ht2 : t2 + 5000 ≤ 1000000) (hL1 : L1.length ≤ 5000) (hL2 : L2.length ≤ 5000) (n : Int) (hn : I64 n) :
    Calls Try.prog 9 #[.pointer (some ⟨b1, 0, none⟩), .pointer (some ⟨b2, 0, none⟩), .int .i64 n] W (fun e w' => e = .returned (.int .i64 (pourN n m2 L1 L2 : Int)) ∧ QK B X w0 w' b1 b2 m1 m2 t1 (t2 + pourN n m2 L1 L2) (L1.drop (pourN n m2 L1 L2)) (L2 ++ tkt t2 (L1.take (pourN n m2 L1 L2)))) := by
  have hK : (pourN n m2 L1 L2 : Int) = min (min (max n 0) L1.length) (max (m2 - L2.length) 0) := by unfold pourN; omega
  obtain ⟨K, eK⟩ : ∃ K, pourN n m2 L1 L2 = K := ⟨_, rfl⟩
  rw [eK] at hK ⊢
  have hne := h.ne
  have heq := h.eql
  have HH := hid h
  have hn1 := hn.1
  have hn2 := hn.2
  clear h eK hn
  go_enter Try.func9, Try.ntmps9
  go_upto_region 3 with (fail)
  go_wp2_with fail
  clear heq
  go_loopw [7, 8, 9] (fun i _ _ wr => ∃ k : Nat, i = .int .i64 (k : Int) ∧ k ≤ K ∧ Hid (QK B X w0 wr b1 b2 m1 m2 t1 (t2 + k) (L1.drop k) (L2 ++ tkt t2 (L1.take k)))) (fun i _ _ _ => K - natJ i)
  case atStart => exact ⟨0, rfl, by omega, hid (by simpa [tkt] using HH.out)⟩
  case round =>
    clear HH
    obtain ⟨k, rfl, hk, HR⟩ := hrel
    have HL1 := hid (fun y : Past => (HR.out.far (wr.below_past y)).len1)
    have HL2 := hid (fun y : Past => (HR.out.far (wr.below_past y)).swap.len1)
    obtain ⟨d1, ed1⟩ : ∃ d, (L1.drop k).length = d := ⟨_, rfl⟩
    obtain ⟨d2, ed2⟩ : ∃ d, (L2 ++ tkt t2 (L1.take k)).length = d := ⟨_, rfl⟩
    have h1 : d1 = L1.length - k := by rw [← ed1]; simp
    have h2 : d2 = L2.length + min k L1.length := by rw [← ed2]; simp [tkt_length]
    rw [ed1] at HL1
    rw [ed2] at HL2
    have ED2 := hid ed2
    clear ed1 ed2
    have hlk : ∃ ba, wr.cell? ⟨b2, 0, none⟩ = some (.pointer (some ⟨ba, 0, none⟩)) ∧ b2 < wr.heap.size ∧ (∀ y : Past, Calls Try.prog 29 #[.pointer (some ⟨ba, 0, none⟩)] (wr.past y) (Gives (.int .i64 m2) (wr.past y))) := by
      obtain ⟨F1, F2, g1, g2, g3⟩ := HR.out.ex
      obtain ⟨ba, e1, e2, e3⟩ := g2.links
      refine ⟨ba, e1, e2, fun y => ?_⟩
      obtain ⟨ba', e1', e2', e3'⟩ := (g2.far (wr.below_past y)).links
      have := below_cell (wr.below_past y) (Nat.le_refl _) _ _ e1
      rw [this] at e1'
      injection e1' with e4
      injection e4 with e4
      injection e4 with e4
      injection e4 with e5 _ _
      subst e5
      exact e3'
    obtain ⟨ba, q0, hb2, hmo⟩ := hlk
    have HMO := hid hmo
    clear hmo
    by_cases hlt : k < K
    · have c1 : (k : Int) < n := by omega
      have c2 : 0 < (d1 : Int) := by omega
      have c3 : (d2 : Int) < m2 := by omega
      have c4 : k < L1.length := by omega
      have c5 : d2 = L2.length + k := by omega
      have HX := hid (show L1.drop k = L1[k] :: L1.drop (k + 1) from List.drop_eq_getElem_cons c4)
      have HTK := hid (show tkt t2 (L1.take (k + 1)) = tkt t2 (L1.take k) ++ [(t2 + k + 1, L1[k].2)] by
        rw [List.take_succ_eq_append_getElem c4, tkt_snoc, List.length_take, Nat.min_eq_left (by omega)])
      have HP := hid (fun y : Past => (show Calls Try.prog 11 #[.pointer (some ⟨b1, 0, none⟩)] (wr.past y) (fun e w' => e = .returned (.tuple #[.int .i64 L1[k].2, .bool true]) ∧ QK B X w0 w' b1 b2 m1 m2 t1 (t2 + k) (L1.drop (k + 1)) (L2 ++ tkt t2 (L1.take k))) by
        have h := HR.out.far (wr.below_past y)
        rw [HX.out] at h
        exact h.act1 (fun F hF => QPop_any hF h.size ht1)))
      have HPU := hid (fun (w2 : World) (h : QK B X w0 w2 b1 b2 m1 m2 t1 (t2 + k) (L1.drop (k + 1)) (L2 ++ tkt t2 (L1.take k))) => (show Calls Try.prog 8 #[.pointer (some ⟨b2, 0, none⟩), .int .i64 L1[k].2] w2 (fun e w' => e = .returned (.tuple #[.int .i64 (t2 + k + 1), .int .i64 0]) ∧ QK B X w0 w' b1 b2 m1 m2 t1 (t2 + k + 1) (L1.drop (k + 1)) ((L2 ++ tkt t2 (L1.take k)) ++ [(t2 + k + 1, L1[k].2)])) by
        have hc : ((L2 ++ tkt t2 (L1.take k)).length : Int) < m2 := by rw [ED2.out]; exact c3
        have ht : t2 + (k : Int) ≤ 1000000 := by omega
        refine h.act2 (t' := t2 + k + 1) (L' := (L2 ++ tkt t2 (L1.take k)) ++ [(t2 + k + 1, L1[k].2)]) ?_
        intro F hF
        exact QPush_any hF h.size ht hc L1[k].2))
      obtain ⟨v, ev⟩ : ∃ v, L1[k].2 = v := ⟨_, rfl⟩
      rw [ev] at HP HPU HTK
      clear ev HX
      clear h1 h2 c5
      have g2 : decide (0 < d1) = true := by simpa using c2
      have g3 : decide ((d2 : Int) < m2) = true := by simpa using c3
      go_upto_region 4 with (fail)
      refine wp_region_past (by kernel_rfl) (by kernel_rfl) ?_
      repeat (go_big_quiet_step ((first | (go_at_call 10; first | with_reducible exact Calls.in_past (HL1.out _) | with_reducible exact Calls.in_past2 (HL1.out _)) | (go_at_call 10; first | with_reducible exact Calls.in_past (HL2.out _) | with_reducible exact Calls.in_past2 (HL2.out _)) | (go_at_call 29; first | with_reducible exact Calls.in_past (HMO.out _) | with_reducible exact Calls.in_past2 (HMO.out _)) | (go_at_call 10; first | exact Calls.in_past (HL1.out _) | exact Calls.in_past2 (HL1.out _)) | (go_at_call 10; first | exact Calls.in_past (HL2.out _) | exact Calls.in_past2 (HL2.out _)) | (go_at_call 29; first | exact Calls.in_past (HMO.out _) | exact Calls.in_past2 (HMO.out _)))))
      refine wpQuiet_nil ?_
      rintro _ ⟨_, rfl⟩
      clear HL1 HL2 HMO
      go_wp2_with (first | (go_at_call 11; refine (HP.out _).mono ?_; rintro _ w2 ⟨rfl, h2⟩; have H2 := hid h2; clear h2) | (go_at_call 8; refine (HPU.out _ H2.out).mono ?_; rintro _ w3 ⟨rfl, h3⟩; have H3 := hid h3; clear h3))
      go_roundw
      case rel => exact ⟨k + 1, by go_num, by omega, hid (by
        have := H3.out
        rw [List.append_assoc, ← HTK.out, show t2 + (k : Int) + 1 = t2 + ((k + 1 : Nat) : Int) by omega] at this
        exact this)⟩
      case measure => simp [natJ]; omega
    · obtain rfl : k = K := by omega
      have hcase : (¬ (k : Int) < n) ∨ ((k : Int) < n ∧ ¬ 0 < (d1 : Int)) ∨ ((k : Int) < n ∧ 0 < (d1 : Int) ∧ ¬ (d2 : Int) < m2) := by omega
      clear ED2 hK h1 h2
      have hcase2 : (¬ (k : Int) < n) ∨ ((k : Int) < n ∧ decide (0 < d1) = false) ∨ ((k : Int) < n ∧ decide (0 < d1) = true ∧ decide ((d2 : Int) < m2) = false) := by
        rcases hcase with c1 | ⟨c1, c2⟩ | ⟨c1, c2, c3⟩
        · exact .inl c1
        · exact .inr (.inl ⟨c1, by simp; omega⟩)
        · exact .inr (.inr ⟨c1, by simp; omega, by simp; omega⟩)
      clear hcase
      rcases hcase2 with c1 | ⟨c1, c2⟩ | ⟨c1, c2, c3⟩
      all_goals
        go_upto_region 4 with (fail)
        refine wp_region_past (by kernel_rfl) (by kernel_rfl) ?_
        repeat (go_big_quiet_step ((first | (go_at_call 10; first | with_reducible exact Calls.in_past (HL1.out _) | with_reducible exact Calls.in_past2 (HL1.out _)) | (go_at_call 10; first | with_reducible exact Calls.in_past (HL2.out _) | with_reducible exact Calls.in_past2 (HL2.out _)) | (go_at_call 29; first | with_reducible exact Calls.in_past (HMO.out _) | with_reducible exact Calls.in_past2 (HMO.out _)) | (go_at_call 10; first | exact Calls.in_past (HL1.out _) | exact Calls.in_past2 (HL1.out _)) | (go_at_call 10; first | exact Calls.in_past (HL2.out _) | exact Calls.in_past2 (HL2.out _)) | (go_at_call 29; first | exact Calls.in_past (HMO.out _) | exact Calls.in_past2 (HMO.out _)))))
        refine wpQuiet_nil ?_
        rintro _ ⟨_, rfl⟩
        go_wp2_with fail
        go_ret
        exact ⟨rfl, HR.out.far (wr.below_past _)⟩
end Go.Proofs.Ytifdogmlaengoaa
