/-
  Layer 05: the document's queues: Pour. No condition.
-/
import Derived.Test.YtifdogmlaengoaaFifL
import Derived.Test.YtifdogmlaengoaaFifT
namespace Go.Proofs.Ytifdogmlaengoaa
open Go.RowKit
attribute [local go_sem] Oper.semAt_some
/-- Two of the document's, and all else that lies there. -/
structure DK (B : Nat) (X : Nat → Prop) (w8 W : World) (b1 b2 : Nat) (m1 m2 t1 t2 : Int) (L1 L2 : List (Int × Int)) : Prop where
  sz : B ≤ w8.heap.size
  kp : Kept X w8 W
  ex : ∃ F1 F2, DA B W b1 F1 m1 t1 L1 ∧ DA B W b2 F2 m2 t2 L2 ∧ (∀ k, F1 k → ¬ F2 k) ∧ (∀ k, F1 k → X k ∨ w8.heap.size ≤ k) ∧ (∀ k, F2 k → X k ∨ w8.heap.size ≤ k)
section
variable {B : Nat} {X : Nat → Prop} {w8 W W' : World} {b1 b2 : Nat} {m1 m2 t1 t2 t' : Int} {L1 L2 L' : List (Int × Int)}
theorem DK.size (h : DK B X w8 W b1 b2 m1 m2 t1 t2 L1 L2) : B ≤ W.heap.size := Nat.le_trans h.sz h.kp.size
theorem DK.swap (h : DK B X w8 W b1 b2 m1 m2 t1 t2 L1 L2) : DK B X w8 W b2 b1 m2 m1 t2 t1 L2 L1 := by
  obtain ⟨F1, F2, h1, h2, h3, h4, h5⟩ := h.ex
  exact ⟨h.sz, h.kp, F2, F1, h2, h1, fun k a b => h3 k b a, h5, h4⟩
theorem DK.far (h : DK B X w8 W b1 b2 m1 m2 t1 t2 L1 L2) (hb : Below W.heap.size W W') : DK B X w8 W' b1 b2 m1 m2 t1 t2 L1 L2 := by
  obtain ⟨F1, F2, h1, h2, h3, h4, h5⟩ := h.ex
  exact ⟨h.sz, h.kp.trans (Kept.of_below hb X), F1, F2, h1.far hb, h2.far hb, h3, h4, h5⟩
theorem DK.act1 (h : DK B X w8 W b1 b2 m1 m2 t1 t2 L1 L2) {fn : FuncId} {args : Array Value} {r : Value}
    (hc : ∀ F, DA B W b1 F m1 t1 L1 → Calls Try.prog fn args W (fun e w' => e = .returned r ∧ DR B b1 F m1 t' L' W w')) : Calls Try.prog fn args W (fun e w' => e = .returned r ∧ DK B X w8 w' b1 b2 m1 m2 t' t2 L' L2) := by
  obtain ⟨F1, F2, h1, h2, h3, h4, h5⟩ := h.ex
  refine (hc F1 h1).mono ?_
  rintro _ w' ⟨rfl, F', g1, g2, g3⟩
  have hs := h.kp.size
  refine ⟨rfl, h.sz, h.kp.trans' g3 (fun i hi hF => ?_), F', F2, g1, h2.kept g3 (fun k a b => h3 k b a), fun k a b => ?_, fun k a => ?_, h5⟩
  · rcases h4 i hF with g | g
    · exact g
    · omega
  · rcases g2 k a with g | g
    · exact h3 k g b
    · have := (h2.foot k b).2; omega
  · rcases g2 k a with g | g
    · exact h4 k g
    · exact .inr (Nat.le_trans hs g)
theorem DK.act2 (h : DK B X w8 W b1 b2 m1 m2 t1 t2 L1 L2) {fn : FuncId} {args : Array Value} {r : Value}
    (hc : ∀ F, DA B W b2 F m2 t2 L2 → Calls Try.prog fn args W (fun e w' => e = .returned r ∧ DR B b2 F m2 t' L' W w')) : Calls Try.prog fn args W (fun e w' => e = .returned r ∧ DK B X w8 w' b1 b2 m1 m2 t1 t' L1 L') :=
  (h.swap.act1 hc).mono fun _ _ g => ⟨g.1, g.2.swap⟩
theorem DK.cells1 (h : DK B X w8 W b1 b2 m1 m2 t1 t2 L1 L2) : ∃ A c, W.cell? ⟨b1, 0, none⟩ = some (.int .i64 m1) ∧ W.cell? ⟨b1, 2, none⟩ = some (.slice A L1.length c) ∧ b1 < W.heap.size := by
  obtain ⟨F1, F2, h1, _⟩ := h.ex
  obtain ⟨A, c, q0, q1, q2, q3, q4⟩ := h1.cells
  exact ⟨A, c, q0, q2, q3⟩
end
set_option maxRecDepth 100000 in
set_option maxHeartbeats 4000000 in
theorem DPour_any {B : Nat} {X : Nat → Prop} {w0 W : World} {b1 b2 : Nat} {m1 m2 t1 t2 : Int} {L1 L2 : List (Int × Int)} (h : DK B X w0 W b1 b2 m1 m2 t1 t2 L1 L2) (ht0 : 0 ≤ t2) (ht2 : t2 + 5000 ≤ 1000000) (hL1 : L1.length ≤ 2000) (hL2 : L2.length ≤ 2000) (n : Int) :
    Calls Try.prog 18 #[.pointer (some ⟨b1, 0, none⟩), .pointer (some ⟨b2, 0, none⟩), .int .i64 n] W (fun e w' => e = .returned (.int .i64 (pourN n m2 L1 L2 : Int)) ∧ DK B X w0 w' b1 b2 m1 m2 t1 (t2 + pourN n m2 L1 L2) (L1.drop (pourN n m2 L1 L2)) (L2 ++ tkt t2 (L1.take (pourN n m2 L1 L2)))) := by
  have hK : (pourN n m2 L1 L2 : Int) = min (min (max n 0) L1.length) (max (m2 - L2.length) 0) := by unfold pourN; omega
  obtain ⟨K, eK⟩ : ∃ K, pourN n m2 L1 L2 = K := ⟨_, rfl⟩
  rw [eK] at hK ⊢
  have HH := hid h
  clear h eK
  go_enter Try.func18, Try.ntmps18
  go_wp2_with fail
  go_loopw [7, 8, 9] (fun i _ _ wr => ∃ k : Nat, i = .int .i64 (k : Int) ∧ k ≤ K ∧ Hid (DK B X w0 wr b1 b2 m1 m2 t1 (t2 + k) (L1.drop k) (L2 ++ tkt t2 (L1.take k)))) (fun i _ _ _ => K - natJ i)
  case atStart => exact ⟨0, rfl, by omega, hid (by simpa [tkt] using HH.out)⟩
  case round =>
    clear HH
    obtain ⟨k, rfl, hk, HR⟩ := hrel
    obtain ⟨A1, c1, -, q12, hb1⟩ := HR.out.cells1
    obtain ⟨A2, c2, q20, q22, hb2⟩ := HR.out.swap.cells1
    obtain ⟨d1, ed1⟩ : ∃ d, (L1.drop k).length = d := ⟨_, rfl⟩
    obtain ⟨d2, ed2⟩ : ∃ d, (L2 ++ tkt t2 (L1.take k)).length = d := ⟨_, rfl⟩
    have h1 : d1 = L1.length - k := by rw [← ed1]; simp
    have h2 : d2 = L2.length + min k L1.length := by rw [← ed2]; simp [tkt_length]
    rw [ed1] at q12
    rw [ed2] at q22
    have ED1 := hid ed1
    have ED2 := hid ed2
    clear ed1 ed2
    by_cases hlt : k < K
    · have c1 : (k : Int) < n := by omega
      have c2 : 0 < (d1 : Int) := by omega
      have c3 : (d2 : Int) < m2 := by omega
      have c4 : k < L1.length := by omega
      have c5 : d2 = L2.length + k := by omega
      have HX := hid (show (L1.drop k).eraseIdx 0 = L1.drop (k + 1) by rw [List.drop_eq_getElem_cons c4]; rfl)
      have HX0 := hid (show (L1.drop k)[0]? = some L1[k] by rw [List.drop_eq_getElem_cons c4]; rfl)
      have HTK := hid (show tkt t2 (L1.take (k + 1)) = tkt t2 (L1.take k) ++ [(t2 + k + 1, L1[k].2)] by
        rw [List.take_succ_eq_append_getElem c4, tkt_snoc, List.length_take, Nat.min_eq_left (by omega)])
      have HP := hid (fun y : Past => (show Calls Try.prog 14 #[.pointer (some ⟨b1, 0, none⟩), .int .i64 0] (wr.past y) (fun e w' => e = .returned (.tuple #[.int .i64 L1[k].2, .bool true]) ∧ DK B X w0 w' b1 b2 m1 m2 t1 (t2 + k) (L1.drop (k + 1)) (L2 ++ tkt t2 (L1.take k))) by
        have h := HR.out.far (wr.below_past y)
        rw [← HX.out]
        exact h.act1 (fun F hF => DTake_any hF h.size (by rw [ED1.out]; omega) HX0.out)))
      have HPU := hid (fun (w2 : World) (h : DK B X w0 w2 b1 b2 m1 m2 t1 (t2 + k) (L1.drop (k + 1)) (L2 ++ tkt t2 (L1.take k))) => (show Calls Try.prog 13 #[.pointer (some ⟨b2, 0, none⟩), .int .i64 L1[k].2] w2 (fun e w' => e = .returned (.tuple #[.int .i64 (t2 + k + 1), .int .i64 0]) ∧ DK B X w0 w' b1 b2 m1 m2 t1 (t2 + k + 1) (L1.drop (k + 1)) ((L2 ++ tkt t2 (L1.take k)) ++ [(t2 + k + 1, L1[k].2)])) by
        have hc : ((L2 ++ tkt t2 (L1.take k)).length : Int) < m2 := by rw [ED2.out]; exact c3
        have hl : (L2 ++ tkt t2 (L1.take k)).length ≤ 4096 := by rw [ED2.out]; omega
        have ht : t2 + (k : Int) ≤ 1000000 := by omega
        have ht0 : 0 ≤ t2 + (k : Int) := by omega
        refine h.act2 (t' := t2 + k + 1) (L' := (L2 ++ tkt t2 (L1.take k)) ++ [(t2 + k + 1, L1[k].2)]) ?_
        intro F hF
        exact DPush_any hF h.size hl ht0 ht hc L1[k].2))
      obtain ⟨v, ev⟩ : ∃ v, L1[k].2 = v := ⟨_, rfl⟩
      rw [ev] at HP HPU HTK
      clear ev HX HX0
      clear h1 h2 c5
      have g1 : decide ((k : Int) < n) = true := by simpa using c1
      have g2 : decide (0 < d1) = true := by simpa using c2
      have g3 : decide ((d2 : Int) < m2) = true := by simpa using c3
      go_wp2_with fail
      refine wp_region_past (by kernel_rfl) (by kernel_rfl) ?_
      repeat (go_big_quiet_step ((fail)))
      refine wpQuiet_nil ?_
      rintro _ ⟨_, rfl⟩
      go_wp2_with (first | (go_at_call 14; refine (HP.out _).mono ?_; rintro _ w2 ⟨rfl, h2⟩; have H2 := hid h2; clear h2) | (go_at_call 13; refine (HPU.out _ H2.out).mono ?_; rintro _ w3 ⟨rfl, h3⟩; have H3 := hid h3; clear h3))
      go_roundw
      case rel => exact ⟨k + 1, by go_num, by omega, hid (by
        have := H3.out
        rw [List.append_assoc, ← HTK.out, show t2 + (k : Int) + 1 = t2 + ((k + 1 : Nat) : Int) by omega] at this
        exact this)⟩
      case measure => simp [natJ]; omega
    · obtain rfl : k = K := by omega
      have hcase : (¬ (k : Int) < n) ∨ ((k : Int) < n ∧ ¬ 0 < (d1 : Int)) ∨ ((k : Int) < n ∧ 0 < (d1 : Int) ∧ ¬ (d2 : Int) < m2) := by omega
      clear ED1 ED2 hK h1 h2
      have hcase2 : (decide ((k : Int) < n) = false) ∨ (decide ((k : Int) < n) = true ∧ decide (0 < d1) = false) ∨ (decide ((k : Int) < n) = true ∧ decide (0 < d1) = true ∧ decide ((d2 : Int) < m2) = false) := by
        rcases hcase with c1 | ⟨c1, c2⟩ | ⟨c1, c2, c3⟩
        · exact .inl (by simpa using c1)
        · exact .inr (.inl ⟨by simpa using c1, by simp; omega⟩)
        · exact .inr (.inr ⟨by simpa using c1, by simp; omega, by simp; omega⟩)
      clear hcase
      rcases hcase2 with c1 | ⟨c1, c2⟩ | ⟨c1, c2, c3⟩
      all_goals
        go_wp2_with fail
        refine wp_region_past (by kernel_rfl) (by kernel_rfl) ?_
        repeat (go_big_quiet_step ((fail)))
        refine wpQuiet_nil ?_
        rintro _ ⟨_, rfl⟩
        go_wp2_with fail
        go_ret
        exact ⟨rfl, HR.out.far (wr.below_past _)⟩
end Go.Proofs.Ytifdogmlaengoaa
