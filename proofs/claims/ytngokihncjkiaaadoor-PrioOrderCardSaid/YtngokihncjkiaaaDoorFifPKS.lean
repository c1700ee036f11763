/-
  Layer 05: two queues of strings beside one another, and what else lies there: Pour. No condition.
-/
import Derived.Test.YtngokihncjkiaaaDoorFifGS
import Derived.Test.YtngokihncjkiaaaDoorPrN
import Derived.LaidEqlPtr
namespace Go.Proofs.YtngokihncjkiaaaDoor
open Go.RowKit
attribute [local go_sem] Oper.semAt_some
theorem LMost_any (b : Nat) (most : Int) (S : Ar Lk) (w : World) (h : RdL w b most S) : Calls Tryd.prog 54 #[.pointer (some ⟨b, 0, none⟩)] w (Gives (.int .i64 most) w) := by
  obtain ⟨A, cp, hrec, hc⟩ := h.ex
  have q3 := Rec.cell hrec 0
  simp at q3
  clear h hrec hc
  go_enter Tryd.func54, Tryd.ntmps54
  go_wp2
  go_ret
  exact Gives.refl rfl
section
variable {B : Nat} {w0 W W' : World} {b1 b2 : Nat} {m1 m2 t1 t2 t' : Int} {L1 L2 L' : List (Int × Int)}
theorem QA.links {F : Nat → Prop} {b : Nat} {m t : Int} {L : List (Int × Int)} (h : QA B W b F m t L) : ∃ ba, W.cell? ⟨b, 0, none⟩ = some (.pointer (some ⟨ba, 0, none⟩)) ∧ b < W.heap.size ∧ Calls Tryd.prog 54 #[.pointer (some ⟨ba, 0, none⟩)] W (Gives (.int .i64 m) W) := by
  obtain ⟨q, f, c, Q, ks, ⟨ba, mb, G, h1, _⟩, _⟩ := h
  refine ⟨ba, ?_, h1.rc.lt, LMost_any ba m q.S W h1.ar.rd⟩
  have := Rec.cell h1.rc 0
  simpa using this
end
theorem info_q : (Tryd.prog.info? 90).map (fun i => i.size) = some 5 := by kernel_rfl
theorem und_q : Tryd.prog.underlying 58 = some (.pointer 90) := by kernel_rfl
theorem QA.rc {B : Nat} {W : World} {F : Nat → Prop} {b : Nat} {m t : Int} {L : List (Int × Int)} (h : QA B W b F m t L) : ∃ cs, Rec W b 90 cs := by
  obtain ⟨q, f, c, Q, ks, ⟨ba, mb, G, h1, _⟩, _⟩ := h
  exact ⟨_, h1.rc⟩
structure QK (B : Nat) (X : Nat → Prop) (w8 W : World) (b1 b2 : Nat) (m1 m2 t1 t2 : Int) (L1 L2 : List (Int × Int)) : Prop where
  sz : B ≤ w8.heap.size
  kp : Kept X w8 W
  ex : ∃ F1 F2, QA B W b1 F1 m1 t1 L1 ∧ QA B W b2 F2 m2 t2 L2 ∧ (∀ k, F1 k → ¬ F2 k) ∧ (∀ k, F1 k → X k ∨ w8.heap.size ≤ k) ∧ (∀ k, F2 k → X k ∨ w8.heap.size ≤ k)
section
variable {B : Nat} {X : Nat → Prop} {w0 w8 W W' : World} {b1 b2 : Nat} {m1 m2 t1 t2 t' : Int} {L1 L2 L' : List (Int × Int)}
theorem QK.size (h : QK B X w8 W b1 b2 m1 m2 t1 t2 L1 L2) : B ≤ W.heap.size := Nat.le_trans h.sz h.kp.size
theorem QK.swap (h : QK B X w8 W b1 b2 m1 m2 t1 t2 L1 L2) : QK B X w8 W b2 b1 m2 m1 t2 t1 L2 L1 := by
  obtain ⟨F1, F2, h1, h2, h3, h4, h5⟩ := h.ex
  exact ⟨h.sz, h.kp, F2, F1, h2, h1, fun k a b => h3 k b a, h5, h4⟩
theorem QK.act1 (h : QK B X w8 W b1 b2 m1 m2 t1 t2 L1 L2) {fn : FuncId} {args : Array Value} {r : Value}
    (hc : ∀ F, QA B W b1 F m1 t1 L1 → Calls Tryd.prog fn args W (fun e w' => e = .returned r ∧ QR B b1 F m1 t' L' W w')) : Calls Tryd.prog fn args W (fun e w' => e = .returned r ∧ QK B X w8 w' b1 b2 m1 m2 t' t2 L' L2) := by
  obtain ⟨F1, F2, h1, h2, h3, h4, h5⟩ := h.ex
  refine (hc F1 h1).mono ?_
  rintro _ w' ⟨rfl, F', g1, g2, g3⟩
  have hs := h.kp.size
  refine ⟨rfl, h.sz, h.kp.trans' g3 (fun i hi hF => ?_), F', F2, g1, h2.kept g3 (fun k a b => h3 k b a), fun k a b => ?_, fun k a => ?_, h5⟩
  · rcases h4 i hF with g | g
    · exact g
    · omega
  · rcases g2 k a with g | g
    · exact h3 k g b
    · have := (h2.foot k b).2; omega
  · rcases g2 k a with g | g
    · exact h4 k g
    · exact .inr (Nat.le_trans hs g)
theorem QK.act2 (h : QK B X w8 W b1 b2 m1 m2 t1 t2 L1 L2) {fn : FuncId} {args : Array Value} {r : Value}
    (hc : ∀ F, QA B W b2 F m2 t2 L2 → Calls Tryd.prog fn args W (fun e w' => e = .returned r ∧ QR B b2 F m2 t' L' W w')) : Calls Tryd.prog fn args W (fun e w' => e = .returned r ∧ QK B X w8 w' b1 b2 m1 m2 t1 t' L1 L') :=
  (h.swap.act1 hc).mono fun _ _ g => ⟨g.1, g.2.swap⟩
theorem QK.far (h : QK B X w8 W b1 b2 m1 m2 t1 t2 L1 L2) (hb : Below W.heap.size W W') : QK B X w8 W' b1 b2 m1 m2 t1 t2 L1 L2 := by
  obtain ⟨F1, F2, h1, h2, h3, h4, h5⟩ := h.ex
  exact ⟨h.sz, h.kp.trans (Kept.of_below hb X), F1, F2, h1.far hb, h2.far hb, h3, h4, h5⟩
theorem QK.len1 (h : QK B X w8 W b1 b2 m1 m2 t1 t2 L1 L2) : Calls Tryd.prog 50 #[.pointer (some ⟨b1, 0, none⟩)] W (Gives (.int .i64 (L1.length : Int)) W) := by
  obtain ⟨F1, F2, h1, h2, h3⟩ := h.ex
  exact QLen_any h1
theorem QK.ne (h : QK B X w8 W b1 b2 m1 m2 t1 t2 L1 L2) : b1 ≠ b2 := by
  obtain ⟨F1, F2, ⟨_, _, _, _, _, ⟨_, _, _, _, e1⟩, _⟩, ⟨_, _, _, _, _, ⟨_, _, _, _, e2⟩, _⟩, h3, _⟩ := h.ex
  rintro rfl
  exact h3 b1 (by rw [e1]; exact .inl rfl) (by rw [e2]; exact .inl rfl)
theorem QK.eql (h : QK B X w8 W b1 b2 m1 m2 t1 t2 L1 L2) : (binOp .eql 58 (.pointer (some ⟨b1, 0, none⟩)) (.pointer (some ⟨b2, 0, none⟩))).run Tryd.prog W = .ok (.bool false) W := by
  have hne := h.ne
  obtain ⟨F1, F2, h1, h2, h3⟩ := h.ex
  obtain ⟨c1, r1⟩ := h1.rc
  obtain ⟨c2, r2⟩ := h2.rc
  obtain ⟨j, hj, hs⟩ := Option.map_eq_some_iff.1 info_q
  exact run_eql_ptr_other (j := j) W und_q hj (by omega) (fun e => hne (by injection e)) r1 r2
end
set_option maxRecDepth 100000 in
set_option maxHeartbeats 4000000 in
theorem PourK_any {B : Nat} {X : Nat → Prop} {w0 W : World} {b1 b2 : Nat} {m1 m2 t1 t2 : Int} {L1 L2 : List (Int × Int)} (h : QK B X w0 W b1 b2 m1 m2 t1 t2 L1 L2) (ht1 : t1 ≤ 1000000) (ht2 : t2 + 5000 ≤ 1000000) (hL1 : L1.length ≤ 5000) (hL2 : L2.length ≤ 5000) (n : Int) (hn : I64 n) :
    Calls Tryd.prog 33 #[.pointer (some ⟨b1, 0, none⟩), .pointer (some ⟨b2, 0, none⟩), .int .i64 n] W (fun e w' => e = .returned (.int .i64 (pourN n m2 L1 L2 : Int)) ∧ QK B X w0 w' b1 b2 m1 m2 t1 (t2 + pourN n m2 L1 L2) (L1.drop (pourN n m2 L1 L2)) (L2 ++ tkt t2 (L1.take (pourN n m2 L1 L2)))) := by
  have hK : (pourN n m2 L1 L2 : Int) = min (min (max n 0) L1.length) (max (m2 - L2.length) 0) := by unfold pourN; omega
  obtain ⟨K, eK⟩ : ∃ K, pourN n m2 L1 L2 = K := ⟨_, rfl⟩
  rw [eK] at hK ⊢
  have hne := h.ne
  have heq := h.eql
  have HH := hid h
  have hn1 := hn.1
  have hn2 := hn.2
  clear h eK hn
  go_enter Tryd.func33, Tryd.ntmps33
  go_upto_region 3 with (fail)
  go_wp2_with fail
  clear heq
  go_loopw [7, 8, 9] (fun i _ _ wr => ∃ k : Nat, i = .int .i64 (k : Int) ∧ k ≤ K ∧ Hid (QK B X w0 wr b1 b2 m1 m2 t1 (t2 + k) (L1.drop k) (L2 ++ tkt t2 (L1.take k)))) (fun i _ _ _ => K - natJ i)
  case atStart => exact ⟨0, rfl, by omega, hid (by simpa [tkt] using HH.out)⟩
  case round =>
    clear HH
    obtain ⟨k, rfl, hk, HR⟩ := hrel
    have HL1 := hid (fun y : Past => (HR.out.far (wr.below_past y)).len1)
    have HL2 := hid (fun y : Past => (HR.out.far (wr.below_past y)).swap.len1)
    obtain ⟨d1, ed1⟩ : ∃ d, (L1.drop k).length = d := ⟨_, rfl⟩
    obtain ⟨d2, ed2⟩ : ∃ d, (L2 ++ tkt t2 (L1.take k)).length = d := ⟨_, rfl⟩
    have h1 : d1 = L1.length - k := by rw [← ed1]; simp
    have h2 : d2 = L2.length + min k L1.length := by rw [← ed2]; simp [tkt_length]
    rw [ed1] at HL1
    rw [ed2] at HL2
    have ED2 := hid ed2
    clear ed1 ed2
    have hlk : ∃ ba, wr.cell? ⟨b2, 0, none⟩ = some (.pointer (some ⟨ba, 0, none⟩)) ∧ b2 < wr.heap.size ∧ (∀ y : Past, Calls Tryd.prog 54 #[.pointer (some ⟨ba, 0, none⟩)] (wr.past y) (Gives (.int .i64 m2) (wr.past y))) := by
      obtain ⟨F1, F2, g1, g2, g3⟩ := HR.out.ex
      obtain ⟨ba, e1, e2, e3⟩ := g2.links
      refine ⟨ba, e1, e2, fun y => ?_⟩
      obtain ⟨ba', e1', e2', e3'⟩ := (g2.far (wr.below_past y)).links
      have := below_cell (wr.below_past y) (Nat.le_refl _) _ _ e1
      rw [this] at e1'
      injection e1' with e4
      injection e4 with e4
      injection e4 with e4
      injection e4 with e5 _ _
      subst e5
      exact e3'
    obtain ⟨ba, q0, hb2, hmo⟩ := hlk
    have HMO := hid hmo
    clear hmo
    by_cases hlt : k < K
    · have c1 : (k : Int) < n := by omega
      have c2 : 0 < (d1 : Int) := by omega
      have c3 : (d2 : Int) < m2 := by omega
      have c4 : k < L1.length := by omega
      have c5 : d2 = L2.length + k := by omega
      have HX := hid (show L1.drop k = L1[k] :: L1.drop (k + 1) from List.drop_eq_getElem_cons c4)
      have HTK := hid (show tkt t2 (L1.take (k + 1)) = tkt t2 (L1.take k) ++ [(t2 + k + 1, L1[k].2)] by
        rw [List.take_succ_eq_append_getElem c4, tkt_snoc, List.length_take, Nat.min_eq_left (by omega)])
      have HP := hid (fun y : Past => (show Calls Tryd.prog 32 #[.pointer (some ⟨b1, 0, none⟩)] (wr.past y) (fun e w' => e = .returned (.tuple #[.int .i64 L1[k].2, .bool true]) ∧ QK B X w0 w' b1 b2 m1 m2 t1 (t2 + k) (L1.drop (k + 1)) (L2 ++ tkt t2 (L1.take k))) by
        have h := HR.out.far (wr.below_past y)
        rw [HX.out] at h
        exact h.act1 (fun F hF => QPop_any hF h.size ht1)))
      have HPU := hid (fun (w2 : World) (h : QK B X w0 w2 b1 b2 m1 m2 t1 (t2 + k) (L1.drop (k + 1)) (L2 ++ tkt t2 (L1.take k))) => (show Calls Tryd.prog 28 #[.pointer (some ⟨b2, 0, none⟩), .int .i64 L1[k].2] w2 (fun e w' => e = .returned (.tuple #[.int .i64 (t2 + k + 1), .int .i64 0]) ∧ QK B X w0 w' b1 b2 m1 m2 t1 (t2 + k + 1) (L1.drop (k + 1)) ((L2 ++ tkt t2 (L1.take k)) ++ [(t2 + k + 1, L1[k].2)])) by
        have hc : ((L2 ++ tkt t2 (L1.take k)).length : Int) < m2 := by rw [ED2.out]; exact c3
        have ht : t2 + (k : Int) ≤ 1000000 := by omega
        refine h.act2 (t' := t2 + k + 1) (L' := (L2 ++ tkt t2 (L1.take k)) ++ [(t2 + k + 1, L1[k].2)]) ?_
        intro F hF
        exact QPush_any hF h.size ht hc L1[k].2))
      obtain ⟨v, ev⟩ : ∃ v, L1[k].2 = v := ⟨_, rfl⟩
      rw [ev] at HP HPU HTK
      clear ev HX
      clear h1 h2 c5
      have g2 : decide (0 < d1) = true := by simpa using c2
      have g3 : decide ((d2 : Int) < m2) = true := by simpa using c3
      go_upto_region 4 with (fail)
      refine wp_region_past (by kernel_rfl) (by kernel_rfl) ?_
      repeat (go_big_quiet_step ((first | (go_at_call 50; first | with_reducible exact Calls.in_past (HL1.out _) | with_reducible exact Calls.in_past2 (HL1.out _)) | (go_at_call 50; first | with_reducible exact Calls.in_past (HL2.out _) | with_reducible exact Calls.in_past2 (HL2.out _)) | (go_at_call 54; first | with_reducible exact Calls.in_past (HMO.out _) | with_reducible exact Calls.in_past2 (HMO.out _)) | (go_at_call 50; first | exact Calls.in_past (HL1.out _) | exact Calls.in_past2 (HL1.out _)) | (go_at_call 50; first | exact Calls.in_past (HL2.out _) | exact Calls.in_past2 (HL2.out _)) | (go_at_call 54; first | exact Calls.in_past (HMO.out _) | exact Calls.in_past2 (HMO.out _)))))
      refine wpQuiet_nil ?_
      rintro _ ⟨_, rfl⟩
      clear HL1 HL2 HMO
      go_wp2_with (first | (go_at_call 32; refine (HP.out _).mono ?_; rintro _ w2 ⟨rfl, h2⟩; have H2 := hid h2; clear h2) | (go_at_call 28; refine (HPU.out _ H2.out).mono ?_; rintro _ w3 ⟨rfl, h3⟩; have H3 := hid h3; clear h3))
      go_roundw
      case rel => exact ⟨k + 1, by go_num, by omega, hid (by
        have := H3.out
        rw [List.append_assoc, ← HTK.out, show t2 + (k : Int) + 1 = t2 + ((k + 1 : Nat) : Int) by omega] at this
        exact this)⟩
      case measure => simp [natJ]; omega
    · obtain rfl : k = K := by omega
      have hcase : (¬ (k : Int) < n) ∨ ((k : Int) < n ∧ ¬ 0 < (d1 : Int)) ∨ ((k : Int) < n ∧ 0 < (d1 : Int) ∧ ¬ (d2 : Int) < m2) := by omega
      clear ED2 hK h1 h2
      have hcase2 : (¬ (k : Int) < n) ∨ ((k : Int) < n ∧ decide (0 < d1) = false) ∨ ((k : Int) < n ∧ decide (0 < d1) = true ∧ decide ((d2 : Int) < m2) = false) := by
        rcases hcase with c1 | ⟨c1, c2⟩ | ⟨c1, c2, c3⟩
        · exact .inl c1
        · exact .inr (.inl ⟨c1, by simp; omega⟩)
        · exact .inr (.inr ⟨c1, by simp; omega, by simp; omega⟩)
      clear hcase
      rcases hcase2 with c1 | ⟨c1, c2⟩ | ⟨c1, c2, c3⟩
      all_goals
        go_upto_region 4 with (fail)
        refine wp_region_past (by kernel_rfl) (by kernel_rfl) ?_
        repeat (go_big_quiet_step ((first | (go_at_call 50; first | with_reducible exact Calls.in_past (HL1.out _) | with_reducible exact Calls.in_past2 (HL1.out _)) | (go_at_call 50; first | with_reducible exact Calls.in_past (HL2.out _) | with_reducible exact Calls.in_past2 (HL2.out _)) | (go_at_call 54; first | with_reducible exact Calls.in_past (HMO.out _) | with_reducible exact Calls.in_past2 (HMO.out _)) | (go_at_call 50; first | exact Calls.in_past (HL1.out _) | exact Calls.in_past2 (HL1.out _)) | (go_at_call 50; first | exact Calls.in_past (HL2.out _) | exact Calls.in_past2 (HL2.out _)) | (go_at_call 54; first | exact Calls.in_past (HMO.out _) | exact Calls.in_past2 (HMO.out _)))))
        refine wpQuiet_nil ?_
        rintro _ ⟨_, rfl⟩
        go_wp2_with fail
        go_ret
        exact ⟨rfl, HR.out.far (wr.below_past _)⟩

end Go.Proofs.YtngokihncjkiaaaDoor
namespace Go.Proofs.YtngokihncjkiaaaDoor
open Go.RowKit
attribute [local go_sem] Oper.semAt_some
theorem LMostS_any (b : Nat) (most : Int) (S : Ar LkS) (w : World) (h : RdLS w b most S) : Calls Tryd.prog 64 #[.pointer (some ⟨b, 0, none⟩)] w (Gives (.int .i64 most) w) := by
  obtain ⟨A, cp, hrec, hc⟩ := h.ex
  have q3 := Rec.cell hrec 0
  simp at q3
  clear h hrec hc
  go_enter Tryd.func64, Tryd.ntmps64
  go_wp2
  go_ret
  exact Gives.refl rfl
section
variable {B : Nat} {w0 W W' : World} {b1 b2 : Nat} {m1 m2 t1 t2 t' : Int} {L1 L2 L' : List (Int × ByteArray)}
theorem QAS.links {F : Nat → Prop} {b : Nat} {m t : Int} {L : List (Int × ByteArray)} (h : QAS B W b F m t L) : ∃ ba, W.cell? ⟨b, 0, none⟩ = some (.pointer (some ⟨ba, 0, none⟩)) ∧ b < W.heap.size ∧ Calls Tryd.prog 64 #[.pointer (some ⟨ba, 0, none⟩)] W (Gives (.int .i64 m) W) := by
  obtain ⟨q, f, c, Q, ks, ⟨ba, mb, G, h1, _⟩, _⟩ := h
  refine ⟨ba, ?_, h1.rc.lt, LMostS_any ba m q.S W h1.ar.rd⟩
  have := Rec.cell h1.rc 0
  simpa using this
end
theorem info_qS : (Tryd.prog.info? 99).map (fun i => i.size) = some 5 := by kernel_rfl
theorem und_qS : Tryd.prog.underlying 78 = some (.pointer 99) := by kernel_rfl
theorem QAS.rc {B : Nat} {W : World} {F : Nat → Prop} {b : Nat} {m t : Int} {L : List (Int × ByteArray)} (h : QAS B W b F m t L) : ∃ cs, Rec W b 99 cs := by
  obtain ⟨q, f, c, Q, ks, ⟨ba, mb, G, h1, _⟩, _⟩ := h
  exact ⟨_, h1.rc⟩
structure QKS (B : Nat) (X : Nat → Prop) (w8 W : World) (b1 b2 : Nat) (m1 m2 t1 t2 : Int) (L1 L2 : List (Int × ByteArray)) : Prop where
  sz : B ≤ w8.heap.size
  kp : Kept X w8 W
  ex : ∃ F1 F2, QAS B W b1 F1 m1 t1 L1 ∧ QAS B W b2 F2 m2 t2 L2 ∧ (∀ k, F1 k → ¬ F2 k) ∧ (∀ k, F1 k → X k ∨ w8.heap.size ≤ k) ∧ (∀ k, F2 k → X k ∨ w8.heap.size ≤ k)
section
variable {B : Nat} {X : Nat → Prop} {w0 w8 W W' : World} {b1 b2 : Nat} {m1 m2 t1 t2 t' : Int} {L1 L2 L' : List (Int × ByteArray)}
theorem QKS.size (h : QKS B X w8 W b1 b2 m1 m2 t1 t2 L1 L2) : B ≤ W.heap.size := Nat.le_trans h.sz h.kp.size
theorem QKS.swap (h : QKS B X w8 W b1 b2 m1 m2 t1 t2 L1 L2) : QKS B X w8 W b2 b1 m2 m1 t2 t1 L2 L1 := by
  obtain ⟨F1, F2, h1, h2, h3, h4, h5⟩ := h.ex
  exact ⟨h.sz, h.kp, F2, F1, h2, h1, fun k a b => h3 k b a, h5, h4⟩
theorem QKS.act1 (h : QKS B X w8 W b1 b2 m1 m2 t1 t2 L1 L2) {fn : FuncId} {args : Array Value} {r : Value}
    (hc : ∀ F, QAS B W b1 F m1 t1 L1 → Calls Tryd.prog fn args W (fun e w' => e = .returned r ∧ QRS B b1 F m1 t' L' W w')) : Calls Tryd.prog fn args W (fun e w' => e = .returned r ∧ QKS B X w8 w' b1 b2 m1 m2 t' t2 L' L2) := by
  obtain ⟨F1, F2, h1, h2, h3, h4, h5⟩ := h.ex
  refine (hc F1 h1).mono ?_
  rintro _ w' ⟨rfl, F', g1, g2, g3⟩
  have hs := h.kp.size
  refine ⟨rfl, h.sz, h.kp.trans' g3 (fun i hi hF => ?_), F', F2, g1, h2.kept g3 (fun k a b => h3 k b a), fun k a b => ?_, fun k a => ?_, h5⟩
  · rcases h4 i hF with g | g
    · exact g
    · omega
  · rcases g2 k a with g | g
    · exact h3 k g b
    · have := (h2.foot k b).2; omega
  · rcases g2 k a with g | g
    · exact h4 k g
    · exact .inr (Nat.le_trans hs g)
theorem QKS.act2 (h : QKS B X w8 W b1 b2 m1 m2 t1 t2 L1 L2) {fn : FuncId} {args : Array Value} {r : Value}
    (hc : ∀ F, QAS B W b2 F m2 t2 L2 → Calls Tryd.prog fn args W (fun e w' => e = .returned r ∧ QRS B b2 F m2 t' L' W w')) : Calls Tryd.prog fn args W (fun e w' => e = .returned r ∧ QKS B X w8 w' b1 b2 m1 m2 t1 t' L1 L') :=
  (h.swap.act1 hc).mono fun _ _ g => ⟨g.1, g.2.swap⟩
theorem QKS.far (h : QKS B X w8 W b1 b2 m1 m2 t1 t2 L1 L2) (hb : Below W.heap.size W W') : QKS B X w8 W' b1 b2 m1 m2 t1 t2 L1 L2 := by
  obtain ⟨F1, F2, h1, h2, h3, h4, h5⟩ := h.ex
  exact ⟨h.sz, h.kp.trans (Kept.of_below hb X), F1, F2, h1.far hb, h2.far hb, h3, h4, h5⟩
theorem QKS.len1 (h : QKS B X w8 W b1 b2 m1 m2 t1 t2 L1 L2) : Calls Tryd.prog 61 #[.pointer (some ⟨b1, 0, none⟩)] W (Gives (.int .i64 (L1.length : Int)) W) := by
  obtain ⟨F1, F2, h1, h2, h3⟩ := h.ex
  exact QLenS_any h1
theorem QKS.ne (h : QKS B X w8 W b1 b2 m1 m2 t1 t2 L1 L2) : b1 ≠ b2 := by
  obtain ⟨F1, F2, ⟨_, _, _, _, _, ⟨_, _, _, _, e1⟩, _⟩, ⟨_, _, _, _, _, ⟨_, _, _, _, e2⟩, _⟩, h3, _⟩ := h.ex
  rintro rfl
  exact h3 b1 (by rw [e1]; exact .inl rfl) (by rw [e2]; exact .inl rfl)
theorem QKS.eql (h : QKS B X w8 W b1 b2 m1 m2 t1 t2 L1 L2) : (binOp .eql 78 (.pointer (some ⟨b1, 0, none⟩)) (.pointer (some ⟨b2, 0, none⟩))).run Tryd.prog W = .ok (.bool false) W := by
  have hne := h.ne
  obtain ⟨F1, F2, h1, h2, h3⟩ := h.ex
  obtain ⟨c1, r1⟩ := h1.rc
  obtain ⟨c2, r2⟩ := h2.rc
  obtain ⟨j, hj, hs⟩ := Option.map_eq_some_iff.1 info_qS
  exact run_eql_ptr_other (j := j) W und_qS hj (by omega) (fun e => hne (by injection e)) r1 r2
end
set_option maxRecDepth 100000 in
set_option maxHeartbeats 4000000 in
theorem PourKS_any {B : Nat} {X : Nat → Prop} {w0 W : World} {b1 b2 : Nat} {m1 m2 t1 t2 : Int} {L1 L2 : List (Int × ByteArray)} (h : QKS B X w0 W b1 b2 m1 m2 t1 t2 L1 L2) (ht1 : t1 ≤ 1000000) (ht2 : t2 + 5000 ≤ 1000000) (hL1 : L1.length ≤ 5000) (hL2 : L2.length ≤ 5000) (n : Int) (hn : I64 n) :
    Calls Tryd.prog 45 #[.pointer (some ⟨b1, 0, none⟩), .pointer (some ⟨b2, 0, none⟩), .int .i64 n] W (fun e w' => e = .returned (.int .i64 (pourN n m2 L1 L2 : Int)) ∧ QKS B X w0 w' b1 b2 m1 m2 t1 (t2 + pourN n m2 L1 L2) (L1.drop (pourN n m2 L1 L2)) (L2 ++ tkt t2 (L1.take (pourN n m2 L1 L2)))) := by
  have hK : (pourN n m2 L1 L2 : Int) = min (min (max n 0) L1.length) (max (m2 - L2.length) 0) := by unfold pourN; omega
  obtain ⟨K, eK⟩ : ∃ K, pourN n m2 L1 L2 = K := ⟨_, rfl⟩
  rw [eK] at hK ⊢
  have hne := h.ne
  have heq := h.eql
  have HH := hid h
  have hn1 := hn.1
  have hn2 := hn.2
  clear h eK hn
  go_enter Tryd.func45, Tryd.ntmps45
  go_upto_region 3 with (fail)
  go_wp2_with fail
  clear heq
  go_loopw [7, 8, 9] (fun i _ _ wr => ∃ k : Nat, i = .int .i64 (k : Int) ∧ k ≤ K ∧ Hid (QKS B X w0 wr b1 b2 m1 m2 t1 (t2 + k) (L1.drop k) (L2 ++ tkt t2 (L1.take k)))) (fun i _ _ _ => K - natJ i)
  case atStart => exact ⟨0, rfl, by omega, hid (by simpa [tkt] using HH.out)⟩
  case round =>
    clear HH
    obtain ⟨k, rfl, hk, HR⟩ := hrel
    have HL1 := hid (fun y : Past => (HR.out.far (wr.below_past y)).len1)
    have HL2 := hid (fun y : Past => (HR.out.far (wr.below_past y)).swap.len1)
    obtain ⟨d1, ed1⟩ : ∃ d, (L1.drop k).length = d := ⟨_, rfl⟩
    obtain ⟨d2, ed2⟩ : ∃ d, (L2 ++ tkt t2 (L1.take k)).length = d := ⟨_, rfl⟩
    have h1 : d1 = L1.length - k := by rw [← ed1]; simp
    have h2 : d2 = L2.length + min k L1.length := by rw [← ed2]; simp [tkt_length]
    rw [ed1] at HL1
    rw [ed2] at HL2
    have ED2 := hid ed2
    clear ed1 ed2
    have hlk : ∃ ba, wr.cell? ⟨b2, 0, none⟩ = some (.pointer (some ⟨ba, 0, none⟩)) ∧ b2 < wr.heap.size ∧ (∀ y : Past, Calls Tryd.prog 64 #[.pointer (some ⟨ba, 0, none⟩)] (wr.past y) (Gives (.int .i64 m2) (wr.past y))) := by
      obtain ⟨F1, F2, g1, g2, g3⟩ := HR.out.ex
      obtain ⟨ba, e1, e2, e3⟩ := g2.links
      refine ⟨ba, e1, e2, fun y => ?_⟩
      obtain ⟨ba', e1', e2', e3'⟩ := (g2.far (wr.below_past y)).links
      have := below_cell (wr.below_past y) (Nat.le_refl _) _ _ e1
      rw [this] at e1'
      injection e1' with e4
      injection e4 with e4
      injection e4 with e4
      injection e4 with e5 _ _
      subst e5
      exact e3'
    obtain ⟨ba, q0, hb2, hmo⟩ := hlk
    have HMO := hid hmo
    clear hmo
    by_cases hlt : k < K
    · have c1 : (k : Int) < n := by omega
      have c2 : 0 < (d1 : Int) := by omega
      have c3 : (d2 : Int) < m2 := by omega
      have c4 : k < L1.length := by omega
      have c5 : d2 = L2.length + k := by omega
      have HX := hid (show L1.drop k = L1[k] :: L1.drop (k + 1) from List.drop_eq_getElem_cons c4)
      have HTK := hid (show tkt t2 (L1.take (k + 1)) = tkt t2 (L1.take k) ++ [(t2 + k + 1, L1[k].2)] by
        rw [List.take_succ_eq_append_getElem c4, tkt_snoc, List.length_take, Nat.min_eq_left (by omega)])
      have HP := hid (fun y : Past => (show Calls Tryd.prog 44 #[.pointer (some ⟨b1, 0, none⟩)] (wr.past y) (fun e w' => e = .returned (.tuple #[.string L1[k].2, .bool true]) ∧ QKS B X w0 w' b1 b2 m1 m2 t1 (t2 + k) (L1.drop (k + 1)) (L2 ++ tkt t2 (L1.take k))) by
        have h := HR.out.far (wr.below_past y)
        rw [HX.out] at h
        exact h.act1 (fun F hF => QPopS_any hF h.size ht1)))
      have HPU := hid (fun (w2 : World) (h : QKS B X w0 w2 b1 b2 m1 m2 t1 (t2 + k) (L1.drop (k + 1)) (L2 ++ tkt t2 (L1.take k))) => (show Calls Tryd.prog 41 #[.pointer (some ⟨b2, 0, none⟩), .string L1[k].2] w2 (fun e w' => e = .returned (.tuple #[.int .i64 (t2 + k + 1), .int .i64 0]) ∧ QKS B X w0 w' b1 b2 m1 m2 t1 (t2 + k + 1) (L1.drop (k + 1)) ((L2 ++ tkt t2 (L1.take k)) ++ [(t2 + k + 1, L1[k].2)])) by
        have hc : ((L2 ++ tkt t2 (L1.take k)).length : Int) < m2 := by rw [ED2.out]; exact c3
        have ht : t2 + (k : Int) ≤ 1000000 := by omega
        refine h.act2 (t' := t2 + k + 1) (L' := (L2 ++ tkt t2 (L1.take k)) ++ [(t2 + k + 1, L1[k].2)]) ?_
        intro F hF
        exact QPushS_any hF h.size ht hc L1[k].2))
      obtain ⟨v, ev⟩ : ∃ v, L1[k].2 = v := ⟨_, rfl⟩
      rw [ev] at HP HPU HTK
      clear ev HX
      clear h1 h2 c5
      have g2 : decide (0 < d1) = true := by simpa using c2
      have g3 : decide ((d2 : Int) < m2) = true := by simpa using c3
      go_upto_region 4 with (fail)
      refine wp_region_past (by kernel_rfl) (by kernel_rfl) ?_
      repeat (go_big_quiet_step ((first | (go_at_call 61; first | with_reducible exact Calls.in_past (HL1.out _) | with_reducible exact Calls.in_past2 (HL1.out _)) | (go_at_call 61; first | with_reducible exact Calls.in_past (HL2.out _) | with_reducible exact Calls.in_past2 (HL2.out _)) | (go_at_call 64; first | with_reducible exact Calls.in_past (HMO.out _) | with_reducible exact Calls.in_past2 (HMO.out _)) | (go_at_call 61; first | exact Calls.in_past (HL1.out _) | exact Calls.in_past2 (HL1.out _)) | (go_at_call 61; first | exact Calls.in_past (HL2.out _) | exact Calls.in_past2 (HL2.out _)) | (go_at_call 64; first | exact Calls.in_past (HMO.out _) | exact Calls.in_past2 (HMO.out _)))))
      refine wpQuiet_nil ?_
      rintro _ ⟨_, rfl⟩
      clear HL1 HL2 HMO
      go_wp2_with (first | (go_at_call 44; refine (HP.out _).mono ?_; rintro _ w2 ⟨rfl, h2⟩; have H2 := hid h2; clear h2) | (go_at_call 41; refine (HPU.out _ H2.out).mono ?_; rintro _ w3 ⟨rfl, h3⟩; have H3 := hid h3; clear h3))
      go_roundw
      case rel => exact ⟨k + 1, by go_num, by omega, hid (by
        have := H3.out
        rw [List.append_assoc, ← HTK.out, show t2 + (k : Int) + 1 = t2 + ((k + 1 : Nat) : Int) by omega] at this
        exact this)⟩
      case measure => simp [natJ]; omega
    · obtain rfl : k = K := by omega
      have hcase : (¬ (k : Int) < n) ∨ ((k : Int) < n ∧ ¬ 0 < (d1 : Int)) ∨ ((k : Int) < n ∧ 0 < (d1 : Int) ∧ ¬ (d2 : Int) < m2) := by omega
      clear ED2 hK h1 h2
      have hcase2 : (¬ (k : Int) < n) ∨ ((k : Int) < n ∧ decide (0 < d1) = false) ∨ ((k : Int) < n ∧ decide (0 < d1) = true ∧ decide ((d2 : Int) < m2) = false) := by
        rcases hcase with c1 | ⟨c1, c2⟩ | ⟨c1, c2, c3⟩
        · exact .inl c1
        · exact .inr (.inl ⟨c1, by simp; omega⟩)
        · exact .inr (.inr ⟨c1, by simp; omega, by simp; omega⟩)
      clear hcase
      rcases hcase2 with c1 | ⟨c1, c2⟩ | ⟨c1, c2, c3⟩
      all_goals
        go_upto_region 4 with (fail)
        refine wp_region_past (by kernel_rfl) (by kernel_rfl) ?_
        repeat (go_big_quiet_step ((first | (go_at_call 61; first | with_reducible exact Calls.in_past (HL1.out _) | with_reducible exact Calls.in_past2 (HL1.out _)) | (go_at_call 61; first | with_reducible exact Calls.in_past (HL2.out _) | with_reducible exact Calls.in_past2 (HL2.out _)) | (go_at_call 64; first | with_reducible exact Calls.in_past (HMO.out _) | with_reducible exact Calls.in_past2 (HMO.out _)) | (go_at_call 61; first | exact Calls.in_past (HL1.out _) | exact Calls.in_past2 (HL1.out _)) | (go_at_call 61; first | exact Calls.in_past (HL2.out _) | exact Calls.in_past2 (HL2.out _)) | (go_at_call 64; first | exact Calls.in_past (HMO.out _) | exact Calls.in_past2 (HMO.out _)))))
        refine wpQuiet_nil ?_
        rintro _ ⟨_, rfl⟩
        go_wp2_with fail
        go_ret
        exact ⟨rfl, HR.out.far (wr.below_past _)⟩

end Go.Proofs.YtngokihncjkiaaaDoor
