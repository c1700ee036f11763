/-
  Layer 05: two queues beside one another (ints). No condition.
-/
import Derived.Test.YtifdogmlaengoaaFifH
import Derived.LaidEqlPtr
namespace Go.Proofs.Ytifdogmlaengoaa
open Go.RowKit
attribute [local go_sem] Oper.semAt_some
structure Q2 (B : Nat) (w0 W : World) (b1 b2 : Nat) (m1 m2 t1 t2 : Int) (L1 L2 : List (Int × Int)) : Prop where
  sz : B ≤ w0.heap.size
  bel : Below B w0 W
  ex : ∃ F1 F2, QA B W b1 F1 m1 t1 L1 ∧ QA B W b2 F2 m2 t2 L2 ∧ (∀ k, F1 k → ¬ F2 k)
section
variable {B : Nat} {w0 W W' : World} {b1 b2 : Nat} {m1 m2 t1 t2 t' : Int} {L1 L2 L' : List (Int × Int)}
theorem Q2.far (h : Q2 B w0 W b1 b2 m1 m2 t1 t2 L1 L2) (hb : Below W.heap.size W W') : Q2 B w0 W' b1 b2 m1 m2 t1 t2 L1 L2 := by
  obtain ⟨F1, F2, h1, h2, h3⟩ := h.ex
  exact ⟨h.sz, h.bel.trans (hb.mono (Nat.le_trans h.sz h.bel.size)), F1, F2, h1.far hb, h2.far hb, h3⟩
theorem Q2.size (h : Q2 B w0 W b1 b2 m1 m2 t1 t2 L1 L2) : B ≤ W.heap.size := Nat.le_trans h.sz h.bel.size
theorem Q2.swap (h : Q2 B w0 W b1 b2 m1 m2 t1 t2 L1 L2) : Q2 B w0 W b2 b1 m2 m1 t2 t1 L2 L1 := by
  obtain ⟨F1, F2, h1, h2, h3⟩ := h.ex
  exact ⟨h.sz, h.bel, F2, F1, h2, h1, fun k a b => h3 k b a⟩
theorem Q2.act1 (h : Q2 B w0 W b1 b2 m1 m2 t1 t2 L1 L2) {fn : FuncId} {args : Array Value} {r : Value}
    (hc : ∀ F, QA B W b1 F m1 t1 L1 → Calls Try.prog fn args W (fun e w' => e = .returned r ∧ QR B b1 F m1 t' L' W w')) : Calls Try.prog fn args W (fun e w' => e = .returned r ∧ Q2 B w0 w' b1 b2 m1 m2 t' t2 L' L2) := by
  obtain ⟨F1, F2, h1, h2, h3⟩ := h.ex
  refine (hc F1 h1).mono ?_
  rintro _ w' ⟨rfl, F', g1, g2, g3⟩
  refine ⟨rfl, h.sz, g3.to_below h.bel h.size (fun k hk => (h1.foot k hk).1), F', F2, g1, h2.kept g3 (fun k a b => h3 k b a), fun k a b => ?_⟩
  rcases g2 k a with g | g
  · exact h3 k g b
  · have := (h2.foot k b).2; omega
theorem Q2.act2 (h : Q2 B w0 W b1 b2 m1 m2 t1 t2 L1 L2) {fn : FuncId} {args : Array Value} {r : Value}
    (hc : ∀ F, QA B W b2 F m2 t2 L2 → Calls Try.prog fn args W (fun e w' => e = .returned r ∧ QR B b2 F m2 t' L' W w')) : Calls Try.prog fn args W (fun e w' => e = .returned r ∧ Q2 B w0 w' b1 b2 m1 m2 t1 t' L1 L') :=
  (h.swap.act1 hc).mono fun _ _ g => ⟨g.1, g.2.swap⟩
theorem Q2.ne (h : Q2 B w0 W b1 b2 m1 m2 t1 t2 L1 L2) : b1 ≠ b2 := by
  obtain ⟨F1, F2, ⟨_, _, _, _, _, ⟨_, _, _, _, e1⟩, _⟩, ⟨_, _, _, _, _, ⟨_, _, _, _, e2⟩, _⟩, h3⟩ := h.ex
  rintro rfl
  exact h3 b1 (by rw [e1]; exact .inl rfl) (by rw [e2]; exact .inl rfl)
theorem Q2.len1 (h : Q2 B w0 W b1 b2 m1 m2 t1 t2 L1 L2) : Calls Try.prog 10 #[.pointer (some ⟨b1, 0, none⟩)] W (Gives (.int .i64 (L1.length : Int)) W) := by
  obtain ⟨F1, F2, h1, h2, h3⟩ := h.ex
  exact QLen_any h1
theorem QA.links {F : Nat → Prop} {b : Nat} {m t : Int} {L : List (Int × Int)} (h : QA B W b F m t L) : ∃ ba, W.cell? ⟨b, 0, none⟩ = some (.pointer (some ⟨ba, 0, none⟩)) ∧ b < W.heap.size ∧ Calls Try.prog 29 #[.pointer (some ⟨ba, 0, none⟩)] W (Gives (.int .i64 m) W) := by
  obtain ⟨q, f, c, Q, ks, ⟨ba, mb, G, h1, _⟩, _⟩ := h
  refine ⟨ba, ?_, h1.rc.lt, LMost_any ba m q.S W h1.ar.rd⟩
  have := Rec.cell h1.rc 0
  simpa using this
end
theorem info_q : (Try.prog.info? 70).map (fun i => i.size) = some 5 := by kernel_rfl
theorem und_q : Try.prog.underlying 24 = some (.pointer 70) := by kernel_rfl
theorem QA.rc {B : Nat} {W : World} {F : Nat → Prop} {b : Nat} {m t : Int} {L : List (Int × Int)} (h : QA B W b F m t L) : ∃ cs, Rec W b 70 cs := by
  obtain ⟨q, f, c, Q, ks, ⟨ba, mb, G, h1, _⟩, _⟩ := h
  exact ⟨_, h1.rc⟩
theorem Q2.eql {B : Nat} {w0 W : World} {b1 b2 : Nat} {m1 m2 t1 t2 : Int} {L1 L2 : List (Int × Int)} (h : Q2 B w0 W b1 b2 m1 m2 t1 t2 L1 L2) : (binOp .eql 24 (.pointer (some ⟨b1, 0, none⟩)) (.pointer (some ⟨b2, 0, none⟩))).run Try.prog W = .ok (.bool false) W := by
  have hne := h.ne
  obtain ⟨F1, F2, h1, h2, h3⟩ := h.ex
  obtain ⟨c1, r1⟩ := h1.rc
  obtain ⟨c2, r2⟩ := h2.rc
  obtain ⟨j, hj, hs⟩ := Option.map_eq_some_iff.1 info_q
  exact run_eql_ptr_other (j := j) W und_q hj (by omega) (fun e => hne (by injection e)) r1 r2
/-- Tickets from some on. -/
def tkt : Int → List (Int × Int) → List (Int × Int)
  | _, [] => []
  | t, x :: l => (t + 1, x.2) :: tkt (t + 1) l
theorem tkt_length : ∀ (t : Int) (l : List (Int × Int)), (tkt t l).length = l.length
  | _, [] => rfl
  | t, x :: l => by simp [tkt, tkt_length (t + 1) l]
theorem tkt_snoc : ∀ (t : Int) (l : List (Int × Int)) (x : Int × Int), tkt t (l ++ [x]) = tkt t l ++ [(t + l.length + 1, x.2)]
  | t, [], x => by simp [tkt]
  | t, y :: l, x => by
    simp only [tkt, List.cons_append, tkt_snoc (t + 1) l x, List.length_cons]
    congr 3
    rw [show t + 1 + (l.length : Int) + 1 = t + ((l.length + 1 : Nat) : Int) + 1 by omega]
def natJ : Value → Nat | .int _ z => z.toNat | _ => 0
/-- How many are poured. -/
def pourN (n m : Int) (L1 L2 : List (Int × Int)) : Nat := (min (min (max n 0) L1.length) (max (m - L2.length) 0)).toNat
set_option maxRecDepth 100000 in
set_option maxHeartbeats 4000000 in
theorem Pour_any {B : Nat} {w0 W : World} {b1 b2 : Nat} {m1 m2 t1 t2 : Int} {L1 L2 : List (Int × Int)} (h : Q2 B w0 W b1 b2 m1 m2 t1 t2 L1 L2) (ht1 : t1 ≤ 1000000) (ht2 : t2 + 5000 ≤ 1000000) (hL1 : L1.length ≤ 5000) (hL2 : L2.length ≤ 5000) (n : Int) (hn : I64 n) :
    Calls Try.prog 9 #[.pointer (some ⟨b1, 0, none⟩), .pointer (some ⟨b2, 0, none⟩), .int .i64 n] W (fun e w' => e = .returned (.int .i64 (pourN n m2 L1 L2 : Int)) ∧ Q2 B w0 w' b1 b2 m1 m2 t1 (t2 + pourN n m2 L1 L2) (L1.drop (pourN n m2 L1 L2)) (L2 ++ tkt t2 (L1.take (pourN n m2 L1 L2)))) := by
  have hK : (pourN n m2 L1 L2 : Int) = min (min (max n 0) L1.length) (max (m2 - L2.length) 0) := by unfold pourN; omega
  obtain ⟨K, eK⟩ : ∃ K, pourN n m2 L1 L2 = K := ⟨_, rfl⟩
  rw [eK] at hK ⊢
  have hne := h.ne
  have heq := h.eql
  have HH := hid h
  have hn1 := hn.1
  have hn2 := hn.2
  clear h eK hn
  go_enter Try.func9, Try.ntmps9
  go_upto_region 3 with (fail)
  go_wp2_with fail
  clear heq
  go_loopw [7, 8, 9] (fun i _ _ wr => ∃ k : Nat, i = .int .i64 (k : Int) ∧ k ≤ K ∧ Hid (Q2 B w0 wr b1 b2 m1 m2 t1 (t2 + k) (L1.drop k) (L2 ++ tkt t2 (L1.take k)))) (fun i _ _ _ => K - natJ i)
  case atStart => exact ⟨0, rfl, by omega, hid (by simpa [tkt] using HH.out)⟩
  case round =>
    clear HH
    obtain ⟨k, rfl, hk, HR⟩ := hrel
    have HL1 := hid (fun y : Past => (HR.out.far (wr.below_past y)).len1)
    have HL2 := hid (fun y : Past => (HR.out.far (wr.below_past y)).swap.len1)
    obtain ⟨d1, ed1⟩ : ∃ d, (L1.drop k).length = d := ⟨_, rfl⟩
    obtain ⟨d2, ed2⟩ : ∃ d, (L2 ++ tkt t2 (L1.take k)).length = d := ⟨_, rfl⟩
    have h1 : d1 = L1.length - k := by rw [← ed1]; simp
    have h2 : d2 = L2.length + min k L1.length := by rw [← ed2]; simp [tkt_length]
    rw [ed1] at HL1
    rw [ed2] at HL2
    have ED2 := hid ed2
    clear ed1 ed2
    have hlk : ∃ ba, wr.cell? ⟨b2, 0, none⟩ = some (.pointer (some ⟨ba, 0, none⟩)) ∧ b2 < wr.heap.size ∧ (∀ y : Past, Calls Try.prog 29 #[.pointer (some ⟨ba, 0, none⟩)] (wr.past y) (Gives (.int .i64 m2) (wr.past y))) := by
      obtain ⟨F1, F2, g1, g2, g3⟩ := HR.out.ex
      obtain ⟨ba, e1, e2, e3⟩ := g2.links
      refine ⟨ba, e1, e2, fun y => ?_⟩
      obtain ⟨ba', e1', e2', e3'⟩ := (g2.far (wr.below_past y)).links
      have := below_cell (wr.below_past y) (Nat.le_refl _) _ _ e1
      rw [this] at e1'
      injection e1' with e4
      injection e4 with e4
      injection e4 with e4
      injection e4 with e5 _ _
      subst e5
      exact e3'
    obtain ⟨ba, q0, hb2, hmo⟩ := hlk
    have HMO := hid hmo
    clear hmo
    by_cases hlt : k < K
    · have c1 : (k : Int) < n := by omega
      have c2 : 0 < (d1 : Int) := by omega
      have c3 : (d2 : Int) < m2 := by omega
      have c4 : k < L1.length := by omega
      have c5 : d2 = L2.length + k := by omega
      have HX := hid (show L1.drop k = L1[k] :: L1.drop (k + 1) from List.drop_eq_getElem_cons c4)
      have HTK := hid (show tkt t2 (L1.take (k + 1)) = tkt t2 (L1.take k) ++ [(t2 + k + 1, L1[k].2)] by
        rw [List.take_succ_eq_append_getElem c4, tkt_snoc, List.length_take, Nat.min_eq_left (by omega)])
      have HP := hid (fun y : Past => (show Calls Try.prog 11 #[.pointer (some ⟨b1, 0, none⟩)] (wr.past y) (fun e w' => e = .returned (.tuple #[.int .i64 L1[k].2, .bool true]) ∧ Q2 B w0 w' b1 b2 m1 m2 t1 (t2 + k) (L1.drop (k + 1)) (L2 ++ tkt t2 (L1.take k))) by
        have h := HR.out.far (wr.below_past y)
        rw [HX.out] at h
        exact h.act1 (fun F hF => QPop_any hF h.size ht1)))
      have HPU := hid (fun (w2 : World) (h : Q2 B w0 w2 b1 b2 m1 m2 t1 (t2 + k) (L1.drop (k + 1)) (L2 ++ tkt t2 (L1.take k))) => (show Calls Try.prog 8 #[.pointer (some ⟨b2, 0, none⟩), .int .i64 L1[k].2] w2 (fun e w' => e = .returned (.tuple #[.int .i64 (t2 + k + 1), .int .i64 0]) ∧ Q2 B w0 w' b1 b2 m1 m2 t1 (t2 + k + 1) (L1.drop (k + 1)) ((L2 ++ tkt t2 (L1.take k)) ++ [(t2 + k + 1, L1[k].2)])) by
        have hc : ((L2 ++ tkt t2 (L1.take k)).length : Int) < m2 := by rw [ED2.out]; exact c3
        have ht : t2 + (k : Int) ≤ 1000000 := by omega
        refine h.act2 (t' := t2 + k + 1) (L' := (L2 ++ tkt t2 (L1.take k)) ++ [(t2 + k + 1, L1[k].2)]) ?_
        intro F hF
        exact QPush_any hF h.size ht hc L1[k].2))
      obtain ⟨v, ev⟩ : ∃ v, L1[k].2 = v := ⟨_, rfl⟩
      rw [ev] at HP HPU HTK
      clear ev HX
      clear h1 h2 c5
      have g2 : decide (0 < d1) = true := by simpa using c2
      have g3 : decide ((d2 : Int) < m2) = true := by simpa using c3
      go_upto_region 4 with (fail)
      refine wp_region_past (by kernel_rfl) (by kernel_rfl) ?_
      repeat (go_big_quiet_step ((first | (go_at_call 10; first | with_reducible exact Calls.in_past (HL1.out _) | with_reducible exact Calls.in_past2 (HL1.out _)) | (go_at_call 10; first | with_reducible exact Calls.in_past (HL2.out _) | with_reducible exact Calls.in_past2 (HL2.out _)) | (go_at_call 29; first | with_reducible exact Calls.in_past (HMO.out _) | with_reducible exact Calls.in_past2 (HMO.out _)) | (go_at_call 10; first | exact Calls.in_past (HL1.out _) | exact Calls.in_past2 (HL1.out _)) | (go_at_call 10; first | exact Calls.in_past (HL2.out _) | exact Calls.in_past2 (HL2.out _)) | (go_at_call 29; first | exact Calls.in_past (HMO.out _) | exact Calls.in_past2 (HMO.out _)))))
      refine wpQuiet_nil ?_
      rintro _ ⟨_, rfl⟩
      clear HL1 HL2 HMO
      go_wp2_with (first | (go_at_call 11; refine (HP.out _).mono ?_; rintro _ w2 ⟨rfl, h2⟩; have H2 := hid h2; clear h2) | (go_at_call 8; refine (HPU.out _ H2.out).mono ?_; rintro _ w3 ⟨rfl, h3⟩; have H3 := hid h3; clear h3))
      go_roundw
      case rel => exact ⟨k + 1, by go_num, by omega, hid (by
        have := H3.out
        rw [List.append_assoc, ← HTK.out, show t2 + (k : Int) + 1 = t2 + ((k + 1 : Nat) : Int) by omega] at this
        exact this)⟩
      case measure => simp [natJ]; omega
    · obtain rfl : k = K := by omega
      have hcase : (¬ (k : Int) < n) ∨ ((k : Int) < n ∧ ¬ 0 < (d1 : Int)) ∨ ((k : Int) < n ∧ 0 < (d1 : Int) ∧ ¬ (d2 : Int) < m2) := by omega
      clear ED2 hK h1 h2
      have hcase2 : (¬ (k : Int) < n) ∨ ((k : Int) < n ∧ decide (0 < d1) = false) ∨ ((k : Int) < n ∧ decide (0 < d1) = true ∧ decide ((d2 : Int) < m2) = false) := by
        rcases hcase with c1 | ⟨c1, c2⟩ | ⟨c1, c2, c3⟩
        · exact .inl c1
        · exact .inr (.inl ⟨c1, by simp; omega⟩)
        · exact .inr (.inr ⟨c1, by simp; omega, by simp; omega⟩)
      clear hcase
      rcases hcase2 with c1 | ⟨c1, c2⟩ | ⟨c1, c2, c3⟩
      all_goals
        go_upto_region 4 with (fail)
        refine wp_region_past (by kernel_rfl) (by kernel_rfl) ?_
        repeat (go_big_quiet_step ((first | (go_at_call 10; first | with_reducible exact Calls.in_past (HL1.out _) | with_reducible exact Calls.in_past2 (HL1.out _)) | (go_at_call 10; first | with_reducible exact Calls.in_past (HL2.out _) | with_reducible exact Calls.in_past2 (HL2.out _)) | (go_at_call 29; first | with_reducible exact Calls.in_past (HMO.out _) | with_reducible exact Calls.in_past2 (HMO.out _)) | (go_at_call 10; first | exact Calls.in_past (HL1.out _) | exact Calls.in_past2 (HL1.out _)) | (go_at_call 10; first | exact Calls.in_past (HL2.out _) | exact Calls.in_past2 (HL2.out _)) | (go_at_call 29; first | exact Calls.in_past (HMO.out _) | exact Calls.in_past2 (HMO.out _)))))
        refine wpQuiet_nil ?_
        rintro _ ⟨_, rfl⟩
        go_wp2_with fail
        go_ret
        exact ⟨rfl, HR.out.far (wr.below_past _)⟩
end Go.Proofs.Ytifdogmlaengoaa
