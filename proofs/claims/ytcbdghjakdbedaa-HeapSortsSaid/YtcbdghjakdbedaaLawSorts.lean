/-
  Layer 04's HeapSorts: what is pushed comes off in order, each once. No condition.
-/
import Derived.Test.YtcbdghjakdbedaaSortS
import Derived.Test.YtcbdghjakdbedaaAwake
import Derived.Test.YtcbdghjakdbedaaNil
import Derived.Test.YtcbdghjakdbedaaPastRd
namespace Go.Proofs.Ytcbdghjakdbedaa
open Go Go.RowKit Go.Shelf Go.ChangeShapes Go.WideShapes Go.ChangeAt HpU
attribute [local go_sem] Oper.semAt_some
def u64s (l : List Int) : List Value := l.map (Value.int .u64)
theorem u64_at {w : World} {A : Option Addr} {l : List Int} (h : Cells w A (u64s l)) {k : Nat} (hk : k < l.length) : ∃ b off : Nat, A = some ⟨b, off, none⟩ ∧ w.cell? ⟨b, off + k, none⟩ = some (.int .u64 (atL l k)) := by
  obtain ⟨b, off, e, hc⟩ := h.at (k := k) (by simpa [u64s] using hk)
  refine ⟨b, off, e, ?_⟩
  rw [hc]
  simp [u64s, atL, List.getElem?_eq_getElem hk]
/-- The boxes, and what was pushed. -/
structure PuR (w : World) (B b mb : Nat) (sl : Value) (l : List Int) (k : Nat) (W : World) : Prop where
  hp : HP B W b mb 200 (its l k)
  below : Below w.heap.size w W
  bl : Boxed W w.heap.size 51 sl
  br : Boxed W (w.heap.size + 1) 4 (.bool false)
theorem PuR.far {w W W' : World} {B b mb : Nat} {sl : Value} {l : List Int} {k : Nat} (h : PuR w B b mb sl l k W) (hb : Below W.heap.size W W') : PuR w B b mb sl l k W' :=
  ⟨h.hp.far hb, h.below.trans (hb.mono h.below.size), (hb.block _ h.bl.lt).trans h.bl, (hb.block _ h.br.lt).trans h.br⟩
/-- Between two rounds of what is due. -/
structure DuR (w : World) (sl : Value) (K : Nat) (p : Int) (kv ki : Int) (W : World) : Prop where
  below : Below w.heap.size w W
  bl : Boxed W w.heap.size 51 sl
  br : Boxed W (w.heap.size + 1) 4 (.bool false)
  last : Rec W K 30 #[.int .u64 kv, .int .i64 ki]
  cnt : Boxed W (K + 1) 3 (.int .i64 p)
theorem DuR.ks {w : World} {sl : Value} {K : Nat} {p kv ki : Int} {A B : World} {X : Nat → Prop} (h : DuR w sl K p kv ki A) (hk : KS X A B) (hX : ∀ k, X k → w.heap.size ≤ k ∧ k ≠ w.heap.size ∧ k ≠ w.heap.size + 1 ∧ k ≠ K ∧ k ≠ K + 1) : DuR w sl K p kv ki B :=
  ⟨h.below.trans (hk.under (fun k hx => (hX k hx).1) h.below.size), hk.boxed (fun hx => (hX _ hx).2.1 rfl) h.bl, hk.boxed (fun hx => (hX _ hx).2.2.1 rfl) h.br,
    (hk.block K h.last.lt (fun hx => (hX _ hx).2.2.2.1 rfl)).trans h.last, hk.boxed (fun hx => (hX _ hx).2.2.2.2 rfl) h.cnt⟩
set_option maxRecDepth 100000 in
set_option maxHeartbeats 4000000 in
theorem HeapSorts_any (A : Option Addr) (ca n : Nat) (l : List Int) (en : l.length = n) (hmx : n ≤ maxLen) (hU : ∀ x ∈ l, U64 x) (w : World) (hc : Cells w A (u64s l)) :
    Calls Try.prog 4 #[.slice A n ca] w (Gives (.bool true) w) := by
  have AWK := hid awake_any
  obtain ⟨w1, ew1⟩ : ∃ w1, w1 = (w.alloc (.cells #[.slice A n ca] 51)).alloc (.cells #[.bool false] 4) := ⟨_, rfl⟩
  have hb1 : Below w.heap.size w w1 := by rw [ew1]; exact ((Below.refl _ w).alloc (Nat.le_refl _) _).alloc (by simp) _
  have bL1 : Boxed w1 w.heap.size 51 (.slice A n ca) := by rw [ew1]; exact (Boxed.new w _ _).alloc _
  have bR1 : Boxed w1 (w.heap.size + 1) 4 (.bool false) := by
    rw [ew1]
    have := Boxed.new (w.alloc (.cells #[.slice A n ca] 51)) 4 (.bool false)
    rwa [World.size_alloc] at this
  have hs1 : w1.heap.size = w.heap.size + 2 := by rw [ew1]; simp
  have EW1 := hid ew1
  by_cases h100 : 100 < n
  · clear ew1 en hc hb1 bL1 bR1 hs1 EW1
    go_enter Try.func4, Try.ntmps4
    go_wp2_with (go_at_call 5; refine (AWK.out _).mono ?_; rintro _ _ ⟨rfl, x1, rfl⟩)
    refine bodyPost_ret (v := .bool true) ?_ rfl ?_
    · simp [results, Try.results4, go_sem]
    · refine Gives.mk (rfl) ?_
      (repeat (first | exact Below.refl _ _ | refine RowKit.Below.past ?_ _ | refine RowKit.Below.alloc' ?_ _ | refine RowKit.Below.drew' ?_ | refine RowKit.Below.drewN' ?_ _ | refine RowKit.Below.setCell' ?_ (by simp [go_sem]) _))
  · have hn : n ≤ 100 := by omega
    obtain ⟨B, eB⟩ : ∃ B, B = w1.heap.size := ⟨_, rfl⟩
    have HB := hid eB
    have EN := hid en
    have HC := hid hc
    have HUU := hid hU
    have HB1 := hid hb1
    have HBX := hid (And.intro bL1 bR1)
    have q1 := bL1.cell
    clear ew1 en hc hU eB hb1 bL1 bR1 h100 hmx
    refine (callsIn_wide (n := 5)).1 ?_
    refine callsIn_of_wp_marks Try.func4 rfl trivial ?_ rfl
    refine wpIn_wide.2 ?_
    simp only [Try.ntmps4, List.size_toArray, List.length_cons, List.length_nil, Nat.reduceAdd, Nat.reduceSub, Array.replicate_succ, Array.replicate_zero, List.push_toArray, List.append_toArray, List.nil_append, List.cons_append]
    go_wp2_with (go_at_call 5; rw [← EW1.out]; refine (AWK.out _).mono ?_; rintro _ _ ⟨rfl, x1, rfl⟩)
    obtain ⟨w2, ew2⟩ : ∃ w2, w2 = w1.past x1 := ⟨_, rfl⟩
    have hb2 : Below w1.heap.size w1 w2 := by rw [ew2]; exact w1.below_past x1
    rw [← ew2]
    refine (New_any (B := B) 200 w2 (by have := HB.out; have := hb2.size; omega)).mono ?_
    rintro _ w3 ⟨b, mb, rfl, hP3, hb3, -, -⟩
    rw [show mostH 200 = 200 from by decide] at hP3
    have hb23 := below_trans' hb2 hb3
    have HR3 : Hid (PuR w B b mb (.slice A n ca) l 0 w3) := hid ⟨hP3, below_trans' HB1.out (hb23.mono (Nat.le_refl _) |>.mono (Nat.le_refl _) |> fun h => h), (hb23.block _ (by omega)).trans HBX.out.1, (hb23.block _ (by omega)).trans HBX.out.2⟩
    have q3 := HR3.out.bl.cell
    clear hP3 hb3 hb23 hb2 ew2 q1
    go_wp2_with fail
    go_loopw [28] (fun i wr => ∃ k : Nat, i = .int .i64 k ∧ k ≤ n ∧ Hid (PuR w B b mb (.slice A n ca) l k wr)) (fun i _ => n - natC i)
    case atStart => exact ⟨0, rfl, by omega, HR3⟩
    case round =>
      clear HR3 q3
      obtain ⟨k, rfl, hk, hR⟩ := hrel
      by_cases hlt : k < n
      · have hcw := (HC.out.below (hR.out.below))
        obtain ⟨g, off, rfl, ck⟩ := u64_at hcw (k := k) (by rw [EN.out]; exact hlt)
        have HUk := hid (show U64 (atL l k) by
          refine HUU.out _ ?_
          unfold atL
          rw [List.getElem?_eq_getElem (by rw [EN.out]; exact hlt)]
          exact List.getElem_mem _)
        have hB : B ≤ wr.heap.size := by have := (hF_lt hR.out.hp (.inl rfl)); omega
        have hE : pushE (its l k) 200 (k : Int) = 0 := by unfold pushE; rw [if_neg (its_id l k), if_neg (by rw [its_length]; omega)]
        have HPU := hid (Push_any hR.out.hp (by decide) hB (itA l k) (by show I64 (k : Int); unfold I64; omega))
        have HE := hid hE
        clear hcw hE hB
        go_wp2_with fail
        refine HPU.out.mono ?_
        rintro _ w4 ⟨rfl, hP4, hb4, -⟩
        have hpl : pushL (its l k) 200 (itA l k) = itA l k :: its l k := by unfold pushL; rw [if_pos (show pushE (its l k) 200 (itA l k).id = 0 from HE.out)]
        rw [hpl] at hP4
        have hP5 : HP B w4 b mb 200 (its l (k + 1)) := hP4.perm (by rw [its_succ]; exact (List.perm_append_singleton _ _).symm)
        have hBw : w.heap.size + 1 < B := by rw [HB.out, hs1]; omega
        have hBr := (hF_lt hR.out.hp (.inl rfl))
        have HR5 : Hid (PuR w B b mb (.slice (some ⟨g, off, none⟩) n ca) l (k + 1) w4) := hid ⟨hP5, hR.out.below.trans (hb4.mono (by omega)), (hb4.block _ (by omega)).trans hR.out.bl, (hb4.block _ (by omega)).trans hR.out.br⟩
        rw [show pushE (its l k) 200 (itA l k).id = 0 from HE.out]
        clear hpl hP4 hP5 hb4 hBw hBr HPU ck
        go_wp2_with fail
        go_roundw
        case rel => exact ⟨k + 1, by go_num, by omega, HR5⟩
        case measure => simp [natC]; omega
      · obtain rfl : k = n := by omega
        obtain ⟨K, eK⟩ : ∃ K, wr.heap.size = K := ⟨_, rfl⟩
        obtain ⟨w5, ew5⟩ : ∃ w5, w5 = (wr.alloc (.cells #[.int .u64 0, .int .i64 0] 30)).alloc (.cells #[.int .i64 0] 3) := ⟨_, rfl⟩
        have hb5 : Below wr.heap.size wr w5 := by rw [ew5]; exact ((Below.refl _ _).alloc (Nat.le_refl _) _).alloc (by simp) _
        have hs5 : w5.heap.size = K + 2 := by rw [ew5]; simp [eK]
        have bK5 : Rec w5 K 30 #[.int .u64 0, .int .i64 0] := by rw [ew5, ← eK]; exact Rec.alloc (Rec.new wr _ _) _
        have bC5 : Boxed w5 (K + 1) 3 (.int .i64 0) := by
          rw [ew5, ← eK]
          have := Boxed.new (wr.alloc (.cells #[.int .u64 0, .int .i64 0] 30)) 3 (.int .i64 0)
          rwa [World.size_alloc] at this
        have EW5 := hid ew5
        have EK := hid eK
        clear ew5 hlt hk
        go_wp2_with fail
        rw [← EW5.out]
        refine (Due_any _ _ w5).mono ?_
        rintro _ w6 ⟨rfl, hb6, hs6, hx6, hu6⟩
        have hb46 := hb5.trans (hb6.mono (by omega))
        have hP5 := hR.out.hp.far hb5
        have hP6 := hR.out.hp.far hb46
        have hMh := new_out hP5 hb6 (Nat.le_refl _)
        have hMu := new_out hP5 hb6 (Nat.le_succ _)
        have hBw : w.heap.size + 1 < B := by rw [HB.out, hs1]; omega
        have hBK : B < K := by have := hF_lt hR.out.hp (.inl rfl); omega
        have HRD : Hid (DuR w (.slice A k ca) K 0 0 0 w6) := hid ⟨hR.out.below.trans (hb46.mono hR.out.below.size), (hb46.block _ (by omega)).trans hR.out.bl, (hb46.block _ (by omega)).trans hR.out.br, (hb6.block _ (by omega)).trans bK5, (hb6.block _ (by omega)).trans bC5⟩
        rw [hs5] at hx6 hu6 hMh hMu ⊢
        have hsz6 : w6.heap.size = K + 4 := by omega
        have hMK : ∀ k, hF b mb w6 k → B ≤ k ∧ k < K := fun k hk => by
          have h1 := hF_lt hP6 hk
          refine ⟨h1.1, ?_⟩
          rcases Nat.lt_or_ge k K with h | h
          · exact h
          · exact absurd hk (new_out hR.out.hp hb46 (by omega))
        obtain ⟨T, eT⟩ : ∃ T : Nat → Prop, T = fun q => q = K ∨ q = K + 1 := ⟨_, rfl⟩
        have hTK : T K := by rw [eT]; exact .inl rfl
        have hTC : T (K + 1) := by rw [eT]; exact .inr rfl
        have hTw : ∀ q, T q → q < w6.heap.size := by rw [eT]; rintro q (rfl | rfl) <;> omega
        have hTh : ¬ T (K + 2) := by rw [eT]; rintro (h | h) <;> omega
        have hTu : ¬ T (K + 2 + 1) := by rw [eT]; rintro (h | h) <;> omega
        have hTM : ∀ q, hF b mb w6 q → ¬ T q := by rw [eT]; rintro q hq (rfl | rfl) <;> (have := (hMK _ hq).2; omega)
        have hseq := due_seq (5 - 1) (by omega) w6 (K + 2) (K + 2 + 1) 18446744073709551615 (its l k) T hx6 hu6 hTh hTu hMh hMu hP6 hTM (by omega)
        have hXg : ∀ q, TT (hF b mb w6) w6.heap.size (w6.heap.size + 2) q → w.heap.size ≤ q ∧ q ≠ w.heap.size ∧ q ≠ w.heap.size + 1 ∧ q ≠ K ∧ q ≠ K + 1 := by
          rintro q (h | h)
          · have := hMK _ h; omega
          · omega
        have HXG := hid hXg
        have HMK := hid hMK
        have hMl : ∀ q, hF b mb w6 q → q < w6.heap.size := fun q hq => by have := (hMK q hq).2; omega
        have HML := hid hMl
        have HSEQ := hid hseq
        have HSZ := hid hsz6
        have HKW := hid (And.intro hBw hBK)
        clear hseq eT hx6 hu6 hMh hMu hP5 hP6 hb46 hb5 hb6 hXg hMK bK5 bC5 hMl hTM hs5 hs6 hBw hBK
        go_wp2_with fail
        refine (wpIn_wide (n := 5)).1 ?_
        apply wpIn_rangeFunc_H1 rfl (by omega) (gf := 33) (lb := #[.pointer (some ⟨K + 2, 0, none⟩), .pointer (some ⟨K + 2 + 1, 0, none⟩)]) rfl trivial (enters_of Try.func33 (by kernel_rfl) rfl) HSEQ.out HML.out (fun _ _ _ h hk => dueS_far HML.out h hk) (fun _ _ _ h hk => dueSp_far HML.out h hk) hTw (KS.refl _ _) (fun _ => rfl)
          (fun pre U => DuR w (.slice A k ca) K pre.length (lastK pre).1 (lastK pre).2 U)
          (fun _ _ _ => False)
          (fun _ _ _ h hk => h.ks hk HXG.out)
          (fun _ _ _ _ h _ => h.elim)
          HRD.out
          30 (fun x => #[.int .u64 x.v, .int .i64 x.id]) _ ?assign ?body ?done ?stop
        case assign =>
          intro lq x W c K' hsW hc hK
          simp only [encK]
          gi_wp2
          try rw [hc]
          exact hK _ (by rw [← hc]; exact Rec.new W _ _) ((Below.refl _ W).alloc (Nat.le_refl _) _)
        case body =>
          rintro lq pre x c W hsW hJ hlen ⟨L, htk⟩ hcS hrec
          obtain ⟨j, hj, ex, hpl, hnx⟩ := took_next htk
          obtain ⟨xv, xi, xx⟩ := x
          simp only [itA, Hp.It.mk.injEq] at ex
          obtain ⟨ex1, rfl, ex3⟩ := ex
          have hcw := HC.out.below hJ.below
          obtain ⟨g, off, rfl, ck⟩ := u64_at hcw (k := j) (by rw [EN.out]; exact hj)
          rw [← ex1] at ck ex3
          replace ex3 := ex3.symm
          subst ex3
          have c0 := Rec.cell hrec 0
          have c1 := Rec.cell hrec 1
          have q1 := hJ.bl.cell
          have q4 := hJ.cnt.cell
          have f4 := hJ.cnt.frozen
          have l4 := hJ.cnt.lt
          have s0 := Rec.cell hJ.last 0
          have s1 := Rec.cell hJ.last 1
          have f0 := Rec.frozen hJ.last 0
          have f1 := Rec.frozen hJ.last 1
          have l0 := Rec.lt hJ.last
          simp at c0 c1 s0 s1
          obtain ⟨lv, elv⟩ : ∃ lv, (lastK pre).1 = lv := ⟨_, rfl⟩
          obtain ⟨li, eli⟩ : ∃ li, (lastK pre).2 = li := ⟨_, rfl⟩
          obtain ⟨p, ep⟩ : ∃ p, pre.length = p := ⟨_, rfl⟩
          rw [elv] at s0 hJ hnx
          rw [eli] at s1 hJ hnx
          rw [ep] at q4 hJ hnx hpl
          simp only at hnx
          have hcl : c < W.heap.size := hrec.lt
          have hKc : K < c ∧ K + 1 < c := by have := HSZ.out; omega
          have HF := hid (show ∀ (W2 : World), W2 = ((W.setCell ⟨K, 0, none⟩ (.int .u64 xv)).setCell ⟨K, 1, none⟩ (.int .i64 j)).setCell ⟨K + 1, 0, none⟩ (.int .i64 ((p : Int) + 1)) → KS T W W2 ∧ DuR w (.slice (some ⟨g, off, none⟩) k ca) K ((pre ++ [(⟨xv, j, xv⟩ : Hp.It HpU.A)]).length : Nat) (lastK (pre ++ [(⟨xv, j, xv⟩ : Hp.It HpU.A)])).1 (lastK (pre ++ [(⟨xv, j, xv⟩ : Hp.It HpU.A)])).2 W2 from by
            rintro W2 rfl
            rw [lastK_snoc]
            have hk1 : KS (fun q => q = K) W ((W.setCell ⟨K, 0, none⟩ (.int .u64 xv)).setCell ⟨K, 1, none⟩ (.int .i64 j)) := ((KS.refl (fun q => q = K) W).setCell rfl 0 _).setCell rfl 1 _
            have hk2 : KS (fun q => q = K ∨ q = K + 1) W (((W.setCell ⟨K, 0, none⟩ (.int .u64 xv)).setCell ⟨K, 1, none⟩ (.int .i64 j)).setCell ⟨K + 1, 0, none⟩ (.int .i64 ((p : Int) + 1))) := (hk1.mono (fun _ h => .inl h)).setCell (b := K + 1) (.inr rfl) 0 _
            have hw := HKW.out
            refine ⟨hk2.mono (by rintro q (rfl | rfl); exact hTK; exact hTC), hJ.below.trans (hk2.under (by rintro q (rfl | rfl) <;> omega) hJ.below.size), hk2.boxed (by omega) hJ.bl, hk2.boxed (by omega) hJ.br, ?_, ?_⟩
            · refine Rec.set_other ?_ (p := ⟨K + 1, 0, none⟩) (by simp) _
              have := (hJ.last.set 0 (.int .u64 xv)).set 1 (.int .i64 j)
              simpa using this
            · have h5 := (hk1.boxed (by omega) hJ.cnt).set (.int .i64 ((p : Int) + 1))
              simp only [List.length_append, List.length_cons, List.length_nil, ep]
              exact h5)
          have e1 : IntKind.i64.wrap ((p : Int) + 1) = (p : Int) + 1 := by rw [IntKind.wrap_i64]; omega
          have d0 : decide ((j : Int) < 0) = false := by simp
          have d1 : decide ((k : Int) ≤ j) = false := by simp; omega
          have d1' : decide (k ≤ j) = false := by simp; omega
          clear hJ htk hrec hcw ex1 elv eli ep HSEQ hKc
          by_cases hp0 : 0 < p
          · obtain ⟨n1, n2⟩ := hnx hp0
            have d2 : decide ((p : Int) > 0) = true := by simp; omega
            have d2' : decide (0 < p) = true := by simp; omega
            have d3 : decide (xv < lv) = false := by simp; omega
            by_cases he : xv = lv
            · have d4 : (xv == lv) = true := by simp [he]
              have d5 : decide ((j : Int) ≤ li) = false := by have := n2 he; simp; omega
              have HE := hid he
              clear he hnx n1 n2
              gi_wp2_with fail
              refine wpIn_region_pastR (by kernel_rfl) (by kernel_rfl) (by kernel_rfl) ?_
              repeat (gi_big_quiet_step ((fail)))
              refine wpQuietIn_nil ?_
              rintro _ ⟨xq, rfl⟩
              gi_wp2_with fail
              obtain ⟨z1, z2⟩ := HF.out _ rfl
              exact ⟨z1.far ((World.below_past _ xq).mono z1.size), z2.ks (X := fun _ => False) (KS.of_below (World.below_past _ xq)) (fun _ h => h.elim)⟩
            · have d4 : (xv == lv) = false := by simp [he]
              have HE := hid he
              clear he hnx n1 n2
              gi_wp2_with fail
              refine wpIn_region_pastR (by kernel_rfl) (by kernel_rfl) (by kernel_rfl) ?_
              repeat (gi_big_quiet_step ((fail)))
              refine wpQuietIn_nil ?_
              rintro _ ⟨xq, rfl⟩
              gi_wp2_with fail
              obtain ⟨z1, z2⟩ := HF.out _ rfl
              exact ⟨z1.far ((World.below_past _ xq).mono z1.size), z2.ks (X := fun _ => False) (KS.of_below (World.below_past _ xq)) (fun _ h => h.elim)⟩
          · obtain rfl : p = 0 := by omega
            clear hnx
            gi_wp2_with fail
            refine wpIn_region_pastR (by kernel_rfl) (by kernel_rfl) (by kernel_rfl) ?_
            repeat (gi_big_quiet_step ((fail)))
            refine wpQuietIn_nil ?_
            rintro _ ⟨xq, rfl⟩
            gi_wp2_with fail
            obtain ⟨z1, z2⟩ := HF.out _ rfl
            exact ⟨z1.far ((World.below_past _ xq).mono z1.size), z2.ks (X := fun _ => False) (KS.of_below (World.below_past _ xq)) (fun _ h => h.elim)⟩
        case stop =>
          rintro _ _ _ _ _ _ h
          exact h.elim
        case done =>
          rintro D xs W hD ⟨L, htk, hL, hPW, hFW⟩ hJ hKD
          have hmem : ∀ y ∈ its l k, y.v ≤ 18446744073709551615 := fun y hy => by
            obtain ⟨j, hj, rfl⟩ := its_mem hy
            have h1 := HUU.out (atL l j) (by unfold atL; rw [List.getElem?_eq_getElem (by rw [EN.out]; exact hj)]; exact List.getElem_mem _)
            show atL l j ≤ _
            have := h1.2
            omega
          obtain ⟨hxs, rfl⟩ := took_all htk hL hmem
          rw [its_length] at hxs
          rw [hxs] at hJ
          obtain ⟨lv, elv⟩ : ∃ lv, (lastK xs).1 = lv := ⟨_, rfl⟩
          obtain ⟨li, eli⟩ : ∃ li, (lastK xs).2 = li := ⟨_, rfl⟩
          rw [elv, eli] at hJ
          have HJ := hid hJ
          have HPW := hid hPW
          have HKD := hid hKD
          have HFW := hid hFW
          have HD := hid hD
          clear hJ hPW hKD htk hL hFW hmem elv eli HSEQ hxs
          go_wp2_with (first | (go_at_call 10; refine (HpI.Pop_nil _).mono ?_; rintro _ _ ⟨rfl, y1, rfl⟩) | (go_at_call 16; refine (HpI.Peek_nil _).mono ?_; rintro _ _ ⟨rfl, y2, rfl⟩) | (go_at_call 13; refine (HpI.Remove_nil _ _).mono ?_; rintro _ _ ⟨rfl, y3, rfl⟩))
          obtain ⟨V7, eV7⟩ : ∃ V7, V7 = ((((((W.past y1).alloc (.cells #[.int .u64 0, .int .i64 0] 30)).past y2).alloc (.cells #[.int .u64 0, .int .i64 0] 30)).past y3).alloc (.cells #[.int .u64 0, .int .i64 0] 30)) := ⟨_, rfl⟩
          have hv7 : Below W.heap.size W V7 := by
            rw [eV7]
            (repeat (first | exact Below.refl _ _ | refine RowKit.Below.past ?_ _ | refine RowKit.Below.alloc' ?_ _ | refine RowKit.Below.drew' ?_ | refine RowKit.Below.drewN' ?_ _ | refine RowKit.Below.setCell' ?_ (by simp [go_sem]) _))
          rw [← eV7]
          refine (HpI.Due_any none 18446744073709551615 V7).mono ?_
          rintro _ V8 ⟨rfl, hv8', hs8, hx8, -⟩
          have hv8 : Below W.heap.size W V8 := hv7.trans (hv8'.mono hv7.size)
          have HV8 := hid hv8
          have HV7 := hid hv7
          clear eV7 hv7 hv8 hv8' hs8
          go_wp2_with fail
          refine (wpIn_wide (n := 5)).1 ?_
          refine wpIn_rangeFunc_E (α := Empty) rfl (by omega) (gf := 36) (lb := #[.pointer (some ⟨V7.heap.size, 0, none⟩), .pointer (some ⟨V7.heap.size + 1, 0, none⟩)]) rfl trivial (enters_of Try.func36 (by kernel_rfl) rfl) (HpI.due_nil (5 - 1) (by omega) V8 V7.heap.size (V7.heap.size + 1) hx8) (fun _ h => h.elim) (KS.refl _ _) (fun x => x.elim)
            (fun _ V => Below V8.heap.size V8 V) (fun _ _ _ => False) (fun _ _ _ h hb => h.trans hb) (fun _ _ _ _ h _ => h.elim) (Below.refl _ _) (fun x => x.elim) ?_ ?_ ?_ ?_
          · intro lq x; exact x.elim
          · intro lq pre x; exact x.elim
          · intro D2 xs2 V hD2 hS2 hBl hKD2
            have hBV := HV8.out.trans (hBl.mono HV8.out.size)
            have hJV := HJ.out.ks (X := fun _ => False) (KS.of_below hBV) (fun _ h => h.elim)
            have hPV := HPW.out.far hBV
            have q1 := hJV.bl.cell
            have q4 := hJV.cnt.cell
            have q2 := hJV.br.cell
            have f2 := hJV.br.frozen
            have l2 := hJV.br.lt
            have hKDV : V.heap[D]? = some (.deferred (some [])) := (hBV.block _ (Array.getElem?_eq_some_iff.1 HKD.out).1).trans HKD.out
            have hDD : D < D2 := by have := (Array.getElem?_eq_some_iff.1 HKD.out).1; have := HV8.out.size; omega
            have hDw : w.heap.size + 1 < D := by have := HD.out; have := HSZ.out; have := HKW.out; omega
            have HPV := hid hPV
            have HJV := hid hJV
            have HKDV := hid hKDV
            have HKD2 := hid hKD2
            have HDD := hid (And.intro hDD hDw)
            clear hBV hJV hPV hKDV hKD2 hDD hDw hBl hx8
            go_wp2_with (first | (go_at_call 23; refine (Len_any HPV.out).mono ?_; rintro _ w9 ⟨rfl, h9⟩; rw [h9]; clear h9 w9) | (go_at_call 8; refine (HpI.Push_nil _ _ _ _).mono ?_; rintro _ _ ⟨rfl, y4, rfl⟩) | (go_at_call 15; refine (HpI.Move_nil _ _ _).mono ?_; rintro _ _ ⟨rfl, y5, rfl⟩) | (go_at_call 18; refine (HpI.Len_nil _).mono ?_; rintro _ _ ⟨rfl, y6, rfl⟩))
            obtain ⟨h12, h13⟩ := HDD.out
            obtain ⟨V9, eV9⟩ : ∃ V9, V9 = (V.setCell ⟨w.heap.size + 1, 0, none⟩ (.bool true)).past ((y4.and y5).and y6) := ⟨_, rfl⟩
            have hb9 : Below w.heap.size w V9 := by
              rw [eV9]
              exact (HJV.out.below.setCell (p := ⟨w.heap.size + 1, 0, none⟩) (by show _ ≤ w.heap.size + 1; omega) _).trans ((World.below_past _ _).mono (by have := HJV.out.below.size; simp [World.setCell]; omega))
            have k1 : ∀ q, q < V.heap.size → q ≠ w.heap.size + 1 → V9.heap[q]? = V.heap[q]? := fun q hq hne => by
              rw [eV9]
              exact (World.block_past (by simpa [World.setCell] using hq)).trans (heap_setCell_other _ _ _ _ hne)
            have b9 : Boxed V9 (w.heap.size + 1) 4 (.bool true) := by
              rw [eV9]
              exact (World.block_past (by simpa [World.setCell] using l2)).trans (HJV.out.br.set _)
            have z1 : V9.heap[D]? = some (.deferred (some [])) := (k1 D (Array.getElem?_eq_some_iff.1 HKDV.out).1 (by omega)).trans HKDV.out
            have z2 : V9.heap[D2]? = some (.deferred (some [])) := (k1 D2 (Array.getElem?_eq_some_iff.1 HKD2.out).1 (by omega)).trans HKD2.out
            rw [← eV9]
            refine ⟨by simp, .inl ⟨_, _, rfl, run_takeDeferred z2, ?_⟩⟩
            have z3 : (V9.putObj D2 (.deferred none)).heap[D]? = some (.deferred (some [])) := (World.putObj_heap_other (by omega)).trans z1
            have b10 : Boxed (V9.putObj D2 (.deferred none)) (w.heap.size + 1) 4 (.bool true) := (World.putObj_heap_other (by omega)).trans b9
            have hb10 : Below w.heap.size w (V9.putObj D2 (.deferred none)) := below_putObj hb9 (by omega) _
            refine ⟨by simp, .inl ⟨_, _, rfl, run_takeDeferred z3, ?_⟩⟩
            have b11 : Boxed ((V9.putObj D2 (.deferred none)).putObj D (.deferred none)) (w.heap.size + 1) 4 (.bool true) := (World.putObj_heap_other (by omega)).trans b10
            have q11 := b11.cell
            refine ⟨.bool true, by simp [results, Try.results4, go_sem, q11], Gives.mk rfl ?_⟩
            exact below_putObj hb10 (by omega) _
          · rintro _ _ _ _ _ _ h; exact h.elim
theorem cs_u64s : Try.prog.cellsOf 28 = 1 := by kernel_rfl
theorem heapSorts_own : ownKnob Try.prog.godebug = none := by kernel_rfl
theorem heapSorts_laidOut : laidOutB Try.prog = true := by kernel_rfl
theorem heapSorts_types : ∀ t ∈ Try.f4.params.toList, Try.prog.readableRec t = true ∧ t < Try.prog.types.size := by
  rw [Try.params4]
  intro t ht
  simp only [List.mem_cons, List.not_mem_nil, or_false] at ht
  rcases ht with rfl
  · exact ⟨by kernel_rfl, of_decide_eq_true (by kernel_rfl)⟩
set_option maxRecDepth 100000 in
theorem heapSorts_lifted (os : Os) (started : os.Started) (H : Type) (enc : TypeId × Value → H) :
    ReturnsInHanded {} Try.checked os 4 .any (Rows.heapSortsSpec.pre6 enc Try.prog Try.f4 Rows.heapSortsRow.domain false) (Rows.heapSortsSpec.post enc Try.prog Try.f4 false true false false) := by
  refine returnsInHanded_of_change (C := Try.checked) heapSorts_own started (by kernel_rfl) Try.func4
    (ChangeSpec.witness6 (enc := enc) (C := Try.checked) false ⟨#[], #[.slice none 0 0], []⟩ 8 (by kernel_rfl) (by kernel_rfl) (by kernel_rfl) (by kernel_rfl)) ?_
  intro W base args ds gs before hval0 hW hcnd _
  have hval : ∀ (j : Nat) t v, Try.f4.params[j]? = some t → args[j]? = some v → Value.okWide Try.prog W .any base t v := hval0
  have hW' := hW
  obtain ⟨p, q, hA0, hV, hpq, hfz, hnd⟩ := hW
  have hA : DataW.TrodAll enc Try.prog W 0 (fun _ => true) true Try.f4.params.toList args.toList ds p := hA0
  rw [Try.params4] at hA hval
  obtain ⟨v0, vs0, d0, ds0, p0, q0, hargs, rfl, rfl, h0, r0⟩ := trodAll_cons hA
  obtain ⟨rfl, rfl, rfl⟩ := trodAll_nil r0
  obtain rfl : args = #[v0] := by cases args; simp_all
  have k0 := hval 0 51 v0 rfl rfl
  clear hA0 hval0 hval hcnd hfz hnd hpq hV hargs r0
  suffices hs : Calls Try.prog 4 #[v0] W (Gives (.bool true) W) from hs.mono fun e W' ⟨he, x, hx⟩ => ⟨_, he, law_post heapSorts_laidOut hW' rfl rfl (by kernel_rfl) (by first | exact Try.underlying4 | rfl) heapSorts_types (hx ▸ W.below_past x)⟩
  clear hW'
  obtain ⟨A, ca, l, rfl, ha, hK, hl⟩ := rd_ints_row (rd_slice Try.underlying51 k0 h0) Try.underlying51 Try.underlying28 cs_u64s (K := U64) (fun _ h => u64_of h)
  exact HeapSorts_any A ca _ l rfl hl hK W ha
theorem heapSorts_holds : Rows.HeapSortsSaid :=
  OpenClaim.holds_of_wide 4 Try.f4 rfl rfl rfl rfl rfl rfl rfl ⟨rfl, rfl, rfl, rfl, rfl⟩ rfl rfl rfl rfl rfl (by kernel_rfl) Try.func4 (by kernel_rfl)
    (of_decide_eq_true (by kernel_rfl)) (by unfold Func.isWrapper; first | (rw [if_pos (by decide +kernel)]; kernel_rfl) | (rw [if_neg (by decide +kernel)]; exact ⟨rfl, rfl⟩))
    (fun os started H enc _ => heapSorts_lifted os started H enc)
end Go.Proofs.Ytcbdghjakdbedaa
