/-
  Layer 37's StrideOrder: the turns without an end begin with the first ones, and may be left and gone over anew. No condition.
-/
import Derived.Test.YtjhjkchcjpijaaaRefF
import Derived.Test.YtjhjkchcjpijaaaAwake
import Derived.Test.YtjhjkchcjpijaaaPastRd
namespace Go.Proofs.Ytjhjkchcjpijaaa
open Go Go.RowKit Go.Shelf Go.ChangeShapes Go.WideShapes Go.ChangeAt HpI
attribute [local go_sem] Oper.semAt_some
/-- Between two rounds of the first loop. -/
structure OrI (w3 : World) (K : Nat) (p : Nat) (U : World) : Prop where
  keep : KS (fun q => q = K ∨ w3.heap.size ≤ q) w3 U
  bk : Boxed U K 3 (.int .i64 p)
theorem OrI.far {w3 : World} {K p : Nat} {X : Nat → Prop} {A U : World} (h : OrI w3 K p A) (hK : K < w3.heap.size) (hk : KS X A U) (hX : ∀ q, X q → w3.heap.size ≤ q) : OrI w3 K p U :=
  ⟨h.keep.trans (hk.mono fun q hq => .inr (hX q hq)), hk.boxed (fun hx => by have := hX _ hx; omega) h.bk⟩
theorem OrI.row {w3 U : World} {K p B n : Nat} {A : Option Addr} {c : Nat} {xs : List Value} (h : OrI w3 K p U) (ho : w3.ownsRow B 3 1 (.slice A n c) n xs) (hB : ∀ q, (Value.slice A n c).ownBlock = some q → q < K) : U.ownsRow B 3 1 (.slice A n c) n xs :=
  own_kept (X := fun q => q = K ∨ w3.heap.size ≤ q) ho h.keep.block (fun q hq hx => by
    have h1 := hB q hq
    have h2 := (ho.lt q hq).2
    rcases hx with rfl | hx <;> omega)
theorem firstF_get {l : List Int} {t : Int} {k : Nat} (h : k < (firstF l t).length) : (firstF l t)[k]? = some (turnF (bringW l) k : Int) := by
  unfold firstF at h ⊢
  split at h
  · simp at h
  · rename_i hl
    rw [if_neg hl]
    rw [turns_length] at h
    simp [turnsF, h]
theorem firstF_len {l : List Int} {y : Int} (hy : 0 ≤ y ∧ y ≤ 255) : (l = [] ∧ (firstF l y).length = 0) ∨ (l ≠ [] ∧ (firstF l y).length = y.toNat) := by
  unfold firstF
  by_cases h : l = []
  · exact .inl ⟨h, by rw [if_pos h]; rfl⟩
  · refine .inr ⟨h, ?_⟩
    rw [if_neg h, turns_length]
    unfold clampN
    omega
theorem turns_last {W pre : List Int} {x : Int} (h : pre ++ [x] = turnsF W (pre ++ [x]).length) : x = (turnF W pre.length : Int) := by
  rw [List.length_append, List.length_singleton, turns_succ] at h
  obtain ⟨_, h2⟩ := List.append_inj' h rfl
  injection h2
set_option maxRecDepth 100000 in
set_option maxHeartbeats 8000000 in
theorem StrideOrder_any (A : Option Addr) (ca n : Nat) (l : List Int) (en : l.length = n) (hca : n ≤ ca) (hmx : n ≤ maxLen) (y : Int) (hy : 0 ≤ y ∧ y ≤ 255) (w : World) (hc : Cells w A (i64s l)) :
    Calls Try.prog 3 #[.slice A n ca, .int .u8 y] w (Gives (.bool true) w) := by
  have AWK := hid awake_any
  obtain ⟨w1, ew1⟩ : ∃ w1, w1 = (w.alloc (.cells #[.int .u8 y] 5)).alloc (.cells #[.bool false] 4) := ⟨_, rfl⟩
  have hb1 : Below w.heap.size w w1 := by rw [ew1]; exact ((Below.refl _ w).alloc (Nat.le_refl _) _).alloc (by simp) _
  have bY1 : Boxed w1 w.heap.size 5 (.int .u8 y) := by rw [ew1]; exact (Boxed.new w _ _).alloc _
  have bR1 : Boxed w1 (w.heap.size + 1) 4 (.bool false) := by
    rw [ew1]
    have := Boxed.new (w.alloc (.cells #[.int .u8 y] 5)) 4 (.bool false)
    rwa [World.size_alloc] at this
  have hs1 : w1.heap.size = w.heap.size + 2 := by rw [ew1]; simp
  have EW1 := hid ew1
  by_cases h20 : 20 < n
  · clear ew1 en hc hb1 bY1 bR1 hs1 EW1
    go_enter Try.func3, Try.ntmps3
    go_wp2_with (go_at_call 6; refine (AWK.out _).mono ?_; rintro _ _ ⟨rfl, x1, rfl⟩)
    refine bodyPost_ret (v := .bool true) ?_ rfl ?_
    · simp [results, Try.results3, go_sem]
    · refine Gives.mk (rfl) ?_
      (repeat (first | exact Below.refl _ _ | refine RowKit.Below.past ?_ _ | refine RowKit.Below.alloc' ?_ _ | refine RowKit.Below.drew' ?_ | refine RowKit.Below.drewN' ?_ _ | refine RowKit.Below.setCell' ?_ (by simp [go_sem]) _))
  · have hn : n ≤ 20 := by omega
    have hlen := firstF_len (l := l) hy
    have HGET := hid (fun k (h : k < (firstF l y).length) => firstF_get h)
    obtain ⟨ts, ets⟩ : ∃ ts, firstF l y = ts := ⟨_, rfl⟩
    have hRF : ∀ w', Cells w' A (i64s l) → Calls Try.prog 7 #[.slice A n ca, .int .i64 y] w' (GivesOwn 3 1 ts.length (i64s ts) w') := fun w' h => by
      have := RFirst_any A n ca l en hmx w' h y
      rwa [ets] at this
    obtain ⟨N, eN⟩ : ∃ N, ts.length = N := ⟨_, rfl⟩
    rw [ets, eN] at hlen HGET
    rw [eN] at hRF
    have ETL := hid eN
    have HRF := hid hRF
    have HLEN := hid hlen
    have HIN := hid (And.intro en (And.intro hca hmx))
    have HC := hid hc
    have HB1 := hid hb1
    have HBX := hid (And.intro bY1 bR1)
    have q1 := bY1.cell
    have e0 : IntKind.i64.wrap y = y := by rw [IntKind.wrap_i64]; omega
    clear ew1 en hc hb1 bY1 bR1 hRF hlen ets eN hca hmx h20
    refine (callsIn_wide (n := 5)).1 ?_
    refine callsIn_of_wp_marks Try.func3 rfl trivial ?_ rfl
    refine wpIn_wide.2 ?_
    simp only [Try.ntmps3, List.size_toArray, List.length_cons, List.length_nil, Nat.reduceAdd, Nat.reduceSub, Array.replicate_succ, Array.replicate_zero, List.push_toArray, List.append_toArray, List.nil_append, List.cons_append]
    go_upto_region 5 with (go_at_call 6; rw [← EW1.out]; refine (AWK.out _).mono ?_; rintro _ _ ⟨rfl, x1, rfl⟩)
    obtain ⟨w2, ew2⟩ : ∃ w2, w2 = w1.past x1 := ⟨_, rfl⟩
    have hb2 : Below w1.heap.size w1 w2 := by rw [ew2]; exact w1.below_past x1
    rw [← ew2]
    have q1 := below_cell hb2 (Nat.le_refl _) _ _ q1
    have hb02 := HB1.out.trans (hb2.mono HB1.out.size)
    have HRF2 := hid (HRF.out w2 (HC.out.below hb02))
    clear ew2 AWK HRF
    go_upto_region 7 with (go_at_call 7; refine HRF2.out.mono ?_; rintro _ w3 ⟨A1, c1, rfl, hb3, ho3⟩)
    obtain ⟨K, eK⟩ : ∃ K, w3.heap.size = K := ⟨_, rfl⟩
    obtain ⟨w4, ew4⟩ : ∃ w4, w4 = (w3.alloc (.cells #[.slice A1 N c1] 22)).alloc (.cells #[.int .i64 0] 3) := ⟨_, rfl⟩
    have hb4 : Below w3.heap.size w3 w4 := by rw [ew4]; exact ((Below.refl _ w3).alloc (Nat.le_refl _) _).alloc (by simp) _
    have hs4 : w4.heap.size = K + 2 := by rw [ew4]; simp [eK]
    have bW4 : Boxed w4 K 22 (.slice A1 N c1) := by rw [ew4, ← eK]; exact (Boxed.new w3 _ _).alloc _
    have bK4 : Boxed w4 (K + 1) 3 (.int .i64 0) := by
      rw [ew4, ← eK]
      have := Boxed.new (w3.alloc (.cells #[.slice A1 N c1] 22)) 3 (.int .i64 0)
      rwa [World.size_alloc] at this
    have hB4 : Below w.heap.size w w4 := hb02.trans ((hb3.mono hb02.size).trans (hb4.mono (by have := hb3.size; have := hb02.size; omega)))
    have hK0 : w.heap.size + 2 ≤ w3.heap.size := by have := hb3.size; have := hb2.size; omega
    have hrg : ∀ q, (Value.slice A1 N c1).ownBlock = some q → q < K := fun q hq => by have := (ho3.lt q hq).2; omega
    have ho4 := own_below ho3 hb4 (Nat.le_refl _)
    have hk14 : ∀ q, q < w1.heap.size → w4.heap[q]? = w1.heap[q]? := fun q hq => ((hb4.block q (by omega)).trans (hb3.block q (by have := hb2.size; omega))).trans (hb2.block q hq)
    have bY4 : Boxed w4 w.heap.size 5 (.int .u8 y) := (hk14 _ (by omega)).trans HBX.out.1
    have bR4 : Boxed w4 (w.heap.size + 1) 4 (.bool false) := (hk14 _ (by omega)).trans HBX.out.2
    rw [← ew4, eK]
    rw [eK] at hK0
    clear ew4 hb4 hb3 ho3 hb02 hb2 hk14 HRF2 HBX EW1 HB1 hs1 q1 eK
    go_wp2_with fail
    refine (Order_any A n ca w4).mono ?_
    rintro _ w5 ⟨rfl, hb5, hs5, hx5⟩
    rw [hs4] at hs5 hx5 ⊢
    have HB5 := hid (hB4.trans (hb5.mono hB4.size))
    have HQ5 := hid (And.intro ((hb5.block _ (by omega)).trans bY4 : Boxed w5 w.heap.size 5 (.int .u8 y)) (And.intro ((hb5.block _ (by omega)).trans bR4 : Boxed w5 (w.heap.size + 1) 4 (.bool false)) ((hb5.block _ (by omega)).trans bW4 : Boxed w5 K 22 (.slice A1 N c1))))
    have HO5 := hid (And.intro (own_below ho4 hb5 (by omega)) hrg)
    have HI0 : Hid (OrI w5 (K + 1) 0 w5) := hid ⟨KS.refl _ _, (hb5.block _ (by omega)).trans bK4⟩
    have hTw : ∀ q, (fun q => q = K + 1) q → q < w5.heap.size := by rintro q rfl; omega
    have hseq := order_seq (5 - 1) (by omega) w5 (K + 2) A n ca l HIN.out.1 HIN.out.2.1 HIN.out.2.2 (fun q => q = K + 1) hx5 (by intro h; omega) hTw (fun W hk => HC.out.below (HB5.out.trans (hk.under (by rintro q rfl; omega) (by omega)))) (N + 1)
    have HSEQ := hid hseq
    have hK3 : K + 3 ≤ w5.heap.size := by omega
    clear hseq hx5 hb5 hB4 bW4 bK4 bY4 bR4 ho4 hrg hs4 hs5
    go_wp2_with fail
    refine (wpIn_wide (n := 5)).1 ?_
    apply wpIn_rangeFunc_J rfl (by omega) (gf := 18) (lb := #[.pointer (some ⟨K + 2, 0, none⟩)]) rfl trivial (enters_of Try.func18 (by kernel_rfl) rfl) HSEQ.out hTw (KS.refl _ _) (fun _ => rfl)
      (fun M pre U => (∀ q, M q → w5.heap.size + 2 ≤ q) ∧ OrI w5 (K + 1) pre.length U ∧ pre.length ≤ N)
      (fun c M pre U => c = .exit 0 ∧ (∀ q, M q → w5.heap.size + 2 ≤ q) ∧ OrI w5 (K + 1) N U)
      (fun M M' s A' U hr hg h hk => ⟨hr, h.2.1.far (by omega) hk (by rintro q (hq | hq | hq); have := h.1 q hq; omega; omega; omega), h.2.2⟩)
      (fun c M M' s A' U hr hg h hk => ⟨h.1, hr, h.2.2.far (by omega) hk (by rintro q (hq | hq | hq); have := h.2.1 q hq; omega; omega; omega)⟩)
      (fun M s A' h => by have := h.2.2; omega)
      (fun M U hm hb hs => ⟨fun q hq => (hm q hq).1, HI0.out.far (X := fun _ => False) (by omega) (KS.of_below hb) (fun _ h => h.elim), by simp⟩)
      _ ?assign ?body ?done ?stop
    case assign =>
      intro lq x W K' hK
      simp only [encT]
      gi_wp2
      exact hK
    case body =>
      rintro lq M pre x U hM hsU ⟨hMs, hJ, hle⟩ ⟨hne, hpre⟩
      have hx := turns_last hpre
      have hq5 := HQ5.out
      have bW9 : Boxed U K 22 (.slice A1 N c1) := hJ.keep.boxed (by omega) hq5.2.2
      have ho9 := hJ.row HO5.out.1 (fun q hq => by have := HO5.out.2 q hq; omega)
      have bk := hJ.bk
      have qw := bW9.cell
      obtain ⟨p, ep⟩ : ∃ p, pre.length = p := ⟨_, rfl⟩
      have e1 : (pre ++ [x]).length = p + 1 := by rw [List.length_append, ep]; rfl
      rw [ep] at hx hJ bk hle
      have qk := bk.cell
      have fk := bk.frozen
      have lk := bk.lt
      have HJ := hid hJ
      have HMS := hid hMs
      have HM := hid hM
      have HE1 := hid e1
      clear hpre hJ hq5 hMs hM e1 ep HSEQ HI0 bW9
      by_cases hge : p = N
      · subst hge
        clear ho9 hx
        gi_wp2_with fail
        exact ⟨KS.refl _ _, rfl, HMS.out, HJ.out⟩
      · have hN0 : 0 < N := by omega
        have h0 := HGET.out p (by omega)
        rw [← hx] at h0
        obtain ⟨g9, cg, eg, -⟩ := own_succ ho9 hN0
        injection eg with eA e1 ec
        clear e1 ec
        subst eA
        have q0 : U.cell? ⟨g9, p, none⟩ = some (.int .i64 x) := by
          rw [ho9.cellAt p (by omega)]
          simp [i64s, h0]
        have hpn : ((p : Int) == (N : Int)) = false := by simp; omega
        have hpn' : (p == N) = false := by simp; omega
        have e2 : IntKind.i64.wrap ((p : Int) + 1) = (p : Int) + 1 := by rw [IntKind.wrap_i64]; have := HLEN.out; omega
        have HF := hid (show KS (fun q => q = K + 1) U (U.setCell ⟨K + 1, 0, none⟩ (.int .i64 ((p : Int) + 1))) ∧ OrI w5 (K + 1) (p + 1) (U.setCell ⟨K + 1, 0, none⟩ (.int .i64 ((p : Int) + 1))) from
          ⟨(KS.refl (fun q => q = K + 1) U).setCell (b := K + 1) rfl 0 _, HJ.out.keep.setCell (b := K + 1) (.inl rfl) 0 _, bk.set _⟩)
        clear ho9 hx h0 bk
        gi_wp2_with fail
        refine ⟨HF.out.1.mono (fun q hq => .inl hq), HMS.out, ?_, ?_⟩
        · rw [HE1.out]; exact HF.out.2
        · rw [HE1.out]; omega
    case' stop =>
      rintro D c M pre U hD hSp ⟨hc, hMs, hJ⟩ hKD
      subst hc hD
      refine wpIn_wide.2 ?_
    case' done =>
      rintro D M pre U hD hS ⟨hMs, hJ0, hle⟩ hKD
      subst hD
      have hJ : OrI w5 (K + 1) N U := by
        have h1 : N = 0 := by rcases HLEN.out with ⟨_, h⟩ | ⟨h, _⟩; exact h; exact absurd hS.2 h
        have h2 : pre.length = N := by rw [hS.1, h1]; rfl
        rw [← h2]; exact hJ0
      clear hJ0 hle
    case stop =>
      have hKU := hJ.keep
      have bK9 := hJ.bk
      have bN9 : Boxed U w.heap.size 5 (.int .u8 y) := hKU.boxed (by omega) HQ5.out.1
      have bR9 : Boxed U (w.heap.size + 1) 4 (.bool false) := hKU.boxed (by omega) HQ5.out.2.1
      have bW9 : Boxed U K 22 (.slice A1 N c1) := hKU.boxed (by omega) HQ5.out.2.2
      have ho9 := hJ.row HO5.out.1 (fun q hq => by have := HO5.out.2 q hq; omega)
      have hC9 : Cells U A (i64s l) := HC.out.below (HB5.out.trans (hKU.under (fun q hq => by omega) HB5.out.size))
      have hB9 : Below w.heap.size w U := HB5.out.trans (hKU.under (fun q hq => by omega) HB5.out.size)
      have hsz9 : w5.heap.size ≤ U.heap.size := hKU.size
      have HU9 := hid (And.intro bK9 (And.intro bN9 (And.intro bR9 bW9)))
      have HO9 := hid ho9
      have HC9 := hid hC9
      have HB9 := hid hB9
      have HKD := hid hKD
      have HJ9 := hid hJ
      clear hKU bK9 bN9 bR9 bW9 ho9 hC9 hB9 hJ hKD HSEQ
      go_wp2_with fail
      refine (Order_any A n ca U).mono ?_
      rintro _ w6 ⟨rfl, hb6, hs6, hx6⟩
      have hT2 : ∀ q, (fun q => q = w.heap.size + 1) q → q < w6.heap.size := by rintro q rfl; omega
      have hseq2 := order_seq (5 - 1) (by omega) w6 U.heap.size A n ca l HIN.out.1 HIN.out.2.1 HIN.out.2.2 (fun q => q = w.heap.size + 1) hx6 (by intro h; omega) hT2 (fun W hk => HC.out.below ((HB9.out.trans (hb6.mono (by omega))).trans (hk.under (by rintro q rfl; omega) (by omega)))) 1
      have HSEQ2 := hid hseq2
      have k9 : Boxed w6 (K + 1) 3 (.int .i64 N) := (hb6.block _ (by omega)).trans HU9.out.1
      have n9 : Boxed w6 w.heap.size 5 (.int .u8 y) := (hb6.block _ (by omega)).trans HU9.out.2.1
      have r9 : Boxed w6 (w.heap.size + 1) 4 (.bool false) := (hb6.block _ (by omega)).trans HU9.out.2.2.1
      have v9 : Boxed w6 K 22 (.slice A1 N c1) := (hb6.block _ (by omega)).trans HU9.out.2.2.2
      have o9 := own_below HO9.out hb6 (Nat.le_refl _)
      have HU6 := hid (And.intro k9 (And.intro n9 (And.intro r9 v9)))
      have HO6 := hid o9
      have HB6 := hid (HB9.out.trans (hb6.mono (by omega)))
      have HKD6 : Hid (w6.heap[w5.heap.size]? = some (.deferred (some []))) := hid ((hb6.block _ (by have := (Array.getElem?_eq_some_iff.1 HKD.out).1; omega)).trans HKD.out)
      have HD6 := hid (show w5.heap.size < w6.heap.size ∧ w.heap.size + 1 < w5.heap.size ∧ w.heap.size + 1 < w6.heap.size by have := (Array.getElem?_eq_some_iff.1 HKD.out).1; omega)
      clear hseq2 hx6 hb6 k9 n9 r9 v9 o9 hT2 hs6 hsz9
      go_wp2_with fail
      refine (wpIn_wide (n := 5)).1 ?_
      apply wpIn_rangeFunc_J rfl (by omega) (gf := 18) (lb := #[.pointer (some ⟨U.heap.size, 0, none⟩)]) rfl trivial (enters_of Try.func18 (by kernel_rfl) rfl) HSEQ2.out (by rintro q rfl; exact HD6.out.2.2) (KS.refl _ _) (fun _ => rfl)
        (fun M pre V => (∀ q, M q → w6.heap.size + 2 ≤ q) ∧ KS (fun q => w6.heap.size ≤ q) w6 V ∧ pre.length = 0)
        (fun c M pre V => c = .ret ∧ (∀ q, M q → w6.heap.size + 2 ≤ q) ∧ KS (fun q => q = w.heap.size + 1 ∨ w6.heap.size ≤ q) w6 V ∧ Boxed V (w.heap.size + 1) 4 (.bool true))
        (fun M M' s A' V hr hg h hk => ⟨hr, h.2.1.trans (hk.mono (by rintro q (hq | hq | hq); have := h.1 q hq; omega; omega; omega)), h.2.2⟩)
        (fun c M M' s A' V hr hg h hk => ⟨h.1, hr, h.2.2.1.trans (hk.mono (by rintro q (hq | hq | hq); have := h.2.1 q hq; exact .inr (by omega); exact .inr (by omega); exact .inr (by omega))), hk.boxed (by have := HD6.out.2.2; rintro (hq | hq | hq); have := h.2.1 _ hq; omega; omega; omega) h.2.2.2⟩)
        (fun M s A' h => by have := h.2.2; omega)
        (fun M V hm hb hs => ⟨fun q hq => (hm q hq).1, KS.of_below hb, rfl⟩)
        _ ?assign1 ?body1 ?done1 ?stop1
      case assign1 =>
        intro lq x W K hK
        simp only [encT]
        gi_wp2
        exact hK
      case body1 =>
        rintro lq M pre x V hM hsV ⟨hMs, hJ2, hp2⟩ ⟨hne, hpre⟩
        have hx := turns_last hpre
        rw [hp2] at hx
        have hk9 := hJ2.boxed (by have := HD6.out; omega) HU6.out.1
        have hn9 := hJ2.boxed (by have := HD6.out; omega) HU6.out.2.1
        have hr9 := hJ2.boxed (by have := HD6.out; omega) HU6.out.2.2.1
        have hv9 := hJ2.boxed (by have := HD6.out; omega) HU6.out.2.2.2
        have qk := hk9.cell
        have qn := hn9.cell
        have qr := hr9.cell
        have fr := hr9.frozen
        have lr := hr9.lt
        have qv := hv9.cell
        have HV := hid (show KS (fun q => q = w.heap.size + 1) V (V.setCell ⟨w.heap.size + 1, 0, none⟩ (.bool true)) ∧ KS (fun q => q = w.heap.size + 1 ∨ w6.heap.size ≤ q) w6 (V.setCell ⟨w.heap.size + 1, 0, none⟩ (.bool true)) ∧ Boxed (V.setCell ⟨w.heap.size + 1, 0, none⟩ (.bool true)) (w.heap.size + 1) 4 (.bool true) from
          ⟨(KS.refl (fun q => q = w.heap.size + 1) V).setCell (b := w.heap.size + 1) rfl 0 _, (hJ2.mono (fun q hq => .inr hq)).setCell (b := w.heap.size + 1) (.inl rfl) 0 _, hr9.set _⟩)
        by_cases hy0 : y = 0
        · subst hy0
          clear hJ2 hpre HSEQ2 hk9 hn9 hr9 hv9 hx hne
          gi_wp2_with fail
          exact ⟨HV.out.1.mono (fun q hq => .inl hq), rfl, hMs, HV.out.2⟩
        · have hN0 : 0 < N := by rcases HLEN.out with ⟨h1, _⟩ | ⟨_, h2⟩; exact absurd h1 hne; omega
          have h0 := HGET.out 0 hN0
          obtain ⟨g9, cg, eg, -⟩ := own_succ HO6.out hN0
          injection eg with eA e1 ec
          clear e1 ec
          subst eA
          have q0 : V.cell? ⟨g9, 0, none⟩ = some (.int .i64 x) := by
            rw [(own_kept (X := fun q => w6.heap.size ≤ q) HO6.out hJ2.block (fun q hq => by have := (HO6.out.lt q hq).2; omega)).cellAt 0 (by omega)]
            simp [i64s, h0, hx]
          have hyz : (y == 0) = false := by simp [hy0]
          clear hJ2 hpre HSEQ2 hk9 hn9 hr9 hv9 hx hne h0
          gi_wp2_with fail
          exact ⟨HV.out.1.mono (fun q hq => .inl hq), rfl, hMs, HV.out.2⟩
      case stop1 =>
        rintro D2 c M pre V hD2 hSp ⟨hc, hMs, hJ2, hb2⟩ hKD2
        subst hc hD2
        have hd6 := HD6.out
        obtain ⟨V9, eV9⟩ : ∃ V9, V9 = V := ⟨_, rfl⟩
        rw [← eV9] at hKD2 hb2 hJ2
        rw [← eV9]
        clear eV9
        have b9 := hb2
        have z2 := hKD2
        have z1 : V9.heap[w5.heap.size]? = some (.deferred (some [])) := (hJ2.block _ hd6.1 (by omega)).trans HKD6.out
        have hb9 : Below w.heap.size w V9 := HB6.out.trans (hJ2.under (by rintro q (rfl | hq); omega; omega) HB6.out.size)
        have z3 : (V9.putObj w6.heap.size (.deferred none)).heap[w5.heap.size]? = some (.deferred (some [])) := (World.putObj_heap_other (by omega)).trans z1
        have b10 : Boxed (V9.putObj w6.heap.size (.deferred none)) (w.heap.size + 1) 4 (.bool true) := (World.putObj_heap_other (by omega)).trans b9
        have hb10 : Below w.heap.size w (V9.putObj w6.heap.size (.deferred none)) := below_putObj hb9 (by omega) _
        have b11 : Boxed ((V9.putObj w6.heap.size (.deferred none)).putObj w5.heap.size (.deferred none)) (w.heap.size + 1) 4 (.bool true) := (World.putObj_heap_other (by omega)).trans b10
        have q11 := b11.cell
        have HZ := hid (And.intro z2 z3)
        have HBB := hid (below_putObj hb10 (show w.heap.size ≤ w5.heap.size by omega) (.deferred none))
        clear z1 z2 z3 b10 b11 hb10 b9 hb9
        clear hJ2 hb2 hKD2 HSEQ2
        refine wpIn_wide.2 ?_
        go_wp2_with fail
        refine ⟨by simp, .inl ⟨_, _, rfl, run_takeDeferred HZ.out.1, ?_⟩⟩
        refine ⟨by simp, .inl ⟨_, _, rfl, run_takeDeferred HZ.out.2, ?_⟩⟩
        exact ⟨.bool true, by simp [results, Try.results3, go_sem, q11], Gives.mk rfl HBB.out⟩
      case done1 =>
        rintro D2 M pre V hD2 hS2 ⟨hMs, hJ2, hp2⟩ hKD2
        subst hD2
        have hd6 := HD6.out
        obtain rfl : N = 0 := by rcases HLEN.out with ⟨_, h⟩ | ⟨h, _⟩; exact h; exact absurd hS2.2 h
        obtain rfl : n = 0 := by rw [← HIN.out.1, hS2.2]; rfl
        have hk9 := hJ2.boxed (by omega) HU6.out.1
        have hr9 := hJ2.boxed (by omega) HU6.out.2.2.1
        have qk := hk9.cell
        have qr := hr9.cell
        have fr := hr9.frozen
        have lr := hr9.lt
        obtain ⟨V9, eV9⟩ : ∃ V9, V9 = V.setCell ⟨w.heap.size + 1, 0, none⟩ (.bool true) := ⟨_, rfl⟩
        have b9 : Boxed V9 (w.heap.size + 1) 4 (.bool true) := by rw [eV9]; exact hr9.set _
        have hk2 : KS (fun q => q = w.heap.size + 1 ∨ w6.heap.size ≤ q) w6 V9 := by rw [eV9]; exact (hJ2.mono (fun q hq => .inr hq)).setCell (b := w.heap.size + 1) (.inl rfl) 0 _
        have z2 : V9.heap[w6.heap.size]? = some (.deferred (some [])) := by rw [eV9]; exact (heap_setCell_other _ _ _ _ (by simp; omega)).trans hKD2
        have z1 : V9.heap[w5.heap.size]? = some (.deferred (some [])) := (hk2.block _ hd6.1 (by omega)).trans HKD6.out
        have hb9 : Below w.heap.size w V9 := HB6.out.trans (hk2.under (by rintro q (rfl | hq); omega; omega) HB6.out.size)
        have z3 : (V9.putObj w6.heap.size (.deferred none)).heap[w5.heap.size]? = some (.deferred (some [])) := (World.putObj_heap_other (by omega)).trans z1
        have b10 : Boxed (V9.putObj w6.heap.size (.deferred none)) (w.heap.size + 1) 4 (.bool true) := (World.putObj_heap_other (by omega)).trans b9
        have hb10 : Below w.heap.size w (V9.putObj w6.heap.size (.deferred none)) := below_putObj hb9 (by omega) _
        have b11 : Boxed ((V9.putObj w6.heap.size (.deferred none)).putObj w5.heap.size (.deferred none)) (w.heap.size + 1) 4 (.bool true) := (World.putObj_heap_other (by omega)).trans b10
        have q11 := b11.cell
        have HZ := hid (And.intro z2 z3)
        have HBB := hid (below_putObj hb10 (show w.heap.size ≤ w5.heap.size by omega) (.deferred none))
        clear z1 z2 z3 b10 b11 hb10 b9 hb9
        have EV9 := hid eV9
        clear hJ2 hKD2 HSEQ2 hk2 hk9 hr9 eV9 hS2 hp2
        go_wp2_with fail
        rw [← EV9.out]
        refine ⟨by simp, .inl ⟨_, _, rfl, run_takeDeferred HZ.out.1, ?_⟩⟩
        refine ⟨by simp, .inl ⟨_, _, rfl, run_takeDeferred HZ.out.2, ?_⟩⟩
        exact ⟨.bool true, by simp [results, Try.results3, go_sem, q11], Gives.mk rfl HBB.out⟩
    case done =>
      have hKU := hJ.keep
      have bK9 := hJ.bk
      have bN9 : Boxed U w.heap.size 5 (.int .u8 y) := hKU.boxed (by omega) HQ5.out.1
      have bR9 : Boxed U (w.heap.size + 1) 4 (.bool false) := hKU.boxed (by omega) HQ5.out.2.1
      have bW9 : Boxed U K 22 (.slice A1 N c1) := hKU.boxed (by omega) HQ5.out.2.2
      have ho9 := hJ.row HO5.out.1 (fun q hq => by have := HO5.out.2 q hq; omega)
      have hC9 : Cells U A (i64s l) := HC.out.below (HB5.out.trans (hKU.under (fun q hq => by omega) HB5.out.size))
      have hB9 : Below w.heap.size w U := HB5.out.trans (hKU.under (fun q hq => by omega) HB5.out.size)
      have hsz9 : w5.heap.size ≤ U.heap.size := hKU.size
      have HU9 := hid (And.intro bK9 (And.intro bN9 (And.intro bR9 bW9)))
      have HO9 := hid ho9
      have HC9 := hid hC9
      have HB9 := hid hB9
      have HKD := hid hKD
      have HJ9 := hid hJ
      clear hKU bK9 bN9 bR9 bW9 ho9 hC9 hB9 hJ hKD HSEQ
      go_wp2_with fail
      refine (Order_any A n ca U).mono ?_
      rintro _ w6 ⟨rfl, hb6, hs6, hx6⟩
      have hT2 : ∀ q, (fun q => q = w.heap.size + 1) q → q < w6.heap.size := by rintro q rfl; omega
      have hseq2 := order_seq (5 - 1) (by omega) w6 U.heap.size A n ca l HIN.out.1 HIN.out.2.1 HIN.out.2.2 (fun q => q = w.heap.size + 1) hx6 (by intro h; omega) hT2 (fun W hk => HC.out.below ((HB9.out.trans (hb6.mono (by omega))).trans (hk.under (by rintro q rfl; omega) (by omega)))) 1
      have HSEQ2 := hid hseq2
      have k9 : Boxed w6 (K + 1) 3 (.int .i64 N) := (hb6.block _ (by omega)).trans HU9.out.1
      have n9 : Boxed w6 w.heap.size 5 (.int .u8 y) := (hb6.block _ (by omega)).trans HU9.out.2.1
      have r9 : Boxed w6 (w.heap.size + 1) 4 (.bool false) := (hb6.block _ (by omega)).trans HU9.out.2.2.1
      have v9 : Boxed w6 K 22 (.slice A1 N c1) := (hb6.block _ (by omega)).trans HU9.out.2.2.2
      have o9 := own_below HO9.out hb6 (Nat.le_refl _)
      have HU6 := hid (And.intro k9 (And.intro n9 (And.intro r9 v9)))
      have HO6 := hid o9
      have HB6 := hid (HB9.out.trans (hb6.mono (by omega)))
      have HKD6 : Hid (w6.heap[w5.heap.size]? = some (.deferred (some []))) := hid ((hb6.block _ (by have := (Array.getElem?_eq_some_iff.1 HKD.out).1; omega)).trans HKD.out)
      have HD6 := hid (show w5.heap.size < w6.heap.size ∧ w.heap.size + 1 < w5.heap.size ∧ w.heap.size + 1 < w6.heap.size by have := (Array.getElem?_eq_some_iff.1 HKD.out).1; omega)
      clear hseq2 hx6 hb6 k9 n9 r9 v9 o9 hT2 hs6 hsz9
      go_wp2_with fail
      refine (wpIn_wide (n := 5)).1 ?_
      apply wpIn_rangeFunc_J rfl (by omega) (gf := 18) (lb := #[.pointer (some ⟨U.heap.size, 0, none⟩)]) rfl trivial (enters_of Try.func18 (by kernel_rfl) rfl) HSEQ2.out (by rintro q rfl; exact HD6.out.2.2) (KS.refl _ _) (fun _ => rfl)
        (fun M pre V => (∀ q, M q → w6.heap.size + 2 ≤ q) ∧ KS (fun q => w6.heap.size ≤ q) w6 V ∧ pre.length = 0)
        (fun c M pre V => c = .ret ∧ (∀ q, M q → w6.heap.size + 2 ≤ q) ∧ KS (fun q => q = w.heap.size + 1 ∨ w6.heap.size ≤ q) w6 V ∧ Boxed V (w.heap.size + 1) 4 (.bool true))
        (fun M M' s A' V hr hg h hk => ⟨hr, h.2.1.trans (hk.mono (by rintro q (hq | hq | hq); have := h.1 q hq; omega; omega; omega)), h.2.2⟩)
        (fun c M M' s A' V hr hg h hk => ⟨h.1, hr, h.2.2.1.trans (hk.mono (by rintro q (hq | hq | hq); have := h.2.1 q hq; exact .inr (by omega); exact .inr (by omega); exact .inr (by omega))), hk.boxed (by have := HD6.out.2.2; rintro (hq | hq | hq); have := h.2.1 _ hq; omega; omega; omega) h.2.2.2⟩)
        (fun M s A' h => by have := h.2.2; omega)
        (fun M V hm hb hs => ⟨fun q hq => (hm q hq).1, KS.of_below hb, rfl⟩)
        _ ?assign2 ?body2 ?done2 ?stop2
      case assign2 =>
        intro lq x W K hK
        simp only [encT]
        gi_wp2
        exact hK
      case body2 =>
        rintro lq M pre x V hM hsV ⟨hMs, hJ2, hp2⟩ ⟨hne, hpre⟩
        have hx := turns_last hpre
        rw [hp2] at hx
        have hk9 := hJ2.boxed (by have := HD6.out; omega) HU6.out.1
        have hn9 := hJ2.boxed (by have := HD6.out; omega) HU6.out.2.1
        have hr9 := hJ2.boxed (by have := HD6.out; omega) HU6.out.2.2.1
        have hv9 := hJ2.boxed (by have := HD6.out; omega) HU6.out.2.2.2
        have qk := hk9.cell
        have qn := hn9.cell
        have qr := hr9.cell
        have fr := hr9.frozen
        have lr := hr9.lt
        have qv := hv9.cell
        have HV := hid (show KS (fun q => q = w.heap.size + 1) V (V.setCell ⟨w.heap.size + 1, 0, none⟩ (.bool true)) ∧ KS (fun q => q = w.heap.size + 1 ∨ w6.heap.size ≤ q) w6 (V.setCell ⟨w.heap.size + 1, 0, none⟩ (.bool true)) ∧ Boxed (V.setCell ⟨w.heap.size + 1, 0, none⟩ (.bool true)) (w.heap.size + 1) 4 (.bool true) from
          ⟨(KS.refl (fun q => q = w.heap.size + 1) V).setCell (b := w.heap.size + 1) rfl 0 _, (hJ2.mono (fun q hq => .inr hq)).setCell (b := w.heap.size + 1) (.inl rfl) 0 _, hr9.set _⟩)
        by_cases hy0 : y = 0
        · subst hy0
          clear hJ2 hpre HSEQ2 hk9 hn9 hr9 hv9 hx hne
          gi_wp2_with fail
          exact ⟨HV.out.1.mono (fun q hq => .inl hq), rfl, hMs, HV.out.2⟩
        · have hN0 : 0 < N := by rcases HLEN.out with ⟨h1, _⟩ | ⟨_, h2⟩; exact absurd h1 hne; omega
          have h0 := HGET.out 0 hN0
          obtain ⟨g9, cg, eg, -⟩ := own_succ HO6.out hN0
          injection eg with eA e1 ec
          clear e1 ec
          subst eA
          have q0 : V.cell? ⟨g9, 0, none⟩ = some (.int .i64 x) := by
            rw [(own_kept (X := fun q => w6.heap.size ≤ q) HO6.out hJ2.block (fun q hq => by have := (HO6.out.lt q hq).2; omega)).cellAt 0 (by omega)]
            simp [i64s, h0, hx]
          have hyz : (y == 0) = false := by simp [hy0]
          clear hJ2 hpre HSEQ2 hk9 hn9 hr9 hv9 hx hne h0
          gi_wp2_with fail
          exact ⟨HV.out.1.mono (fun q hq => .inl hq), rfl, hMs, HV.out.2⟩
      case stop2 =>
        rintro D2 c M pre V hD2 hSp ⟨hc, hMs, hJ2, hb2⟩ hKD2
        subst hc hD2
        have hd6 := HD6.out
        obtain ⟨V9, eV9⟩ : ∃ V9, V9 = V := ⟨_, rfl⟩
        rw [← eV9] at hKD2 hb2 hJ2
        rw [← eV9]
        clear eV9
        have b9 := hb2
        have z2 := hKD2
        have z1 : V9.heap[w5.heap.size]? = some (.deferred (some [])) := (hJ2.block _ hd6.1 (by omega)).trans HKD6.out
        have hb9 : Below w.heap.size w V9 := HB6.out.trans (hJ2.under (by rintro q (rfl | hq); omega; omega) HB6.out.size)
        have z3 : (V9.putObj w6.heap.size (.deferred none)).heap[w5.heap.size]? = some (.deferred (some [])) := (World.putObj_heap_other (by omega)).trans z1
        have b10 : Boxed (V9.putObj w6.heap.size (.deferred none)) (w.heap.size + 1) 4 (.bool true) := (World.putObj_heap_other (by omega)).trans b9
        have hb10 : Below w.heap.size w (V9.putObj w6.heap.size (.deferred none)) := below_putObj hb9 (by omega) _
        have b11 : Boxed ((V9.putObj w6.heap.size (.deferred none)).putObj w5.heap.size (.deferred none)) (w.heap.size + 1) 4 (.bool true) := (World.putObj_heap_other (by omega)).trans b10
        have q11 := b11.cell
        have HZ := hid (And.intro z2 z3)
        have HBB := hid (below_putObj hb10 (show w.heap.size ≤ w5.heap.size by omega) (.deferred none))
        clear z1 z2 z3 b10 b11 hb10 b9 hb9
        clear hJ2 hb2 hKD2 HSEQ2
        refine wpIn_wide.2 ?_
        go_wp2_with fail
        refine ⟨by simp, .inl ⟨_, _, rfl, run_takeDeferred HZ.out.1, ?_⟩⟩
        refine ⟨by simp, .inl ⟨_, _, rfl, run_takeDeferred HZ.out.2, ?_⟩⟩
        exact ⟨.bool true, by simp [results, Try.results3, go_sem, q11], Gives.mk rfl HBB.out⟩
      case done2 =>
        rintro D2 M pre V hD2 hS2 ⟨hMs, hJ2, hp2⟩ hKD2
        subst hD2
        have hd6 := HD6.out
        obtain rfl : N = 0 := by rcases HLEN.out with ⟨_, h⟩ | ⟨h, _⟩; exact h; exact absurd hS2.2 h
        obtain rfl : n = 0 := by rw [← HIN.out.1, hS2.2]; rfl
        have hk9 := hJ2.boxed (by omega) HU6.out.1
        have hr9 := hJ2.boxed (by omega) HU6.out.2.2.1
        have qk := hk9.cell
        have qr := hr9.cell
        have fr := hr9.frozen
        have lr := hr9.lt
        obtain ⟨V9, eV9⟩ : ∃ V9, V9 = V.setCell ⟨w.heap.size + 1, 0, none⟩ (.bool true) := ⟨_, rfl⟩
        have b9 : Boxed V9 (w.heap.size + 1) 4 (.bool true) := by rw [eV9]; exact hr9.set _
        have hk2 : KS (fun q => q = w.heap.size + 1 ∨ w6.heap.size ≤ q) w6 V9 := by rw [eV9]; exact (hJ2.mono (fun q hq => .inr hq)).setCell (b := w.heap.size + 1) (.inl rfl) 0 _
        have z2 : V9.heap[w6.heap.size]? = some (.deferred (some [])) := by rw [eV9]; exact (heap_setCell_other _ _ _ _ (by simp; omega)).trans hKD2
        have z1 : V9.heap[w5.heap.size]? = some (.deferred (some [])) := (hk2.block _ hd6.1 (by omega)).trans HKD6.out
        have hb9 : Below w.heap.size w V9 := HB6.out.trans (hk2.under (by rintro q (rfl | hq); omega; omega) HB6.out.size)
        have z3 : (V9.putObj w6.heap.size (.deferred none)).heap[w5.heap.size]? = some (.deferred (some [])) := (World.putObj_heap_other (by omega)).trans z1
        have b10 : Boxed (V9.putObj w6.heap.size (.deferred none)) (w.heap.size + 1) 4 (.bool true) := (World.putObj_heap_other (by omega)).trans b9
        have hb10 : Below w.heap.size w (V9.putObj w6.heap.size (.deferred none)) := below_putObj hb9 (by omega) _
        have b11 : Boxed ((V9.putObj w6.heap.size (.deferred none)).putObj w5.heap.size (.deferred none)) (w.heap.size + 1) 4 (.bool true) := (World.putObj_heap_other (by omega)).trans b10
        have q11 := b11.cell
        have HZ := hid (And.intro z2 z3)
        have HBB := hid (below_putObj hb10 (show w.heap.size ≤ w5.heap.size by omega) (.deferred none))
        clear z1 z2 z3 b10 b11 hb10 b9 hb9
        have EV9 := hid eV9
        clear hJ2 hKD2 HSEQ2 hk2 hk9 hr9 eV9 hS2 hp2
        go_wp2_with fail
        rw [← EV9.out]
        refine ⟨by simp, .inl ⟨_, _, rfl, run_takeDeferred HZ.out.1, ?_⟩⟩
        refine ⟨by simp, .inl ⟨_, _, rfl, run_takeDeferred HZ.out.2, ?_⟩⟩
        exact ⟨.bool true, by simp [results, Try.results3, go_sem, q11], Gives.mk rfl HBB.out⟩
theorem cs_i64s : Try.prog.cellsOf 3 = 1 := by kernel_rfl
theorem rd_cap {H : Type} {enc : TypeId × Value → H} {P : Program} {W : World} {t e : TypeId} {A : Option Addr} {n c : Nat} (h : Rd enc P W t [.slice A n c]) (ht : P.underlying t = some (.slice e)) : n ≤ c := by
  rcases h.slice ht with h | ⟨a, len, cap, hv, hl, hm, hi⟩
  · injection h with h _
    injection h with _ h1 h2
    omega
  · injection hv with hv _
    injection hv with _ h1 h2
    omega
theorem strideOrder_own : ownKnob Try.prog.godebug = none := by kernel_rfl
theorem strideOrder_laidOut : laidOutB Try.prog = true := by kernel_rfl
theorem strideOrder_types : ∀ t ∈ Try.f3.params.toList, Try.prog.readableRec t = true ∧ t < Try.prog.types.size := by
  rw [Try.params3]
  intro t ht
  simp only [List.mem_cons, List.not_mem_nil, or_false] at ht
  rcases ht with rfl | rfl
  · exact ⟨by kernel_rfl, of_decide_eq_true (by kernel_rfl)⟩
  · exact ⟨by kernel_rfl, of_decide_eq_true (by kernel_rfl)⟩
set_option maxRecDepth 100000 in
theorem strideOrder_lifted (os : Os) (started : os.Started) (H : Type) (enc : TypeId × Value → H) :
    ReturnsInHanded {} Try.checked os 3 .any (Rows.strideOrderSpec.pre6 enc Try.prog Try.f3 Rows.strideOrderRow.domain false) (Rows.strideOrderSpec.post enc Try.prog Try.f3 false true false false) := by
  refine returnsInHanded_of_change (C := Try.checked) strideOrder_own started (by kernel_rfl) Try.func3
    (ChangeSpec.witness6 (enc := enc) (C := Try.checked) false ⟨#[], #[.slice none 0 0, .int .u8 0], []⟩ 8 (by kernel_rfl) (by kernel_rfl) (by kernel_rfl) (by kernel_rfl)) ?_
  intro W base args ds gs before hval0 hW hcnd _
  have hval : ∀ (j : Nat) t v, Try.f3.params[j]? = some t → args[j]? = some v → Value.okWide Try.prog W .any base t v := hval0
  have hW' := hW
  obtain ⟨p, q, hA0, hV, hpq, hfz, hnd⟩ := hW
  have hA : DataW.TrodAll enc Try.prog W 0 (fun _ => true) true Try.f3.params.toList args.toList ds p := hA0
  rw [Try.params3] at hA hval
  obtain ⟨v0, vs0, d0, ds0, p0, q0, hargs, rfl, rfl, h0, r0⟩ := trodAll_cons hA
  obtain ⟨v1, vs1, d1, ds1, p1, q1, rfl, rfl, rfl, h1, r1⟩ := trodAll_cons r0
  obtain ⟨rfl, rfl, rfl⟩ := trodAll_nil r1
  obtain rfl : args = #[v0, v1] := by cases args; simp_all
  have k0 := hval 0 22 v0 rfl rfl
  have k1 := hval 1 5 v1 rfl rfl
  clear hA0 hval0 hval hcnd hfz hnd hpq hV hargs r1
  suffices hs : Calls Try.prog 3 #[v0, v1] W (Gives (.bool true) W) from hs.mono fun e W' ⟨he, x, hx⟩ => ⟨_, he, law_post strideOrder_laidOut hW' rfl rfl (by kernel_rfl) (by first | exact Try.underlying4 | rfl) strideOrder_types (hx ▸ W.below_past x)⟩
  clear hW'
  have hrd := rd_slice Try.underlying22 k0 h0
  obtain ⟨A, ca, l, rfl, ha, hK, hl⟩ := rd_ints_row hrd Try.underlying22 Try.underlying3 cs_i64s (K := fun _ => True) (fun _ _ => trivial)
  obtain ⟨x1, rfl, _, _, w1⟩ := open_int Try.underlying5 k1 h1
  exact StrideOrder_any A ca _ l rfl (rd_cap hrd Try.underlying22) hl x1 (by have := u8_of w1; unfold U8 at this; omega) W ha
theorem strideOrder_holds : Rows.StrideOrderSaid :=
  OpenClaim.holds_of_wide 3 Try.f3 rfl rfl rfl rfl rfl rfl rfl ⟨rfl, rfl, rfl, rfl, rfl⟩ rfl rfl rfl rfl rfl (by kernel_rfl) Try.func3 (by kernel_rfl)
    (of_decide_eq_true (by kernel_rfl)) (by unfold Func.isWrapper; first | (rw [if_pos (by decide +kernel)]; kernel_rfl) | (rw [if_neg (by decide +kernel)]; exact ⟨rfl, rfl⟩))
    (fun os started H enc _ => strideOrder_lifted os started H enc)
end Go.Proofs.Ytjhjkchcjpijaaa
