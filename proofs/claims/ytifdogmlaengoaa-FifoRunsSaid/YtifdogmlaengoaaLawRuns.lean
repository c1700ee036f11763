/-
  Layer 05's FifoRuns: whatever is pushed, popped, removed and poured over between two queues, answers are the document's. No condition.
-/
import Derived.Test.YtifdogmlaengoaaFifD2
import Derived.Test.YtifdogmlaengoaaFifY
import Derived.Test.YtifdogmlaengoaaFifW
import Derived.Test.YtifdogmlaengoaaRegSplit
import Derived.Deep.CutRange
import Derived.Deep.CutBlock
import Derived.StillTailTactics
namespace Go.Proofs.Ytifdogmlaengoaa
open Go.RowKit Go.ChangeShapes Go.WideShapes Go.ChangeAt
attribute [local go_sem] Oper.semAt_some
structure Dd where
  k : Int
  two : Bool
  v : Int
def ddV (x : Dd) : List Value := [.int .u8 x.k, .bool x.two, .int .i64 x.v]
theorem ddV_length (x : Dd) : (ddV x).length = 3 := rfl
theorem dd_at {w : World} {A : Option Addr} {l : List Dd} (h : Cells w A (tab ddV l)) {k : Nat} {x : Dd} (hx : l[k]? = some x) : ∃ g o : Nat, A = some ⟨g, o, none⟩ ∧ w.cell? ⟨g, o + k * 3, none⟩ = some (.int .u8 x.k) ∧ w.cell? ⟨g, o + k * 3 + 1, none⟩ = some (.bool x.two) ∧ w.cell? ⟨g, o + k * 3 + 2, none⟩ = some (.int .i64 x.v) := by
  obtain ⟨g, o, e, hc⟩ := h.tab_at ddV_length hx (by omega)
  exact ⟨g, o, e, hc 0 _ rfl, hc 1 _ rfl, hc 2 _ rfl⟩
def sel {α : Type} (a b : α) : Bool → α := fun k => bif k then b else a
/-- Both pairs, made one behind the other. -/
theorem st_new {B b0 b1 r0 r1 : Nat} {m0 m1 : Int} {W1 W2 W3 W : World} {F0 F1 G0 G1 : Nat → Prop} (hB : B ≤ W.heap.size) (h0 : QA B W b0 F0 m0 0 []) (h1 : QA B W b1 F1 m1 0 []) (h2 : DA B W r0 G0 m0 0 []) (h3 : DA B W r1 G1 m1 0 [])
    (a0 : ∀ k, F0 k → k < W1.heap.size) (a1 : ∀ k, F1 k → W1.heap.size ≤ k ∧ k < W2.heap.size) (a2 : ∀ k, G0 k → W2.heap.size ≤ k ∧ k < W3.heap.size) (a3 : ∀ k, G1 k → W3.heap.size ≤ k) (s1 : W1.heap.size ≤ W2.heap.size) (s2 : W2.heap.size ≤ W3.heap.size) :
    St2 B (fun k => (F0 k ∨ F1 k) ∨ (G0 k ∨ G1 k)) W W (sel b0 b1) (sel r0 r1) (sel m0 m1) (fun _ => 0) (fun _ => []) (fun _ => 0) (fun _ => []) := by
  refine ⟨hB, Kept.refl _ _, _, ⟨_, _, ⟨F0, F1, h0, h1, fun k x y => ?_, fun k => Iff.rfl⟩, ⟨G0, G1, h2, h3, fun k x y => ?_, fun k => Iff.rfl⟩, fun k x y => ?_, fun k => Iff.rfl⟩, fun k hk => .inl hk⟩
  · have := a0 k x; have := (a1 k y).1; omega
  · have := (a2 k x).2; have := a3 k y; omega
  · rcases x with x | x <;> rcases y with y | y
    · have := a0 k x; have := (a2 k y).1; omega
    · have := a0 k x; have := a3 k y; omega
    · have := (a1 k x).2; have := (a2 k y).1; omega
    · have := (a1 k x).2; have := a3 k y; omega
set_option maxRecDepth 100000 in
set_option maxHeartbeats 40000000 in
theorem FifoRuns_any (m0 m1 : Int) (A : Option Addr) (ca n : Nat) (l : List Dd) (en : l.length = n) (hn : n ≤ maxLen) (hkk : ∀ x ∈ l, (0 ≤ x.k ∧ x.k < 256) ∧ I64 x.v) (w : World) (ha : Cells w A (tab ddV l)) :
    Calls Try.prog 4 #[.agg #[.int .i64 m0, .int .i64 m1], .slice A n ca] w (Gives (.bool true) w) := by
  have AWK := hid awake_any
  have HA := hid ha
  have EN := hid en
  have HKK := hid hkk
  clear ha hkk en
  by_cases h100 : 100 < n
  · go_enter Try.func4, Try.ntmps4
    go_wp2_with (go_at_call 6; refine (AWK.out _).mono ?_; rintro _ _ ⟨rfl, x0, rfl⟩)
    go_ret
    exact Gives.mk rfl (by (repeat (first | exact Below.refl _ _ | refine RowKit.Below.past ?_ _ | refine RowKit.Below.alloc' ?_ _ | refine RowKit.Below.drew' ?_ | refine RowKit.Below.drewN' ?_ _ | refine RowKit.Below.setCell' ?_ (by simp [go_sem]) _)))
  · obtain ⟨w0, ew0⟩ : ∃ w0, w0 = w.alloc (.cells #[.int .i64 m0, .int .i64 m1] 34) := ⟨_, rfl⟩
    have hb0 : Below w.heap.size w w0 := by rw [ew0]; exact (Below.refl _ w).alloc (Nat.le_refl _) _
    have hr0 : Rec w0 w.heap.size 34 #[.int .i64 m0, .int .i64 m1] := by rw [ew0]; exact Rec.new w _ _
    have EW0 := hid ew0
    clear ew0
    go_enter Try.func4, Try.ntmps4
    go_wp2_with fail
    rw [← EW0.out]
    refine (AWK.out w0).mono ?_
    rintro _ _ ⟨rfl, x0, rfl⟩
    obtain ⟨w1, ew1⟩ : ∃ W, W = w0.past x0 := ⟨_, rfl⟩
    have hb1 : Below w0.heap.size w0 w1 := by rw [ew1]; exact w0.below_past _
    have HB1 := hid (below_trans' hb0 hb1)
    have HR1 := hid (hr0.below hb1 (Nat.le_refl _))
    rw [← ew1]
    obtain ⟨s, es⟩ : ∃ s, w.heap.size = s := ⟨_, rfl⟩
    rw [es] at HR1 HB1 ⊢
    clear ew1 hb1 hb0 hr0 EW0
    have c0 := Rec.cell HR1.out 0
    have c1 := Rec.cell HR1.out 1
    simp at c0 c1
    have hls := HR1.out.lt
    go_upto_region 5 with (fail)
    have HC := hid (fun (W : World) (h : Below w1.heap.size w1 W) => And.intro (below_cell h (Nat.le_refl _) _ _ c0) (below_cell h (Nat.le_refl _) _ _ c1))
    have HNW := hid (fun (m : Int) (W : World) (h : Below w1.heap.size w1 W) => (QNew_any w1.heap.size m W h.size).mono (fun _ w' (g : ∃ b F, _ ∧ _ ∧ _ ∧ _) => (show ∃ b F, _ = Ending.returned (.pointer (some ⟨b, 0, none⟩)) ∧ QA w1.heap.size w' b F (mostA m) 0 [] ∧ (∀ k, F k → W.heap.size ≤ k ∧ k < w'.heap.size) ∧ Below W.heap.size W w' ∧ Below w1.heap.size w1 w' from by
      obtain ⟨b, F, g1, g2, g3, g4⟩ := g
      exact ⟨b, F, g1, g2, fun k hk => ⟨g3 k hk, (g2.foot k hk).2⟩, g4, below_trans' h g4⟩)))
    go_region_held3 (fun W => W.cell? ⟨s, 0, none⟩ = some (.int .i64 m0) ∧ W.cell? ⟨s, 1, none⟩ = some (.int .i64 m1)) (first | (simp [go_sem, *]; done) | (exact HC.out _ (hv20.alloc hv20.size _))) (first | (go_at_call 7; with_reducible refine (HNW.out m0 _ (Below.refl _ _).drew).mono ?_; rintro _ v1 ⟨b0, F0, rfl, hq0, hf0, hv1, hv10⟩; obtain ⟨d0, d1⟩ := HC.out _ hv10) | (go_at_call 7; with_reducible refine (HNW.out m1 _ hv10).mono ?_; rintro _ v2 ⟨b1, F1, rfl, hq1, hf1, hv2, hv20⟩; obtain ⟨d20, d21⟩ := HC.out _ hv20))
    rename_i hHeld
    obtain ⟨v3, ev3⟩ : ∃ W, W = v2.alloc (.cells #[.pointer (some ⟨b0, 0, none⟩), .pointer (some ⟨b1, 0, none⟩)] 24) := ⟨_, rfl⟩
    have hb3 : Below v2.heap.size v2 v3 := by rw [ev3]; exact (Below.refl _ v2).alloc (Nat.le_refl _) _
    have hv30 : Below w1.heap.size w1 v3 := below_trans' hv20 hb3
    obtain ⟨gq, egq⟩ : ∃ g, v2.heap.size = g := ⟨_, rfl⟩
    have HRQ := hid (show Rec v3 gq 24 #[.pointer (some ⟨b0, 0, none⟩), .pointer (some ⟨b1, 0, none⟩)] by rw [ev3, ← egq]; exact Rec.new v2 _ _)
    have HQ0 := hid (hq0.far hv2)
    have HQ1 := hid hq1
    have HF0 := hid hf0
    have HF1 := hid hf1
    have HV3 := hid hv30
    have HV12 := hid hv2.size
    have HB3 := hid hb3
    obtain ⟨d30, d31⟩ := HC.out _ hv30
    rw [← ev3, egq]
    clear hv1 hv10 hv2 hv20 d0 d1 d20 d21 hq0 hq1 hf0 hf1 c0 c1 ev3 hb3 hHeld
    have HND := hid (fun (m : Int) (W : World) (h : Below w1.heap.size w1 W) => (DNew_any w1.heap.size m W h.size).mono (fun _ w' (g : ∃ b F, _ ∧ _ ∧ _ ∧ _) => (show ∃ b F, _ = Ending.returned (.pointer (some ⟨b, 0, none⟩)) ∧ DA w1.heap.size w' b F (mostA m) 0 [] ∧ (∀ k, F k → W.heap.size ≤ k ∧ k < w'.heap.size) ∧ Below W.heap.size W w' ∧ Below w1.heap.size w1 w' from by
      obtain ⟨b, F, g1, g2, g3, g4⟩ := g
      exact ⟨b, F, g1, g2, fun k hk => ⟨g3 k hk, (g2.foot k hk).2⟩, g4, below_trans' h g4⟩)))
    go_upto_region 6 with (fail)
    go_region_held3 (fun W => W.cell? ⟨s, 0, none⟩ = some (.int .i64 m0) ∧ W.cell? ⟨s, 1, none⟩ = some (.int .i64 m1)) (first | (simp [go_sem, *]; done) | (exact HC.out _ (hv50.alloc hv50.size _))) (first | (go_at_call 12; with_reducible refine (HND.out m0 _ hv30.drew).mono ?_; rintro _ v4 ⟨r0, G0, rfl, hd0, hg0, hv4, hv40⟩; obtain ⟨d40, d41⟩ := HC.out _ hv40) | (go_at_call 12; with_reducible refine (HND.out m1 _ hv40).mono ?_; rintro _ v5 ⟨r1, G1, rfl, hd1, hg1, hv5, hv50⟩; obtain ⟨d50, d51⟩ := HC.out _ hv50))
    rename_i hHeld
    obtain ⟨w8, ew8⟩ : ∃ W, W = v5.alloc (.cells #[.pointer (some ⟨r0, 0, none⟩), .pointer (some ⟨r1, 0, none⟩)] 37) := ⟨_, rfl⟩
    have hb8 : Below v5.heap.size v5 w8 := by rw [ew8]; exact (Below.refl _ v5).alloc (Nat.le_refl _) _
    obtain ⟨gd, egd⟩ : ∃ g, v5.heap.size = g := ⟨_, rfl⟩
    have HRD := hid (show Rec w8 gd 37 #[.pointer (some ⟨r0, 0, none⟩), .pointer (some ⟨r1, 0, none⟩)] by rw [ew8, ← egd]; exact Rec.new v5 _ _)
    rw [← ew8, egd]
    have h38 : Below v3.heap.size v3 w8 := by
      have h4 : Below v3.heap.size v3 v4 := (Below.refl _ v3).drew.trans hv4
      have h5 : Below v3.heap.size v3 v5 := below_trans' h4 hv5
      exact below_trans' h5 hb8
    have HRQ8 := hid (HRQ.out.below h38 (Nat.le_refl _))
    obtain ⟨X, eX⟩ : ∃ X : Nat → Prop, X = fun k => (F0 k ∨ F1 k) ∨ (G0 k ∨ G1 k) := ⟨_, rfl⟩
    have HB8 := hid (below_trans' HV3.out h38)
    have hs3 : v2.heap.size ≤ v3.heap.size := HB3.out.size
    have hs4 : v3.heap.size ≤ v4.heap.size := hv4.size
    have hs5 : v4.heap.size ≤ v5.heap.size := hv5.size
    have hs12 := HV12.out
    have HST := hid (show St2 w1.heap.size X w8 w8 (sel b0 b1) (sel r0 r1) (sel (mostA m0) (mostA m1)) (fun _ => 0) (fun _ => []) (fun _ => 0) (fun _ => []) from by
      rw [eX]
      refine st_new (W1 := v1) (W2 := v3) (W3 := v4) HB8.out.size ((HQ0.out.far HB3.out).far h38) ((HQ1.out.far HB3.out).far h38) ((hd0.far hv5).far hb8) (hd1.far hb8) (fun k hk => (HF0.out k hk).2) (fun k hk => ?_) (fun k hk => ?_) (fun k hk => (hg1 k hk).1) (by omega) hs4
      · have := HF1.out k hk; exact ⟨this.1, by omega⟩
      · have := hg0 k hk; exact ⟨this.1, this.2⟩)
    have HXB := hid (show ∀ k, X k → w1.heap.size ≤ k ∧ k ≠ gq ∧ k ≠ gd from by
      rw [eX]
      intro k hk
      rcases hk with (hk | hk) | (hk | hk)
      · have h1 := HF0.out k hk; have h2 := HV3.out.size; have h3 : w1.heap.size ≤ k := h1.1; exact ⟨h3, by omega, by omega⟩
      · have h1 := HF1.out k hk; have h2 := (HQ1.out.foot k hk).1; exact ⟨h2, by omega, by omega⟩
      · have h1 := hg0 k hk; have h2 := (hd0.foot k hk).1; have h3 : v3.heap.size ≤ k := h1.1; have h4 : gq < v3.heap.size := HRQ.out.lt; exact ⟨h2, by omega, by omega⟩
      · have h1 := hg1 k hk; have h2 := (hd1.foot k hk).1; have h4 : gq < v3.heap.size := HRQ.out.lt; exact ⟨h2, by omega, by omega⟩)
    clear eX hv4 hv40 hv5 hv50 d40 d41 d50 d51 hd0 hd1 hg0 hg1 hb8 h38 hs3 hs4 hs5 hs12 ew8 hHeld d30 d31 hv30 HC HNW HND
    obtain ⟨bb, ebb⟩ : ∃ f, sel b0 b1 = f := ⟨_, rfl⟩
    obtain ⟨rr, err⟩ : ∃ f, sel r0 r1 = f := ⟨_, rfl⟩
    obtain ⟨mm, emm⟩ : ∃ f, sel (mostA m0) (mostA m1) = f := ⟨_, rfl⟩
    have eb0 : bb false = b0 := by rw [← ebb]; rfl
    have eb1 : bb true = b1 := by rw [← ebb]; rfl
    have er0 : rr false = r0 := by rw [← err]; rfl
    have er1 : rr true = r1 := by rw [← err]; rfl
    rw [ebb, err, emm] at HST
    have HROW := hid (fun (W : World) (h : Kept X w8 W) => (show W.cell? ⟨gq, 0, none⟩ = some (.pointer (some ⟨bb false, 0, none⟩)) ∧ W.cell? ⟨gq, 1, none⟩ = some (.pointer (some ⟨bb true, 0, none⟩)) ∧ W.cell? ⟨gd, 0, none⟩ = some (.pointer (some ⟨rr false, 0, none⟩)) ∧ W.cell? ⟨gd, 1, none⟩ = some (.pointer (some ⟨rr true, 0, none⟩)) from by
      rw [eb0, eb1, er0, er1]
      have q := HRQ8.out.kept h (fun e => (HXB.out gq e).2.1 rfl)
      have d := HRD.out.kept h (fun e => (HXB.out gd e).2.2 rfl)
      have q0 := Rec.cell q 0
      have q1 := Rec.cell q 1
      have d0 := Rec.cell d 0
      have d1 := Rec.cell d 1
      exact ⟨by simpa using q0, by simpa using q1, by simpa using d0, by simpa using d1⟩))
    have HBW8 := hid (show Below s w w8 from HB1.out.trans (HB8.out.mono (by have := HB1.out.size; omega)))
    have HBX := hid (fun (W : World) (h : Kept X w8 W) => (show Below s w W from h.to_below HBW8.out (by have := HBW8.out.size; omega) (fun k hk => by have := (HXB.out k hk).1; have := HB1.out.size; omega)))
    have HGL := hid (show gq < w8.heap.size ∧ gd < w8.heap.size from ⟨HRQ8.out.lt, HRD.out.lt⟩)
    clear ebb err emm eb0 eb1 er0 er1 HR1 HRQ HQ0 HQ1 HF0 HF1 HV3 HV12 HB3 HRQ8 HRD HXB HB8 HBW8 HGL AWK hls egq egd
    go_wp2_with fail
    go_loopw [8, 9, 10, 11, 12, 13, 14, 15, 16, 17, 18, 19, 20, 21, 22, 23, 24, 25, 47] (fun _ _ _ _ _ _ _ _ _ _ _ _ _ _ _ _ _ _ i wr => ∃ (k : Nat) (t : Bool → Int) (L : Bool → List (Int × Int)), i = .int .i64 (k : Int) ∧ k ≤ n ∧ Hid (Bd k t L) ∧ Hid (St2 w1.heap.size X w8 wr bb rr mm t L t L)) (fun _ _ _ _ _ _ _ _ _ _ _ _ _ _ _ _ _ _ i _ => n - natJ i)
    case atStart => exact ⟨0, _, _, rfl, by omega, hid ⟨by simp, fun k => by simp⟩, HST⟩
    case round =>
      clear HST
      obtain ⟨k, t, L, rfl, hk, HBD, HS⟩ := hrel
      by_cases hlt : k < n
      · obtain ⟨x, hx⟩ : ∃ x, l[k]? = some x := ⟨_, List.getElem?_eq_getElem (by rw [EN.out]; exact hlt)⟩
        obtain ⟨hxk, hxv⟩ := HKK.out x (List.mem_of_getElem? hx)
        have hbw := HBX.out wr HS.out.kp
        obtain ⟨g, o, rfl, c0, c1, c2⟩ := dd_at (HA.out.below (by rw [es]; exact hbw)) hx
        obtain ⟨xk, two, xv⟩ := x
        simp only at c0 c1 c2 hxk hxv
        obtain ⟨w3, ew3⟩ : ∃ W, W = wr.alloc (.cells #[.int .u8 xk, .bool two, .int .i64 xv] 41) := ⟨_, rfl⟩
        have hb3 : Below wr.heap.size wr w3 := by rw [ew3]; exact (Below.refl _ wr).alloc (Nat.le_refl _) _
        obtain ⟨D, eD⟩ : ∃ D, wr.heap.size = D := ⟨_, rfl⟩
        have hrD : Rec w3 D 41 #[.int .u8 xk, .bool two, .int .i64 xv] := by rw [ew3, ← eD]; exact Rec.new wr _ _
        obtain ⟨F, hF, hS3, hback⟩ := HS.out.re stO_is hb3
        have HBACK := hid (fun (O : Ob) (W : World) (h : Kp w1.heap.size O F w3 W) => hback O W h)
        have HCELL := hid (fun (O : Ob) (W : World) (h : Kp w1.heap.size O F w3 W) => And.intro (HROW.out W (hback O W h).kp) (hrD.kept h.kp (fun e => by have := (hF D e).2.2; omega)))
        have HS3 := hid (show St2 w1.heap.size F w3 w3 bb rr mm t L t L from hS3)
        have hk100 : k ≤ 100 := by omega
        have EW3 := hid ew3
        have HXV := hid hxv
        clear hback hrD hS3 hF hbw ew3 hb3
        go_upto_region 10 with (fail)
        rw [← EW3.out]
        obtain ⟨⟨p0, p1, p2, p3⟩, hrd3⟩ := HCELL.out _ _ HS3.out
        have e0 := Rec.cell hrd3 0
        have e1 := Rec.cell hrd3 1
        have e2 := Rec.cell hrd3 2
        simp at e0 e1 e2
        have hkr : xk.tmod 5 = xk % 5 := Int.tmod_eq_emod_of_nonneg hxk.1
        have h5 : xk % 5 = 0 ∨ xk % 5 = 1 ∨ xk % 5 = 2 ∨ xk % 5 = 3 ∨ xk % 5 = 4 := by omega
        clear hrd3 c0 c1 c2
        cases two
        · go_upto_region 14 with (fail)
          go_upto_block 2 with (fail)
          go_cut [10, 11, 12, 13, 14, 15, 16, 17, 18, 19, 20, 21, 22, 23, 24, 25] from 53 to 236 (fun v10 _ _ _ _ _ _ _ _ _ _ _ _ _ _ _ wx => v10 = .bool true ∧ ∃ t' L', Hid (Bd (k + 1) t' L') ∧ Hid (St2 w1.heap.size F w3 wx bb rr mm t' L' t' L'))
          case first =>
            rcases h5 with h5 | h5 | h5 | h5 | h5
            · as_aux_lemma =>
                obtain ⟨rx, re, t', L', hbd, hq, hd⟩ := deed_push (HS3.out.fr (Below.refl _ _).drew) HBD.out hk100 false xv
                have HQ := hid hq
                have HD := hid hd
                have HBN := hid hbd
                clear hq hd hbd
                go_upto_region 16 with (fail)
                go_region_held3 (fun W => W.cell? ⟨gq, 0, none⟩ = some (.pointer (some ⟨bb false, 0, none⟩)) ∧ W.cell? ⟨D, 2, none⟩ = some (.int .i64 xv)) (first | (simp [go_sem, *]; done)) (first | (go_at_call 8; with_reducible refine HQ.out.mono ?_; rintro _ w4 ⟨rfl, h4⟩; have H4 := hid h4; obtain ⟨⟨p0, p1, p2, p3⟩, hrd4⟩ := HCELL.out _ _ h4; have e2 := Rec.cell hrd4 2; simp at e2; clear hrd4 h4))
                rename_i hHeld
                clear HQ hHeld
                go_upto_region 17 with (fail)
                go_region_held3 (fun W => W.cell? ⟨gd, 0, none⟩ = some (.pointer (some ⟨rr false, 0, none⟩)) ∧ W.cell? ⟨D, 2, none⟩ = some (.int .i64 xv)) (first | (simp [go_sem, *]; done)) (first | (go_at_call 13; with_reducible refine (HD.out _ (H4.out.fr (Below.refl _ _).drew)).mono ?_; rintro _ w5 ⟨rfl, hw5⟩; have H5 := hid hw5; obtain ⟨⟨p0, p1, p2, p3⟩, hrd5⟩ := HCELL.out _ _ hw5; have e2 := Rec.cell hrd5 2; simp at e2; clear hrd5 hw5))
                rename_i hHeld
                clear HD hHeld
                go_wp2_with fail
                go_meet
                exact ⟨by simp, _, _, HBN, H5⟩
            · as_aux_lemma =>
                obtain ⟨rx, re, L', hbd, hq, hd⟩ := deed_pop HS3.out HBD.out hk100 false
                have HQ := hid hq
                have HD := hid hd
                have HBN := hid hbd
                clear hq hd hbd
                go_wp2_with (first | (go_at_call 11; refine HQ.out.mono ?_; rintro _ w4 ⟨rfl, h4⟩; have H4 := hid h4; obtain ⟨⟨p0, p1, p2, p3⟩, hrd4⟩ := HCELL.out _ _ h4; clear hrd4 h4) | (go_at_call 14; refine (HD.out _ H4.out).mono ?_; rintro _ w5 ⟨rfl, hw5⟩; have H5 := hid hw5; clear hw5))
                go_meet
                exact ⟨by simp, _, _, HBN, H5⟩
            · as_aux_lemma =>
                obtain ⟨rx, re, pp, L', hbd, hq, hat, hd⟩ := deed_rem (HS3.out.fr (Below.refl _ _).drew) HBD.out hk100 false xv HXV.out
                have HQ := hid hq
                have HD := hid hd
                have HAT := hid hat
                have HBN := hid hbd
                clear hq hd hbd hat
                go_upto_region 24 with (fail)
                go_region_held3 (fun W => W.cell? ⟨gq, 0, none⟩ = some (.pointer (some ⟨bb false, 0, none⟩)) ∧ W.cell? ⟨D, 2, none⟩ = some (.int .i64 xv)) (first | (simp [go_sem, *]; done)) (first | (go_at_call 15; with_reducible refine HQ.out.mono ?_; rintro _ w4 ⟨rfl, h4⟩; have H4 := hid h4; obtain ⟨⟨p0, p1, p2, p3⟩, hrd4⟩ := HCELL.out _ _ h4; have e2 := Rec.cell hrd4 2; simp at e2; clear hrd4 h4))
                rename_i hHeld
                clear HQ hHeld
                go_upto_region 25 with (fail)
                go_region_held3 (fun W => W.cell? ⟨gd, 0, none⟩ = some (.pointer (some ⟨rr false, 0, none⟩)) ∧ W.cell? ⟨D, 2, none⟩ = some (.int .i64 xv)) (first | (simp [go_sem, *]; done)) (first | (go_at_call 16; refine (HAT.out w4.drew (St2.fr H4.out (Below.refl w4.heap.size w4).drew)).mono ?_; rintro _ _ ⟨rfl, y4, rfl⟩; have H4b := hid (St2.fr H4.out (w4.below_past y4)); obtain ⟨⟨p0, p1, p2, p3⟩, hrd4⟩ := HCELL.out _ _ H4b.out; have e2 := Rec.cell hrd4 2; simp at e2; clear hrd4) | (go_at_call 14; with_reducible refine (HD.out _ H4b.out).mono ?_; rintro _ w5 ⟨rfl, hw5⟩; have H5 := hid hw5; obtain ⟨⟨p0, p1, p2, p3⟩, hrd5⟩ := HCELL.out _ _ hw5; have e2 := Rec.cell hrd5 2; simp at e2; clear hrd5 hw5))
                rename_i hHeld
                clear HD HAT hHeld
                go_wp2_with fail
                go_meet
                exact ⟨by simp, _, _, HBN, H5⟩
            · as_aux_lemma =>
                have HBN := hid HBD.out.succ
                rcases deed_get HS3.out HBD.out hk100 false xv HXV.out with hg | ⟨jj, rx, g7, o7, k7, c7, hg, hj1, hj2⟩
                · have HG := hid hg
                  clear hg
                  go_upto_region 28 with (fail)
                  refine wp_region_past (by kernel_rfl) (by kernel_rfl) ?_
                  repeat (go_big_quiet_step ((first | (go_at_call 17; first | with_reducible exact Calls.in_past (((HG.out _ (w3.below_past _)).1)) | with_reducible exact Calls.in_past2 (((HG.out _ (w3.below_past _)).1))) | (go_at_call 17; first | exact Calls.in_past (((HG.out _ (w3.below_past _)).1)) | exact Calls.in_past2 (((HG.out _ (w3.below_past _)).1))))))
                  refine wpQuiet_nil ?_
                  rintro _ ⟨_, rfl⟩
                  rename_i y4
                  obtain ⟨w4, ew4⟩ : ∃ W, W = w3.past y4 := ⟨_, rfl⟩
                  have hb4 : Below w3.heap.size w3 w4 := by rw [ew4]; exact w3.below_past _
                  rw [← ew4]
                  have H4 := hid (HS3.out.fr hb4)
                  have HG4 := hid (fun y : Past => (HG.out _ (below_trans' hb4 (w4.below_past y))).2)
                  obtain ⟨⟨p0, p1, p2, p3⟩, hrd4⟩ := HCELL.out _ _ H4.out
                  have e2 := Rec.cell hrd4 2
                  simp at e2
                  clear ew4 hb4 hrd4 HG
                  go_upto_region 29 with (fail)
                  refine wp_region_past (by kernel_rfl) (by kernel_rfl) ?_
                  repeat (go_big_quiet_step ((first | (go_at_call 16; first | with_reducible exact Calls.in_past (HG4.out _) | with_reducible exact Calls.in_past2 (HG4.out _)) | (go_at_call 16; first | exact Calls.in_past (HG4.out _) | exact Calls.in_past2 (HG4.out _)))))
                  refine wpQuiet_nil ?_
                  rintro _ ⟨_, rfl⟩
                  rename_i y5
                  go_wp2_with fail
                  go_meet
                  exact ⟨by simp, _, _, HBN, hid (H4.out.fr (w4.below_past y5))⟩
                · have HG := hid hg
                  clear hg
                  go_upto_region 28 with (fail)
                  refine wp_region_past (by kernel_rfl) (by kernel_rfl) ?_
                  repeat (go_big_quiet_step ((first | (go_at_call 17; first | with_reducible exact Calls.in_past (((HG.out _ (w3.below_past _)).1)) | with_reducible exact Calls.in_past2 (((HG.out _ (w3.below_past _)).1))) | (go_at_call 17; first | exact Calls.in_past (((HG.out _ (w3.below_past _)).1)) | exact Calls.in_past2 (((HG.out _ (w3.below_past _)).1))))))
                  refine wpQuiet_nil ?_
                  rintro _ ⟨_, rfl⟩
                  rename_i y4
                  obtain ⟨w4, ew4⟩ : ∃ W, W = w3.past y4 := ⟨_, rfl⟩
                  have hb4 : Below w3.heap.size w3 w4 := by rw [ew4]; exact w3.below_past _
                  rw [← ew4]
                  have H4 := hid (HS3.out.fr hb4)
                  have HG4 := hid (fun y : Past => (HG.out _ (below_trans' hb4 (w4.below_past y))).2.1)
                  have HG5 := hid (fun W (h : Below w4.heap.size w4 W) => (HG.out _ (below_trans' hb4 h)).2.2)
                  obtain ⟨⟨p0, p1, p2, p3⟩, hrd4⟩ := HCELL.out _ _ H4.out
                  have e2 := Rec.cell hrd4 2
                  simp at e2
                  clear ew4 hb4 hrd4 HG
                  go_upto_region 29 with (fail)
                  refine wp_region_past (by kernel_rfl) (by kernel_rfl) ?_
                  repeat (go_big_quiet_step ((first | (go_at_call 16; first | with_reducible exact Calls.in_past (HG4.out _) | with_reducible exact Calls.in_past2 (HG4.out _)) | (go_at_call 16; first | exact Calls.in_past (HG4.out _) | exact Calls.in_past2 (HG4.out _)))))
                  refine wpQuiet_nil ?_
                  rintro _ ⟨_, rfl⟩
                  rename_i y5
                  obtain ⟨w5, ew5⟩ : ∃ W, W = w4.past y5 := ⟨_, rfl⟩
                  have hb5 : Below w4.heap.size w4 w5 := by rw [ew5]; exact w4.below_past _
                  rw [← ew5]
                  obtain ⟨hrl, z2, z3⟩ := HG5.out w5 hb5
                  have H5 := hid (H4.out.fr hb5)
                  obtain ⟨⟨p0, p1, p2, p3⟩, hrd5⟩ := HCELL.out _ _ H5.out
                  have hj3 : (jj : Int) < k7 := by omega
                  clear ew5 hb5 hrd5 HG5 HG4
                  go_wp2_with fail
                  go_meet
                  exact ⟨by simp, _, _, HBN, H5⟩
            · as_aux_lemma =>
                have hw1 : IntKind.i64.wrap 1 = 1 := by rw [IntKind.wrap_i64] <;> omega
                have hw0 : IntKind.i64.wrap 0 = 0 := by rw [IntKind.wrap_i64] <;> omega
                obtain ⟨rx, t', L', hbd, hq, hd⟩ := deed_pour (HS3.out.fr (Below.refl _ _).drew) HBD.out hk100 false xv HXV.out
                simp only [Bool.not_false, Bool.not_true] at hq hd
                have HPS := hid (fun W => PourSame_any (bb false) xv W)
                have HQ := hid hq
                have HD := hid hd
                have HBN := hid hbd
                clear hq hd hbd
                go_upto_region 32 with (fail)
                go_region_held3 (fun W => W.cell? ⟨gq, 0, none⟩ = some (.pointer (some ⟨bb false, 0, none⟩)) ∧ W.cell? ⟨gq, 1, none⟩ = some (.pointer (some ⟨bb true, 0, none⟩)) ∧ W.cell? ⟨gd, 0, none⟩ = some (.pointer (some ⟨rr false, 0, none⟩)) ∧ W.cell? ⟨gd, 1, none⟩ = some (.pointer (some ⟨rr true, 0, none⟩)) ∧ W.cell? ⟨D, 2, none⟩ = some (.int .i64 xv)) (first | (simp [go_sem, *]; done)) (first | (go_at_call 9; with_reducible refine HQ.out.mono ?_; clear HQ; rintro _ w4 ⟨rfl, h4⟩; have H4 := hid h4; obtain ⟨⟨p0, p1, p2, p3⟩, hrd4⟩ := HCELL.out _ _ h4; have e2 := Rec.cell hrd4 2; simp at e2; clear hrd4 h4) | (go_at_call 18; with_reducible refine (HD.out _ H4.out).mono ?_; rintro _ w5 ⟨rfl, hw5⟩; have H5 := hid hw5; obtain ⟨⟨p0, p1, p2, p3⟩, hrd5⟩ := HCELL.out _ _ hw5; have e2 := Rec.cell hrd5 2; simp at e2; clear hrd5 hw5) | (go_at_call 9; refine (HPS.out _).mono ?_; rintro _ _ ⟨rfl, y6, rfl⟩; have H6 := hid (H5.out.fr (World.below_past _ y6)); obtain ⟨⟨p0, p1, p2, p3⟩, hrd6⟩ := HCELL.out _ _ H6.out; have e2 := Rec.cell hrd6 2; simp at e2; clear hrd6))
                rename_i hHeld
                clear HD hHeld
                go_wp2_with fail
                go_meet
                exact ⟨by simp, _, _, HBN, H6⟩
          case rest =>
            obtain ⟨rfl, t', L', HBN, HST⟩ := hcut
            clear h5 hkr p0 p1 p2 p3 e0 e1 e2
            obtain ⟨⟨p0, p1, p2, p3⟩, -⟩ := HCELL.out _ _ HST.out
            have HSA := hid (fun (i : Bool) (y : Past) => (show Calls Try.prog 19 #[.pointer (some ⟨bb i, 0, none⟩), .pointer (some ⟨rr i, 0, none⟩)] (wc.past y) (Gives (.bool true) (wc.past y)) from by
              obtain ⟨F1, h1⟩ := (HST.out.fr (wc.below_past y)).qa i
              obtain ⟨F2, h2⟩ := (HST.out.fr (wc.below_past y)).da i
              exact same_any h1 h2))
            go_upto_region 33 with (fail)
            refine wp_region_past (by kernel_rfl) (by kernel_rfl) ?_
            repeat (go_big_quiet_step ((first | (go_at_call 19; first | with_reducible exact Calls.in_past (HSA.out false _) | with_reducible exact Calls.in_past2 (HSA.out false _)) | (go_at_call 19; first | with_reducible exact Calls.in_past (HSA.out true _) | with_reducible exact Calls.in_past2 (HSA.out true _)) | (go_at_call 19; first | exact Calls.in_past (HSA.out false _) | exact Calls.in_past2 (HSA.out false _)) | (go_at_call 19; first | exact Calls.in_past (HSA.out true _) | exact Calls.in_past2 (HSA.out true _)))))
            refine wpQuiet_nil ?_
            rintro _ ⟨_, rfl⟩
            rename_i y7
            go_wp2_with fail
            go_roundw
            case rel => exact ⟨k + 1, t', L', by go_num, by omega, HBN, hid (HBACK.out _ _ (HST.out.fr (wc.below_past y7)))⟩
            case measure => simp [natJ]; omega
        · go_upto_region 14 with (fail)
          go_upto_block 2 with (fail)
          go_cut [10, 11, 12, 13, 14, 15, 16, 17, 18, 19, 20, 21, 22, 23, 24, 25] from 53 to 236 (fun v10 _ _ _ _ _ _ _ _ _ _ _ _ _ _ _ wx => v10 = .bool true ∧ ∃ t' L', Hid (Bd (k + 1) t' L') ∧ Hid (St2 w1.heap.size F w3 wx bb rr mm t' L' t' L'))
          case first =>
            rcases h5 with h5 | h5 | h5 | h5 | h5
            · as_aux_lemma =>
                obtain ⟨rx, re, t', L', hbd, hq, hd⟩ := deed_push (HS3.out.fr (Below.refl _ _).drew) HBD.out hk100 true xv
                have HQ := hid hq
                have HD := hid hd
                have HBN := hid hbd
                clear hq hd hbd
                go_upto_region 16 with (fail)
                go_region_held3 (fun W => W.cell? ⟨gq, 1, none⟩ = some (.pointer (some ⟨bb true, 0, none⟩)) ∧ W.cell? ⟨D, 2, none⟩ = some (.int .i64 xv)) (first | (simp [go_sem, *]; done)) (first | (go_at_call 8; with_reducible refine HQ.out.mono ?_; rintro _ w4 ⟨rfl, h4⟩; have H4 := hid h4; obtain ⟨⟨p0, p1, p2, p3⟩, hrd4⟩ := HCELL.out _ _ h4; have e2 := Rec.cell hrd4 2; simp at e2; clear hrd4 h4))
                rename_i hHeld
                clear HQ hHeld
                go_upto_region 17 with (fail)
                go_region_held3 (fun W => W.cell? ⟨gd, 1, none⟩ = some (.pointer (some ⟨rr true, 0, none⟩)) ∧ W.cell? ⟨D, 2, none⟩ = some (.int .i64 xv)) (first | (simp [go_sem, *]; done)) (first | (go_at_call 13; with_reducible refine (HD.out _ (H4.out.fr (Below.refl _ _).drew)).mono ?_; rintro _ w5 ⟨rfl, hw5⟩; have H5 := hid hw5; obtain ⟨⟨p0, p1, p2, p3⟩, hrd5⟩ := HCELL.out _ _ hw5; have e2 := Rec.cell hrd5 2; simp at e2; clear hrd5 hw5))
                rename_i hHeld
                clear HD hHeld
                go_wp2_with fail
                go_meet
                exact ⟨by simp, _, _, HBN, H5⟩
            · as_aux_lemma =>
                obtain ⟨rx, re, L', hbd, hq, hd⟩ := deed_pop HS3.out HBD.out hk100 true
                have HQ := hid hq
                have HD := hid hd
                have HBN := hid hbd
                clear hq hd hbd
                go_wp2_with (first | (go_at_call 11; refine HQ.out.mono ?_; rintro _ w4 ⟨rfl, h4⟩; have H4 := hid h4; obtain ⟨⟨p0, p1, p2, p3⟩, hrd4⟩ := HCELL.out _ _ h4; clear hrd4 h4) | (go_at_call 14; refine (HD.out _ H4.out).mono ?_; rintro _ w5 ⟨rfl, hw5⟩; have H5 := hid hw5; clear hw5))
                go_meet
                exact ⟨by simp, _, _, HBN, H5⟩
            · as_aux_lemma =>
                obtain ⟨rx, re, pp, L', hbd, hq, hat, hd⟩ := deed_rem (HS3.out.fr (Below.refl _ _).drew) HBD.out hk100 true xv HXV.out
                have HQ := hid hq
                have HD := hid hd
                have HAT := hid hat
                have HBN := hid hbd
                clear hq hd hbd hat
                go_upto_region 24 with (fail)
                go_region_held3 (fun W => W.cell? ⟨gq, 1, none⟩ = some (.pointer (some ⟨bb true, 0, none⟩)) ∧ W.cell? ⟨D, 2, none⟩ = some (.int .i64 xv)) (first | (simp [go_sem, *]; done)) (first | (go_at_call 15; with_reducible refine HQ.out.mono ?_; rintro _ w4 ⟨rfl, h4⟩; have H4 := hid h4; obtain ⟨⟨p0, p1, p2, p3⟩, hrd4⟩ := HCELL.out _ _ h4; have e2 := Rec.cell hrd4 2; simp at e2; clear hrd4 h4))
                rename_i hHeld
                clear HQ hHeld
                go_upto_region 25 with (fail)
                go_region_held3 (fun W => W.cell? ⟨gd, 1, none⟩ = some (.pointer (some ⟨rr true, 0, none⟩)) ∧ W.cell? ⟨D, 2, none⟩ = some (.int .i64 xv)) (first | (simp [go_sem, *]; done)) (first | (go_at_call 16; refine (HAT.out w4.drew (St2.fr H4.out (Below.refl w4.heap.size w4).drew)).mono ?_; rintro _ _ ⟨rfl, y4, rfl⟩; have H4b := hid (St2.fr H4.out (w4.below_past y4)); obtain ⟨⟨p0, p1, p2, p3⟩, hrd4⟩ := HCELL.out _ _ H4b.out; have e2 := Rec.cell hrd4 2; simp at e2; clear hrd4) | (go_at_call 14; with_reducible refine (HD.out _ H4b.out).mono ?_; rintro _ w5 ⟨rfl, hw5⟩; have H5 := hid hw5; obtain ⟨⟨p0, p1, p2, p3⟩, hrd5⟩ := HCELL.out _ _ hw5; have e2 := Rec.cell hrd5 2; simp at e2; clear hrd5 hw5))
                rename_i hHeld
                clear HD HAT hHeld
                go_wp2_with fail
                go_meet
                exact ⟨by simp, _, _, HBN, H5⟩
            · as_aux_lemma =>
                have HBN := hid HBD.out.succ
                rcases deed_get HS3.out HBD.out hk100 true xv HXV.out with hg | ⟨jj, rx, g7, o7, k7, c7, hg, hj1, hj2⟩
                · have HG := hid hg
                  clear hg
                  go_upto_region 28 with (fail)
                  refine wp_region_past (by kernel_rfl) (by kernel_rfl) ?_
                  repeat (go_big_quiet_step ((first | (go_at_call 17; first | with_reducible exact Calls.in_past (((HG.out _ (w3.below_past _)).1)) | with_reducible exact Calls.in_past2 (((HG.out _ (w3.below_past _)).1))) | (go_at_call 17; first | exact Calls.in_past (((HG.out _ (w3.below_past _)).1)) | exact Calls.in_past2 (((HG.out _ (w3.below_past _)).1))))))
                  refine wpQuiet_nil ?_
                  rintro _ ⟨_, rfl⟩
                  rename_i y4
                  obtain ⟨w4, ew4⟩ : ∃ W, W = w3.past y4 := ⟨_, rfl⟩
                  have hb4 : Below w3.heap.size w3 w4 := by rw [ew4]; exact w3.below_past _
                  rw [← ew4]
                  have H4 := hid (HS3.out.fr hb4)
                  have HG4 := hid (fun y : Past => (HG.out _ (below_trans' hb4 (w4.below_past y))).2)
                  obtain ⟨⟨p0, p1, p2, p3⟩, hrd4⟩ := HCELL.out _ _ H4.out
                  have e2 := Rec.cell hrd4 2
                  simp at e2
                  clear ew4 hb4 hrd4 HG
                  go_upto_region 29 with (fail)
                  refine wp_region_past (by kernel_rfl) (by kernel_rfl) ?_
                  repeat (go_big_quiet_step ((first | (go_at_call 16; first | with_reducible exact Calls.in_past (HG4.out _) | with_reducible exact Calls.in_past2 (HG4.out _)) | (go_at_call 16; first | exact Calls.in_past (HG4.out _) | exact Calls.in_past2 (HG4.out _)))))
                  refine wpQuiet_nil ?_
                  rintro _ ⟨_, rfl⟩
                  rename_i y5
                  go_wp2_with fail
                  go_meet
                  exact ⟨by simp, _, _, HBN, hid (H4.out.fr (w4.below_past y5))⟩
                · have HG := hid hg
                  clear hg
                  go_upto_region 28 with (fail)
                  refine wp_region_past (by kernel_rfl) (by kernel_rfl) ?_
                  repeat (go_big_quiet_step ((first | (go_at_call 17; first | with_reducible exact Calls.in_past (((HG.out _ (w3.below_past _)).1)) | with_reducible exact Calls.in_past2 (((HG.out _ (w3.below_past _)).1))) | (go_at_call 17; first | exact Calls.in_past (((HG.out _ (w3.below_past _)).1)) | exact Calls.in_past2 (((HG.out _ (w3.below_past _)).1))))))
                  refine wpQuiet_nil ?_
                  rintro _ ⟨_, rfl⟩
                  rename_i y4
                  obtain ⟨w4, ew4⟩ : ∃ W, W = w3.past y4 := ⟨_, rfl⟩
                  have hb4 : Below w3.heap.size w3 w4 := by rw [ew4]; exact w3.below_past _
                  rw [← ew4]
                  have H4 := hid (HS3.out.fr hb4)
                  have HG4 := hid (fun y : Past => (HG.out _ (below_trans' hb4 (w4.below_past y))).2.1)
                  have HG5 := hid (fun W (h : Below w4.heap.size w4 W) => (HG.out _ (below_trans' hb4 h)).2.2)
                  obtain ⟨⟨p0, p1, p2, p3⟩, hrd4⟩ := HCELL.out _ _ H4.out
                  have e2 := Rec.cell hrd4 2
                  simp at e2
                  clear ew4 hb4 hrd4 HG
                  go_upto_region 29 with (fail)
                  refine wp_region_past (by kernel_rfl) (by kernel_rfl) ?_
                  repeat (go_big_quiet_step ((first | (go_at_call 16; first | with_reducible exact Calls.in_past (HG4.out _) | with_reducible exact Calls.in_past2 (HG4.out _)) | (go_at_call 16; first | exact Calls.in_past (HG4.out _) | exact Calls.in_past2 (HG4.out _)))))
                  refine wpQuiet_nil ?_
                  rintro _ ⟨_, rfl⟩
                  rename_i y5
                  obtain ⟨w5, ew5⟩ : ∃ W, W = w4.past y5 := ⟨_, rfl⟩
                  have hb5 : Below w4.heap.size w4 w5 := by rw [ew5]; exact w4.below_past _
                  rw [← ew5]
                  obtain ⟨hrl, z2, z3⟩ := HG5.out w5 hb5
                  have H5 := hid (H4.out.fr hb5)
                  obtain ⟨⟨p0, p1, p2, p3⟩, hrd5⟩ := HCELL.out _ _ H5.out
                  have hj3 : (jj : Int) < k7 := by omega
                  clear ew5 hb5 hrd5 HG5 HG4
                  go_wp2_with fail
                  go_meet
                  exact ⟨by simp, _, _, HBN, H5⟩
            · as_aux_lemma =>
                have hw1 : IntKind.i64.wrap 1 = 1 := by rw [IntKind.wrap_i64] <;> omega
                have hw0 : IntKind.i64.wrap 0 = 0 := by rw [IntKind.wrap_i64] <;> omega
                obtain ⟨rx, t', L', hbd, hq, hd⟩ := deed_pour (HS3.out.fr (Below.refl _ _).drew) HBD.out hk100 true xv HXV.out
                simp only [Bool.not_false, Bool.not_true] at hq hd
                have HPS := hid (fun W => PourSame_any (bb true) xv W)
                have HQ := hid hq
                have HD := hid hd
                have HBN := hid hbd
                clear hq hd hbd
                go_upto_region 32 with (fail)
                go_region_held3 (fun W => W.cell? ⟨gq, 0, none⟩ = some (.pointer (some ⟨bb false, 0, none⟩)) ∧ W.cell? ⟨gq, 1, none⟩ = some (.pointer (some ⟨bb true, 0, none⟩)) ∧ W.cell? ⟨gd, 0, none⟩ = some (.pointer (some ⟨rr false, 0, none⟩)) ∧ W.cell? ⟨gd, 1, none⟩ = some (.pointer (some ⟨rr true, 0, none⟩)) ∧ W.cell? ⟨D, 2, none⟩ = some (.int .i64 xv)) (first | (simp [go_sem, *]; done)) (first | (go_at_call 9; with_reducible refine HQ.out.mono ?_; clear HQ; rintro _ w4 ⟨rfl, h4⟩; have H4 := hid h4; obtain ⟨⟨p0, p1, p2, p3⟩, hrd4⟩ := HCELL.out _ _ h4; have e2 := Rec.cell hrd4 2; simp at e2; clear hrd4 h4) | (go_at_call 18; with_reducible refine (HD.out _ H4.out).mono ?_; rintro _ w5 ⟨rfl, hw5⟩; have H5 := hid hw5; obtain ⟨⟨p0, p1, p2, p3⟩, hrd5⟩ := HCELL.out _ _ hw5; have e2 := Rec.cell hrd5 2; simp at e2; clear hrd5 hw5) | (go_at_call 9; refine (HPS.out _).mono ?_; rintro _ _ ⟨rfl, y6, rfl⟩; have H6 := hid (H5.out.fr (World.below_past _ y6)); obtain ⟨⟨p0, p1, p2, p3⟩, hrd6⟩ := HCELL.out _ _ H6.out; have e2 := Rec.cell hrd6 2; simp at e2; clear hrd6))
                rename_i hHeld
                clear HD hHeld
                go_wp2_with fail
                go_meet
                exact ⟨by simp, _, _, HBN, H6⟩
          case rest =>
            obtain ⟨rfl, t', L', HBN, HST⟩ := hcut
            clear h5 hkr p0 p1 p2 p3 e0 e1 e2
            obtain ⟨⟨p0, p1, p2, p3⟩, -⟩ := HCELL.out _ _ HST.out
            have HSA := hid (fun (i : Bool) (y : Past) => (show Calls Try.prog 19 #[.pointer (some ⟨bb i, 0, none⟩), .pointer (some ⟨rr i, 0, none⟩)] (wc.past y) (Gives (.bool true) (wc.past y)) from by
              obtain ⟨F1, h1⟩ := (HST.out.fr (wc.below_past y)).qa i
              obtain ⟨F2, h2⟩ := (HST.out.fr (wc.below_past y)).da i
              exact same_any h1 h2))
            go_upto_region 33 with (fail)
            refine wp_region_past (by kernel_rfl) (by kernel_rfl) ?_
            repeat (go_big_quiet_step ((first | (go_at_call 19; first | with_reducible exact Calls.in_past (HSA.out false _) | with_reducible exact Calls.in_past2 (HSA.out false _)) | (go_at_call 19; first | with_reducible exact Calls.in_past (HSA.out true _) | with_reducible exact Calls.in_past2 (HSA.out true _)) | (go_at_call 19; first | exact Calls.in_past (HSA.out false _) | exact Calls.in_past2 (HSA.out false _)) | (go_at_call 19; first | exact Calls.in_past (HSA.out true _) | exact Calls.in_past2 (HSA.out true _)))))
            refine wpQuiet_nil ?_
            rintro _ ⟨_, rfl⟩
            rename_i y7
            go_wp2_with fail
            go_roundw
            case rel => exact ⟨k + 1, t', L', by go_num, by omega, HBN, hid (HBACK.out _ _ (HST.out.fr (wc.below_past y7)))⟩
            case measure => simp [natJ]; omega
      · obtain rfl : k = n := by omega
        go_wp2_with fail
        go_ret
        exact Gives.mk rfl (by rw [es]; exact HBX.out _ HS.out.kp)
end Go.Proofs.Ytifdogmlaengoaa
