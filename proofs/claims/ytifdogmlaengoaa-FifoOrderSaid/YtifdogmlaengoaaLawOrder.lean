/-
  Layer 05's FifoOrder: what is left of what was pushed comes out as it came in. No condition.
-/
import Derived.Test.YtifdogmlaengoaaFifV
import Derived.Test.YtifdogmlaengoaaFifJ
import Derived.Test.YtifdogmlaengoaaFifW
import Derived.Deep.CutRange
import Derived.StillTailTactics
import Derived.Shelf.Abstract
namespace Go.Proofs.Ytifdogmlaengoaa
open Go.RowKit Go.Shelf Go.ChangeShapes Go.WideShapes Go.ChangeAt
attribute [local go_sem] Oper.semAt_some
/-- A queue, and all else that lies there. -/
structure QL (B : Nat) (X : Nat → Prop) (w9 W : World) (b : Nat) (most tk : Int) (L : List (Int × Int)) : Prop where
  sz : B ≤ w9.heap.size
  kp : Kept X w9 W
  ex : ∃ F, QA B W b F most tk L ∧ ∀ k, F k → X k ∨ w9.heap.size ≤ k
section
variable {B : Nat} {X : Nat → Prop} {w9 W W' : World} {b : Nat} {most tk tk' : Int} {L L' : List (Int × Int)}
theorem QL.size (h : QL B X w9 W b most tk L) : B ≤ W.heap.size := Nat.le_trans h.sz h.kp.size
theorem QL.act (h : QL B X w9 W b most tk L) {fn : FuncId} {args : Array Value} {r : Value}
    (hc : ∀ F, QA B W b F most tk L → Calls Try.prog fn args W (fun e w' => e = .returned r ∧ QR B b F most tk' L' W w')) : Calls Try.prog fn args W (fun e w' => e = .returned r ∧ QL B X w9 w' b most tk' L') := by
  obtain ⟨F, h1, h4⟩ := h.ex
  refine (hc F h1).mono ?_
  rintro _ w' ⟨rfl, F', g1, g2, g3⟩
  have hs := h.kp.size
  refine ⟨rfl, h.sz, h.kp.trans' g3 (fun i hi hF => ?_), F', g1, fun k a => ?_⟩
  · rcases h4 i hF with g | g
    · exact g
    · omega
  · rcases g2 k a with g | g
    · exact h4 k g
    · exact .inr (Nat.le_trans hs g)
theorem QL.far (h : QL B X w9 W b most tk L) (hb : Below W.heap.size W W') : QL B X w9 W' b most tk L := by
  obtain ⟨F, h1, h4⟩ := h.ex
  exact ⟨h.sz, h.kp.trans (Kept.of_below hb X), F, h1.far hb, h4⟩
theorem QL.len (h : QL B X w9 W b most tk L) : Calls Try.prog 10 #[.pointer (some ⟨b, 0, none⟩)] W (Gives (.int .i64 (L.length : Int)) W) := by
  obtain ⟨F, h1, _⟩ := h.ex
  exact QLen_any h1
end
set_option maxRecDepth 100000 in
set_option maxHeartbeats 2000000 in
theorem FifoOrder_any (A : Option Addr) (ca n : Nat) (l : List Int) (en : l.length = n) (hmx : n ≤ maxLen) (nn : Int) (hn : 0 ≤ nn ∧ nn < 256) (mm : Int) (hm : 0 ≤ mm ∧ mm < 256) (w : World) (hc : Cells w A (i64s l)) :
    Calls Try.prog 5 #[.slice A n ca, .int .u8 nn, .int .u8 mm] w (Gives (.bool true) w) := by
  have AWK := hid awake_any
  by_cases h80 : 80 < n
  · clear en hc
    go_enter Try.func5, Try.ntmps5
    go_wp2_with (go_at_call 6; refine (AWK.out _).mono ?_; rintro _ _ ⟨rfl, x0, rfl⟩)
    refine bodyPost_ret (v := .bool true) ?_ rfl ?_
    · simp [results, Try.results5, go_sem]
    · refine Gives.mk (rfl) ?_
      (repeat (first | exact Below.refl _ _ | refine RowKit.Below.past ?_ _ | refine RowKit.Below.alloc' ?_ _ | refine RowKit.Below.drew' ?_ | refine RowKit.Below.drewN' ?_ _ | refine RowKit.Below.setCell' ?_ (by simp [go_sem]) _))
  · have EN := hid en
    have HC := hid hc
    have HN := hid hn
    have HM := hid hm
    clear en hc hn hm
    refine (callsIn_wide (n := 5)).1 ?_
    refine callsIn_of_wp_marks Try.func5 rfl trivial ?_ rfl
    refine wpIn_wide.2 ?_
    simp only [Try.ntmps5, List.size_toArray, List.length_cons, List.length_nil, Nat.reduceAdd, Nat.reduceSub, Array.replicate_succ, Array.replicate_zero, List.push_toArray, List.append_toArray, List.nil_append, List.cons_append]
    obtain ⟨w3, ew3⟩ : ∃ w3, w3 = (w.alloc (.cells #[.int .u8 mm] 5)).alloc (.cells #[.bool false] 4) := ⟨_, rfl⟩
    have bn := (Boxed.new w 5 (.int .u8 mm)).alloc (.cells #[.bool false] 4)
    have br := Boxed.new (w.alloc (.cells #[.int .u8 mm] 5)) 4 (.bool false)
    rw [World.size_alloc] at br
    have hB3 : Below w.heap.size w w3 := by rw [ew3]; exact ((Below.refl _ w).alloc (Nat.le_refl _) _).alloc (by simp) _
    rw [← ew3] at bn br
    have EW := hid ew3
    clear ew3
    go_wp2_with fail
    rw [← EW.out]
    refine (AWK.out w3).mono ?_
    rintro _ _ ⟨rfl, x0, rfl⟩
    obtain ⟨w4, ew4⟩ : ∃ w4, w4 = w3.past x0 := ⟨_, rfl⟩
    have hb4 : Below w3.heap.size w3 w4 := by rw [ew4]; exact w3.below_past x0
    rw [← ew4]
    have bn4 : Boxed w4 w.heap.size 5 (.int .u8 mm) := (hb4.block _ bn.lt).trans bn
    have br4 : Boxed w4 (w.heap.size + 1) 4 (.bool false) := (hb4.block _ br.lt).trans br
    have HB4 := hid (below_trans' hB3 hb4)
    have BN4 := hid bn4
    have BR4 := hid br4
    clear ew4 EW bn br hB3 hb4 bn4 br4
    go_wp2_with fail
    refine (ZNew_any 100 w4).mono ?_
    rintro _ w5 ⟨b, rfl, hq⟩
    rw [show mostA 100 = 100 by decide] at hq
    have HQ := hid hq
    clear hq
    go_wp2_with fail
    go_loopw [9, 37] (fun _ i wr => ∃ k : Nat, i = .int .i64 (k : Int) ∧ k ≤ n ∧ Hid (QZ w4.heap.size w4 wr b 100 (k : Int) (tkv 0 (l.take k)))) (fun _ i _ => n - natJ i)
    case atStart => exact ⟨0, rfl, by omega, HQ⟩
    case round =>
      clear HQ
      obtain ⟨k, rfl, hk, HR⟩ := hrel
      by_cases hlt : k < n
      · obtain ⟨g, o, rfl, c0⟩ := i64_at (HC.out.below (HB4.out.trans (HR.out.2.1.mono HB4.out.size))) (k := k) (by rw [EN.out]; exact hlt)
        have HSN := hid (show tkv 0 (l.take (k + 1)) = tkv 0 (l.take k) ++ [((k : Int) + 1, atL l k)] by
          rw [take_snocI (by rw [EN.out]; exact hlt), tkv_snoc, List.length_take, Nat.min_eq_left (by rw [EN.out]; omega), Int.zero_add])
        have HPU := hid (HR.out.push (by omega) (by rw [tkv_length, List.length_take]; omega) (atL l k))
        obtain ⟨v, ev⟩ : ∃ v, atL l k = v := ⟨_, rfl⟩
        rw [ev] at c0 HPU HSN
        clear ev
        go_wp2_with (go_at_call 8; refine HPU.out.mono ?_; rintro _ w5 ⟨rfl, h5⟩; have H5 := hid h5; clear h5)
        go_roundw
        case rel => exact ⟨k + 1, by go_num, by omega, hid (by rw [HSN.out]; exact H5.out)⟩
        case measure => simp [natJ]; omega
      · obtain rfl : k = n := by omega
        obtain ⟨E, eE⟩ : ∃ E : Nat, 2 + (nn % 5).toNat = E := ⟨_, rfl⟩
        have hE : 2 ≤ E ∧ E ≤ 6 := by omega
        have HQ := hid (show QZ w4.heap.size w4 wr b 100 (k : Int) (rmE E l 0) by
          have := HR.out
          rwa [List.take_of_length_le (by rw [EN.out]; exact Nat.le_refl _), ← rmE_zero E l] at this)
        clear HR hlt
        have hm5 : nn.tmod 5 = (E : Int) - 2 := by
          have := HN.out
          rw [Int.tmod_eq_emod_of_nonneg (by omega)]; omega
        have e1 : IntKind.i64.wrap ((E : Int) - 2) = (E : Int) - 2 := by rw [IntKind.wrap_i64]; omega
        have e2 : IntKind.i64.wrap (2 + ((E : Int) - 2)) = (E : Int) := by rw [IntKind.wrap_i64]; omega
        have hE0 : ¬ (E : Int) = 0 := by omega
        clear eE
        go_wp2_with fail
        clear hm5 e1 e2
        go_loopw [11, 12, 13, 51] (fun _ _ _ i wr => ∃ j : Nat, i = .int .i64 (j : Int) ∧ j ≤ k ∧ Hid (QZ w4.heap.size w4 wr b 100 (k : Int) (rmE E l j))) (fun _ _ _ i _ => k - natJ i)
        case atStart => exact ⟨0, rfl, by omega, HQ⟩
        case round =>
          clear HQ
          obtain ⟨j, rfl, hj, HR⟩ := hrel
          by_cases hlt : j < k
          · obtain ⟨g, o, rfl, c0⟩ := i64_at (HC.out.below (HB4.out.trans (HR.out.2.1.mono HB4.out.size))) (k := j) (by rw [EN.out]; exact hlt)
            rcases Nat.eq_zero_or_pos (j % E) with hz | hz
            · have e3 : (j : Int).tmod (E : Int) = 0 := by rw [← Int.ofNat_tmod, hz]; rfl
              obtain ⟨i, hi1, hi2⟩ := rmE_off (E := E) (l := l) (k := j) (by rw [EN.out]; exact hlt) hz
              have HRM := hid (show Calls Try.prog 15 #[.pointer (some ⟨b, 0, none⟩), .int .i64 ((j : Int) + 1)] wr (fun e w' => e = .returned (.tuple #[.int .i64 (atL l j), .bool true]) ∧ QZ w4.heap.size w4 w' b 100 (k : Int) (rmE E l (j + 1))) by
                have := HR.out.remove (by omega) hi1
                rwa [hi2] at this)
              have c1 := fun (W : World) (h : QZ w4.heap.size w4 W b 100 (k : Int) (rmE E l (j + 1))) => i64_at (HC.out.below (HB4.out.trans (h.2.1.mono HB4.out.size))) (k := j) (by rw [EN.out]; exact hlt)
              have C1 := hid c1
              obtain ⟨v, ev⟩ : ∃ v, atL l j = v := ⟨_, rfl⟩
              rw [ev] at c0 HRM C1
              clear ev hi1 hi2 hz c1
              go_wp2_with (go_at_call 15; refine HRM.out.mono ?_; rintro _ w6 ⟨rfl, h6⟩; obtain ⟨g', o', eA, c1⟩ := C1.out w6 h6; have H6 := hid h6; clear h6; injection eA with eA; injection eA with eA1 eA2 _; subst eA1; subst eA2)
              go_roundw
              case rel => exact ⟨j + 1, by go_num, by omega, H6⟩
              case measure => simp [natJ]; omega
            · obtain ⟨r, er⟩ : ∃ r : Nat, j % E = r := ⟨_, rfl⟩
              rw [er] at hz
              have e3 : (j : Int).tmod (E : Int) = (r : Int) := by rw [← Int.ofNat_tmod, er]
              have hr0 : ¬ (r : Int) = 0 := by omega
              have HR2 := hid (show QZ w4.heap.size w4 wr b 100 (k : Int) (rmE E l (j + 1)) by
                rw [← rmE_on (by rw [EN.out]; exact hlt) (by omega)]; exact HR.out)
              go_wp2_with fail
              go_roundw
              case rel => exact ⟨j + 1, by go_num, by omega, HR2⟩
              case measure => simp [natJ]; omega
          · obtain rfl : j = k := by omega
            obtain ⟨L, eL⟩ : ∃ L, (tkv 0 l).filter (keepE E) = L := ⟨_, rfl⟩
            have HQ := hid (show QZ w4.heap.size w4 wr b 100 (j : Int) L by
              have := HR.out
              rwa [rmE_all EN.out, eL] at this)
            have HLL := hid (show (L.length : Int) = j - ((j + E - 1) / E : Nat) by rw [← eL]; exact left_length hE EN.out)
            have EL := hid eL
            clear eL HR hlt
            have hB5 := HB4.out.trans (HQ.out.2.1.mono HB4.out.size)
            obtain ⟨hz0, hz1, F, q, f, c, Q, ks, g1, g2, g3, g4, g5, g6, g7⟩ := HQ.out
            obtain ⟨w7, ew7⟩ : ∃ w7, w7 = wr.alloc (.cells #[.int .i64 0] 3) := ⟨_, rfl⟩
            have hb7 : Below wr.heap.size wr w7 := by rw [ew7]; exact (Below.refl _ wr).alloc (Nat.le_refl _) _
            have hs7 : w7.heap.size = wr.heap.size + 1 := by rw [ew7]; simp
            have bK : Boxed w7 wr.heap.size 3 (.int .i64 0) := by rw [ew7]; exact Boxed.new wr _ _
            have EW7 := hid ew7
            have HB5 := hid hB5
            have HG1 := hid g1
            have HG2 := hid g2
            have HG3 := hid g3
            have hgt := hid (show (j : Int) ≤ 1000000 by omega)
            have HZ := hid (And.intro hz0 hz1)
            have HG4 := hid (show QA w4.heap.size wr b F 100 (j : Int) L from ⟨q, f, c, Q, ks, g1, g2, g3, g4, g5, g6, g7⟩)
            clear ew7 hB5 hz0 hz1 g1 g2 g3 g4 g5 g6 g7
            go_wp2_with fail
            rw [← EW7.out]
            refine (All_any (some ⟨b, 0, none⟩) w7).mono ?_
            rintro _ w8 ⟨rfl, hb8, hs8, hx8⟩
            have hB8 : Below wr.heap.size wr w8 := below_trans' hb7 hb8
            have cK : Boxed w8 wr.heap.size 3 (.int .i64 0) := (hb8.block _ bK.lt).trans bK
            obtain ⟨K0, eK0⟩ : ∃ K0, wr.heap.size = K0 := ⟨_, rfl⟩
            rw [hs7] at hx8
            rw [eK0] at cK hx8
            have HK0 := hid eK0
            clear bK hb8 EW7 hb7
            obtain ⟨T, eT⟩ : ∃ T : Nat → Prop, T = fun q => q = K0 := ⟨_, rfl⟩
            have hK8 : K0 < w8.heap.size := cK.lt
            have hTK : T K0 := by rw [eT]
            have hTw : ∀ q, T q → q < w8.heap.size := by rw [eT]; rintro q rfl; exact hK8
            have hTb : ∀ q, T q → wr.heap.size ≤ q := by rw [eT]; rintro q rfl; omega
            have hTx : ¬ T (K0 + 1) := by rw [eT]; intro h; omega
            have hTF : ∀ k, F k → ¬ T k := by rw [eT]; intro k hk h; have := (HG1.out.foot k hk).2; omega
            have HT8 := hid (fun W (h : KS T w8 W) => (hB8.trans (h.under hTb hB8.size) : Below wr.heap.size wr W))
            have hseq := all_seq (5 - 1) (by omega) w8 (K0 + 1) b w4.heap.size F 100 q j f c Q ks (HG1.out.far hB8) HG2.out T hx8 hTx hTF hTw
            rw [HG3.out] at hseq
            have HSEQ := hid hseq
            have HMB := hid (fun W (h : KS T w8 W) => (HT8.out W h).block _ (show w.heap.size < wr.heap.size by have := BN4.out.lt; have := HZ.out.2.size; omega))
            have HMN := hid (fun W (h : KS T w8 W) => (show Boxed W w.heap.size 5 (.int .u8 mm) from (HMB.out W h).trans ((HZ.out.2.block _ BN4.out.lt).trans BN4.out)))
            clear hseq hx8 eT HMB
            go_wp2_with fail
            refine (wpIn_wide (n := 5)).1 ?_
            apply wpIn_rangeFunc_E rfl (by omega) (gf := 34) (lb := #[.pointer (some ⟨K0 + 1, 0, none⟩)]) rfl trivial (enters_of Try.func34 (by kernel_rfl) rfl) HSEQ.out hTw (KS.refl _ _) (fun _ => rfl)
              (fun pre W => KS T w8 W ∧ Boxed W K0 3 (.int .i64 pre.length) ∧ (pre.length : Int) ≤ mm)
              (fun c pre W => c = .exit 4 ∧ KS T w8 W ∧ Boxed W K0 3 (.int .i64 pre.length) ∧ (pre.length : Int) = mm + 1)
              (fun _ _ _ h hb => ⟨h.1.far hb, (hb.block _ hK8).trans h.2.1, h.2.2⟩)
              (fun _ _ _ _ h hb => ⟨h.1, h.2.1.far hb, (hb.block _ hK8).trans h.2.2.1, h.2.2.2⟩)
              ⟨KS.refl _ _, cK, by have := HM.out; simp; omega⟩ _ ?assign ?body ?done ?stop
            case assign =>
              intro lq x W K hK
              simp only [encP]
              gi_wp2
              exact hK
            case body =>
              rintro lq pre x W hsW ⟨hks, hbox, hle⟩ hlen hsp
              have hpl : ((pre ++ [x]).length : Int) = pre.length + 1 := by simp
              have q3 := (HMN.out W hks).cell
              have q13 := hbox.cell
              have f13 := hbox.frozen
              have lt13 := hbox.lt
              have HKS := hid hks
              have HBOX := hid hbox
              have hplen := hsp.length_le
              obtain ⟨p, ep⟩ : ∃ p, pre.length = p := ⟨_, rfl⟩
              have hLn : L.length ≤ 5000 := by
                have := HLL.out
                have h0 := Int.natCast_nonneg ((j + E - 1) / E)
                omega
              simp at hplen
              rw [ep] at q13 HBOX hpl hle hplen
              have HPL := hid hpl
              have e1 : IntKind.i64.wrap ((p : Int) + 1) = (p : Int) + 1 := by rw [IntKind.wrap_i64]; omega
              have e2 : IntKind.i64.wrap mm = mm := by have := HM.out; rw [IntKind.wrap_i64]; omega
              have hkn : ¬ K0 = w.heap.size := by have := BN4.out.lt; have := HZ.out.2.size; omega
              have hend := (KS.refl T W).setCell hTK 0 (.int .i64 ((p : Int) + 1))
              have hbox2 := HBOX.out.set (.int .i64 ((p : Int) + 1))
              have q3' := (HMN.out _ (hks.trans hend)).cell
              have HEND := hid hend
              have HBOX2 := hid hbox2
              clear hks hbox hpl HSEQ hsp ep hend hbox2 hlen
              by_cases hgt : mm < (p : Int) + 1
              · gi_wp2
                refine ⟨HEND.out, rfl, HKS.out.trans HEND.out, ?_, ?_⟩
                · rw [HPL.out]; exact HBOX2.out
                · rw [HPL.out]; omega
              · gi_wp2
                refine ⟨HEND.out, HKS.out.trans HEND.out, ?_, ?_⟩
                · rw [HPL.out]; exact HBOX2.out
                · rw [HPL.out]; omega
            case' stop =>
              rintro D c pre W hD hSp ⟨hc, hks, hbox, hp⟩ hKD
              subst hc
              have hpl := hSp.length_le
              have hmin : (if mm + 1 < (L.length : Int) then mm + 1 else (L.length : Int)) = (pre.length : Int) := by omega
              refine wpIn_wide.2 ?_
            case' done =>
              rintro D pre W hD hS ⟨hks, hbox, hp⟩ hKD
              have hpl : pre.length = L.length := by rw [hS]
              have hmin : (if mm + 1 < (L.length : Int) then mm + 1 else (L.length : Int)) = (pre.length : Int) := by omega
            all_goals (
              rw [← hmin] at hbox
              obtain ⟨mn, emn⟩ : ∃ mn, (if mm + 1 < (L.length : Int) then mm + 1 else (L.length : Int)) = mn := ⟨_, rfl⟩
              rw [emn] at hbox
              have hbW := HT8.out W hks
              have HQW := hid (show QL w4.heap.size F W W b 100 (j : Int) L from ⟨Nat.le_trans HZ.out.2.size hbW.size, Kept.refl _ _, F, HG4.out.far hbW, fun k h => .inl h⟩)
              have HMW := hid (HMN.out W hks)
              have HRW := hid (show Boxed W (w.heap.size + 1) 4 (.bool false) from (hbW.block _ (by have := BR4.out.lt; have := HZ.out.2.size; omega)).trans ((HZ.out.2.block _ BR4.out.lt).trans BR4.out))
              have HBW := hid (HB5.out.trans (hbW.mono HB5.out.size))
              have HBK := hid (fun U (h : Kept F W U) => show Below w.heap.size w U from h.to_below HBW.out HBW.out.size (fun k hk => Nat.le_trans HB4.out.size (HG1.out.foot k hk).1))
              have HFX := hid (show ∀ k, F k → k < D ∧ w.heap.size + 1 < k from fun k hk => ⟨by have := (HG1.out.foot k hk).2; omega, by have := (HG1.out.foot k hk).1; have := BR4.out.lt; omega⟩)
              have HKD := hid hKD
              have q14 := hbox.cell
              have q5 := HMW.out.cell
              have hm2 := HM.out
              obtain ⟨d, ed⟩ : ∃ d : Nat, (j + E - 1) / E = d := ⟨_, rfl⟩
              have hd0 := HLL.out
              rw [ed] at hd0
              have hd1 : d ≤ j := by omega
              have e1 : IntKind.i64.wrap ((j : Int) + (E : Int)) = (j : Int) + E := by rw [IntKind.wrap_i64]; omega
              have e2 : IntKind.i64.wrap ((j : Int) + (E : Int) - 1) = (j : Int) + E - 1 := by rw [IntKind.wrap_i64]; omega
              have e3 : ((j : Int) + (E : Int) - 1).tdiv (E : Int) = (d : Int) := by
                rw [show (j : Int) + (E : Int) - 1 = ((j + E - 1 : Nat) : Int) by omega, ← Int.ofNat_tdiv, ed]
              have e7 : IntKind.i64.wrap (d : Int) = (d : Int) := by rw [IntKind.wrap_i64]; omega
              have e4 : IntKind.i64.wrap ((j : Int) - (d : Int)) = (L.length : Int) := by rw [IntKind.wrap_i64]; omega
              have e5 : IntKind.i64.wrap mm = mm := by rw [IntKind.wrap_i64]; omega
              have e6 : IntKind.i64.wrap (mm + 1) = mm + 1 := by rw [IntKind.wrap_i64]; omega
              have HLN := hid HQW.out.len
              obtain ⟨LL, eLL⟩ : ∃ LL : Int, (L.length : Int) = LL := ⟨_, rfl⟩
              rw [eLL] at e4 HLN emn
              clear hbox hks hKD HSEQ hpl hbW hmin hd0 HMN HT8 eLL ed hd1 hm2
              go_wp2_with (go_at_call 10; refine HLN.out.mono ?_; rintro _ _ ⟨rfl, y1, rfl⟩)
              clear e1 e2 e3 e4 e5 e6 e7 emn HLN
              go_loopw [16, 17, 18, 19, 111] (fun _ _ _ _ i wr => ∃ m : Nat, i = .int .i64 (m : Int) ∧ m ≤ j ∧ Hid (QL w4.heap.size F W wr b 100 (j : Int) (lfE E l m))) (fun _ _ _ _ i _ => j - natJ i)
              case atStart => exact ⟨0, rfl, by omega, hid (by rw [lfE_zero, EL.out]; exact HQW.out.far (W.below_past y1))⟩
              case round =>
                rename World => U
                obtain ⟨m, rfl, hm, HR⟩ := hrel
                by_cases hlt : m < j
                · obtain ⟨g, o, rfl, c0⟩ := i64_at (HC.out.below (HBK.out _ HR.out.kp)) (k := m) (by rw [EN.out]; exact hlt)
                  rcases Nat.eq_zero_or_pos (m % E) with hz | hz
                  · have e3 : (m : Int).tmod (E : Int) = 0 := by rw [← Int.ofNat_tmod, hz]; rfl
                    have HR2 := hid (show QL w4.heap.size F W U b 100 (j : Int) (lfE E l (m + 1)) by
                      rw [← lfE_off (by rw [EN.out]; exact hlt) hz]; exact HR.out)
                    go_wp2_with fail
                    exact ⟨⟨m + 1, by go_num, by omega, HR2⟩, by simp [natJ]; omega⟩
                  · obtain ⟨r, er⟩ : ∃ r : Nat, m % E = r := ⟨_, rfl⟩
                    rw [er] at hz
                    have e3 : (m : Int).tmod (E : Int) = (r : Int) := by rw [← Int.ofNat_tmod, er]
                    have hr0 : ¬ (r : Int) = 0 := by omega
                    have HPP := hid (show Calls Try.prog 11 #[.pointer (some ⟨b, 0, none⟩)] U (fun e w' => e = .returned (.tuple #[.int .i64 (atL l m), .bool true]) ∧ QL w4.heap.size F W w' b 100 (j : Int) (lfE E l (m + 1))) by
                      have h := HR.out
                      rw [lfE_on (by rw [EN.out]; exact hlt) (by omega)] at h
                      exact h.act (fun F hF => QPop_any hF h.size (by omega)))
                    obtain ⟨v, ev⟩ : ∃ v, atL l m = v := ⟨_, rfl⟩
                    rw [ev] at c0 HPP
                    clear ev
                    go_wp2_with (go_at_call 11; refine HPP.out.mono ?_; rintro _ w5 ⟨rfl, h5⟩; have H5 := hid h5; clear h5)
                    exact ⟨⟨m + 1, by go_num, by omega, H5⟩, by simp [natJ]; omega⟩
                · obtain rfl : m = j := by omega
                  have HQ9 := hid (show QL w4.heap.size F W U b 100 (m : Int) [] by have := HR.out; rwa [lfE_end EN.out] at this)
                  clear HR hlt hm
                  go_wp2_with (first | (go_at_call 8; refine (NPush_any 1 _).mono ?_; rintro _ _ ⟨rfl, y2, rfl⟩) | (go_at_call 11; refine (NPop_any _).mono ?_; rintro _ _ ⟨rfl, y3, rfl⟩) | (go_at_call 17; refine (NGet_any 1 _).mono ?_; rintro _ _ ⟨rfl, y4, rfl⟩) | (go_at_call 15; refine (NRemove_any 1 _).mono ?_; rintro _ _ ⟨rfl, y5, rfl⟩))
                  obtain ⟨u3, eu3⟩ : ∃ u3, u3 = U.past (((y2.and y3).and y4).and y5) := ⟨_, rfl⟩
                  have ub3 : Below U.heap.size U u3 := by rw [eu3]; exact U.below_past _
                  rw [← eu3]
                  clear eu3
                  refine (All_any none u3).mono ?_
                  rintro _ v9 ⟨rfl, gb9, gs9, gx9⟩
                  have HB9 := hid (below_trans' ub3 gb9)
                  clear ub3 gb9
                  go_wp2_with fail
                  refine (wpIn_wide (n := 5)).1 ?_
                  apply wpIn_rangeFunc_E rfl (by omega) (gf := 34) (lb := #[.pointer (some ⟨u3.heap.size, 0, none⟩)]) rfl trivial (enters_of Try.func34 (by kernel_rfl) rfl) (all_nil_seq (5 - 1) (by omega) v9 u3.heap.size (fun _ => False) gx9 (fun h => h)) (fun _ h => h.elim) (KS.refl _ _) (fun _ => rfl)
                    (fun _ V => Below v9.heap.size v9 V) (fun _ _ _ => False) (fun _ _ _ h hb => h.trans hb) (fun _ _ _ _ h _ => h.elim) (Below.refl _ _) _ ?_ ?_ ?_ ?_
                  rotate_left
                  · intro lq x W K hK
                    simp only [encP]
                    gi_wp2
                    exact hK
                  · intro lq pre x W hsW hI hlen
                    omega
                  rotate_left
                  · intro D c pre W hD hSp h
                    exact h.elim
                  · intro D3 xs V hD3 hS3 hBl hKD3
                    have hBV := HB9.out.trans (hBl.mono HB9.out.size)
                    have hlv := HQ9.out.far hBV
                    have HLNV := hid (fun y : Past => (hlv.far (V.below_past y)).len)
                    have hDW := (Array.getElem?_eq_some_iff.1 HKD.out).1
                    have hUW := HQ9.out.kp.size
                    have hKU : U.heap[D]? = some (.deferred (some [])) := (HQ9.out.kp.block D hDW (fun h => by have := (HFX.out D h).1; omega)).trans HKD.out
                    have hRU : Boxed U (w.heap.size + 1) 4 (.bool false) := (HQ9.out.kp.block _ HRW.out.lt (fun h => by have := (HFX.out _ h).2; omega)).trans HRW.out
                    have hk1 : V.heap[D]? = some (.deferred (some [])) := (hBV.block _ (by omega)).trans hKU
                    have hbr : Boxed V (w.heap.size + 1) 4 (.bool false) := (hBV.block _ hRU.lt).trans hRU
                    have hk3 : V.heap[D3]? = some (.deferred (some [])) := hKD3
                    have hbl : Below w.heap.size w V := (HBK.out _ HQ9.out.kp).trans (hBV.mono (HBK.out _ HQ9.out.kp).size)
                    have q6 := hbr.cell
                    have f6 := fun x => (show Boxed (V.past x) (w.heap.size + 1) 4 (.bool false) from ((V.below_past x).block _ hbr.lt).trans hbr).frozen
                    have hDD3 : D ≠ D3 := by have := HB9.out.size; omega
                    have hW4 : w.heap.size + 1 < D := by have := BR4.out.lt; have := HZ.out.2.size; have := hB8.size; omega
                    have hRD : w.heap.size + 1 ≠ D := by omega
                    have hRD3 : w.heap.size + 1 ≠ D3 := by have := HB9.out.size; omega
                    have hge : w.heap.size ≤ D ∧ w.heap.size ≤ D3 := by have := HB9.out.size; exact ⟨by omega, by omega⟩
                    have HEND := hid (fun xx => (by
                      obtain ⟨Vp, eVp⟩ : ∃ Vp, Vp = V.past xx := ⟨_, rfl⟩
                      have hbp : Below V.heap.size V Vp := by rw [eVp]; exact V.below_past xx
                      rw [← eVp]
                      have k3 := (hbp.block _ (Array.getElem?_eq_some_iff.1 hk3).1).trans hk3
                      have k1 := (hbp.block _ (Array.getElem?_eq_some_iff.1 hk1).1).trans hk1
                      have kbr : Boxed Vp (w.heap.size + 1) 4 (.bool false) := (hbp.block _ hbr.lt).trans hbr
                      have kbl := hbl.trans (hbp.mono hbl.size)
                      obtain ⟨Wf, eWf⟩ : ∃ Wf, Wf = Vp.setCell ⟨w.heap.size + 1, 0, none⟩ (.bool true) := ⟨_, rfl⟩
                      rw [← eWf]
                      have kb : Boxed Wf (w.heap.size + 1) 4 (.bool true) := by rw [eWf]; exact kbr.set _
                      have s3 : Wf.heap[D3]? = some (.deferred (some [])) := by rw [eWf]; exact (Below.heap_setCell Vp ⟨w.heap.size + 1, 0, none⟩ _ D3 (fun e => hRD3 e.symm)).trans k3
                      have s1 : Wf.heap[D]? = some (.deferred (some [])) := by rw [eWf]; exact (Below.heap_setCell Vp ⟨w.heap.size + 1, 0, none⟩ _ D (fun e => hRD e.symm)).trans k1
                      have sb : Below w.heap.size w Wf := by rw [eWf]; exact kbl.setCell (p := ⟨w.heap.size + 1, 0, none⟩) (by simp) _
                      refine ⟨s3, (World.putObj_heap_other hDD3).trans s1, Boxed.cell (show Boxed _ _ 4 _ from (World.putObj_heap_other hRD).trans ((World.putObj_heap_other hRD3).trans kb)), ?_⟩
                      exact below_putObj (below_putObj sb hge.2 _) hge.1 _ :
                      ((V.past xx).setCell ⟨w.heap.size + 1, 0, none⟩ (.bool true)).heap[D3]? = some (.deferred (some [])) ∧
                      (((V.past xx).setCell ⟨w.heap.size + 1, 0, none⟩ (.bool true)).putObj D3 (.deferred none)).heap[D]? = some (.deferred (some [])) ∧
                      ((((V.past xx).setCell ⟨w.heap.size + 1, 0, none⟩ (.bool true)).putObj D3 (.deferred none)).putObj D (.deferred none)).cell? ⟨w.heap.size + 1, 0, none⟩ = some (.bool true) ∧
                      Below w.heap.size w ((((V.past xx).setCell ⟨w.heap.size + 1, 0, none⟩ (.bool true)).putObj D3 (.deferred none)).putObj D (.deferred none))))
                    clear hk3 hk1 hlv hbr hKD3 hBV hBl hS3 hDD3 hRD hRD3 hB8 hW4 hge hKU hRU hbl hUW hDW
                    go_wp2_with fail
                    refine (NLen_any V).mono ?_
                    rintro _ _ ⟨rfl, y6, rfl⟩
                    go_wp2_with fail
                    refine (NPour_any (some ⟨b, 0, none⟩) 3 (V.past y6)).mono ?_
                    rintro _ _ ⟨rfl, y7, rfl⟩
                    go_wp2_with fail
                    refine (PourN_any b 3 (V.past (y6.and y7))).mono ?_
                    rintro _ _ ⟨rfl, y8, rfl⟩
                    go_wp2_with fail
                    refine (HLNV.out ((y6.and y7).and y8)).mono ?_
                    rintro _ _ ⟨rfl, y9, rfl⟩
                    go_wp2_with fail
                    obtain ⟨z3, z1, zc, zb⟩ := HEND.out (((y6.and y7).and y8).and y9)
                    clear q6 f6
                    refine ⟨by simp, .inl ⟨_, _, rfl, run_takeDeferred z3, ?_⟩⟩
                    refine ⟨by simp, .inl ⟨_, _, rfl, run_takeDeferred z1, ?_⟩⟩
                    exact ⟨.bool true, by simp [results, Try.results5, go_sem, zc], Gives.mk rfl zb⟩)
theorem cs_i64s : Try.prog.cellsOf 3 = 1 := by kernel_rfl
theorem rd_i64s {H : Type} {enc : TypeId × Value → H} {W : World} {v : Value} (h : Rd enc Try.prog W 22 [v]) : ∃ (A : Option Addr) (c : Nat) (l : List Int), v = .slice A l.length c ∧ Cells W A (i64s l) ∧ (∀ x ∈ l, I64 x) ∧ l.length ≤ maxLen :=
  rd_ints_row h Try.underlying22 Try.underlying3 cs_i64s (fun _ hx => i64_of hx)
theorem fifoOrder_own : ownKnob Try.prog.godebug = none := by kernel_rfl
theorem fifoOrder_laidOut : laidOutB Try.prog = true := by kernel_rfl
theorem fifoOrder_types : ∀ t ∈ Try.f5.params.toList, Try.prog.readableRec t = true ∧ t < Try.prog.types.size := by
  rw [Try.params5]
  intro t ht
  simp only [List.mem_cons, List.not_mem_nil, or_false] at ht
  rcases ht with rfl | rfl | rfl
  · exact ⟨by kernel_rfl, of_decide_eq_true (by kernel_rfl)⟩
  · exact ⟨by kernel_rfl, of_decide_eq_true (by kernel_rfl)⟩
  · exact ⟨by kernel_rfl, of_decide_eq_true (by kernel_rfl)⟩
set_option maxRecDepth 100000 in
theorem fifoOrder_lifted (os : Os) (started : os.Started) (H : Type) (enc : TypeId × Value → H) :
    ReturnsInHanded {} Try.checked os 5 .any (Rows.fifoOrderSpec.pre6 enc Try.prog Try.f5 Rows.fifoOrderRow.domain false) (Rows.fifoOrderSpec.post enc Try.prog Try.f5 false true false false) := by
  refine returnsInHanded_of_change (C := Try.checked) fifoOrder_own started (by kernel_rfl) Try.func5
    (ChangeSpec.witness6 (enc := enc) (C := Try.checked) false ⟨#[], #[.slice none 0 0, .int .u8 0, .int .u8 0], []⟩ 8 (by kernel_rfl) (by kernel_rfl) (by kernel_rfl) (by kernel_rfl)) ?_
  intro W base args ds gs before hval0 hW hcnd _
  have hval : ∀ (j : Nat) t v, Try.f5.params[j]? = some t → args[j]? = some v → Value.okWide Try.prog W .any base t v := hval0
  have hW' := hW
  obtain ⟨p, q, hA0, hV, hpq, hfz, hnd⟩ := hW
  have hA : DataW.TrodAll enc Try.prog W 0 (fun _ => true) true Try.f5.params.toList args.toList ds p := hA0
  rw [Try.params5] at hA hval
  obtain ⟨v0, vs0, d0, ds0, p0, q0, hargs, rfl, rfl, h0, r0⟩ := trodAll_cons hA
  obtain ⟨v1, vs1, d1, ds1, p1, q1, rfl, rfl, rfl, h1, r1⟩ := trodAll_cons r0
  obtain ⟨v2, vs2, d2, ds2, p2, q2, rfl, rfl, rfl, h2, r2⟩ := trodAll_cons r1
  obtain ⟨rfl, rfl, rfl⟩ := trodAll_nil r2
  obtain rfl : args = #[v0, v1, v2] := by cases args; simp_all
  have k0 := hval 0 22 v0 rfl rfl
  have k1 := hval 1 5 v1 rfl rfl
  have k2 := hval 2 5 v2 rfl rfl
  clear hA0 hval0 hval hcnd hfz hnd hpq hV hargs r2
  suffices hs : Calls Try.prog 5 #[v0, v1, v2] W (Gives (.bool true) W) from hs.mono fun e W' ⟨he, x, hx⟩ => ⟨_, he, law_post fifoOrder_laidOut hW' rfl rfl (by kernel_rfl) (by first | exact Try.underlying4 | rfl) fifoOrder_types (hx ▸ W.below_past x)⟩
  clear hW'
  obtain ⟨A, ca, l, rfl, ha, _, hl⟩ := rd_i64s (rd_slice Try.underlying22 k0 h0)
  obtain ⟨x1, rfl, _, _, w1⟩ := open_int Try.underlying5 k1 h1
  obtain ⟨x2, rfl, _, _, w2⟩ := open_int Try.underlying5 k2 h2
  exact FifoOrder_any A ca _ l rfl hl x1 (by have := u8_of w1; unfold U8 at this; omega) x2 (by have := u8_of w2; unfold U8 at this; omega) W ha
theorem fifoOrder_holds : Rows.FifoOrderSaid :=
  OpenClaim.holds_of_wide 5 Try.f5 rfl rfl rfl rfl rfl rfl rfl ⟨rfl, rfl, rfl, rfl, rfl⟩ rfl rfl rfl rfl rfl (by kernel_rfl) Try.func5 (by kernel_rfl)
    (of_decide_eq_true (by kernel_rfl)) (by unfold Func.isWrapper; first | (rw [if_pos (by decide +kernel)]; kernel_rfl) | (rw [if_neg (by decide +kernel)]; exact ⟨rfl, rfl⟩))
    (fun os started H enc _ => fifoOrder_lifted os started H enc)
end Go.Proofs.Ytifdogmlaengoaa
