/-
  Layer 18's LedgerBehind: when the others have held as many ticks as are told to be ahead of a party, none of them has a lesser V than it. No condition.
-/
import Derived.Test.YtookaodcdglhfaaDoorLawF
import Derived.Test.YtookaodcdglhfaaDoorLawBS
import Derived.Laws.BitsAllLaws
namespace Go.Proofs.YtookaodcdglhfaaDoor
open Go.RowKit Go.ChangeShapes Go.WideShapes Go.ChangeAt
set_option maxRecDepth 100000 in
set_option maxHeartbeats 16000000 in
theorem LedgerBehind_any (A : Option Addr) (ca n : Nat) (ws : List Int) (en : ws.length = n) (hca : n ≤ ca) (hn : n ≤ maxLen) (A2 : Option Addr) (ca2 m : Nat) (l : List Deed) (em : l.length = m) (hm : m ≤ maxLen) (p : Int) (w : World) (hc : Cells w A (i64s ws)) (hc2 : Cells w A2 (tab dV l)) (hZ : Tz w) :
    Calls Tryd.prog 3 #[.slice A n ca, .slice A2 m ca2, .int .i64 p] w (Gives (.bool true) w) := by
  unfold maxLen at hn hm
  have HAW := hid (awake_any w hZ)
  have HZ := hid hZ
  have HC := hid hc
  have HC2 := hid hc2
  have EN := hid en
  have EM := hid em
  have hzl := hZ.lt
  clear hc hc2 hZ en em
  by_cases hg1 : 4 < n
  · clear hm
    go_enter Tryd.func3, Tryd.ntmps3
    go_wp2_with fail
    refine HAW.out.mono ?_
    rintro _ _ ⟨rfl, x0, rfl⟩
    go_wp2_with fail
    go_ret
    exact Gives.mk rfl (w.below_past _)
  by_cases hg2 : 40 < m
  · have hb1 : n ≤ 4 := by omega
    clear hg1
    go_enter Tryd.func3, Tryd.ntmps3
    go_wp2_with fail
    refine HAW.out.mono ?_
    rintro _ _ ⟨rfl, x0, rfl⟩
    go_wp2_with fail
    go_ret
    exact Gives.mk rfl (w.below_past _)
  have hb1 : n ≤ 4 := by omega
  have hb2 : m ≤ 40 := by omega
  clear hg1 hg2
  by_cases hg3 : p < 0
  · go_enter Tryd.func3, Tryd.ntmps3
    go_wp2_with fail
    refine HAW.out.mono ?_
    rintro _ _ ⟨rfl, x0, rfl⟩
    go_wp2_with fail
    go_ret
    exact Gives.mk rfl (w.below_past _)
  by_cases hg4 : (n : Int) ≤ p
  · have hb3 : 0 ≤ p := by omega
    clear hg3
    go_enter Tryd.func3, Tryd.ntmps3
    go_wp2_with fail
    refine HAW.out.mono ?_
    rintro _ _ ⟨rfl, x0, rfl⟩
    go_wp2_with fail
    go_ret
    exact Gives.mk rfl (w.below_past _)
  obtain ⟨y, rfl⟩ := Int.eq_ofNat_of_zero_le (show 0 ≤ p by omega)
  have hy : y < n := by omega
  have hg3' : decide ((y : Int) < 0) = false := by simp
  clear hg3 hg4
  go_enter Tryd.func3, Tryd.ntmps3
  go_wp2_with fail
  refine HAW.out.mono ?_
  rintro _ _ ⟨rfl, x0, rfl⟩
  obtain ⟨w1, ew1⟩ : ∃ w1, w1 = w.past x0 := ⟨_, rfl⟩
  have hw1 : Below w.heap.size w w1 := by rw [ew1]; exact w.below_past x0
  have HN := hid (New_any A ca n ws EN.out hca (by unfold maxLen; omega) 4 4 w1 (HC.out.below hw1))
  have HW1 := hid hw1
  have HZ1 := hid (HZ.out.below hw1)
  have hzB : 0 < w1.heap.size := by have := hw1.size; omega
  rw [← ew1]
  clear ew1 hw1
  go_wp2_with fail
  refine HN.out.mono ?_
  rintro _ w2 ⟨b, rfl, h2, hb2'⟩
  have HI2 := hid (show InvC n ((0 : Nat) : Int) (newF ws 4 4) from ⟨newF_ok _ _ _, by
      show (newL ws _).length = n
      rw [newL_length (by omega), EN.out]; omega, fun k hk => by
      show (pt (newL ws _) k).v ≤ _
      have hv : ∀ x ∈ newL ws (min ws.length 8), x.v = 0 := by
        intro x hx
        simp only [newL, List.mem_map] at hx
        obtain ⟨z, _, rfl⟩ := hx
        rfl
      rw [hv _ (List.mem_of_getElem? (pt_at (by rw [newL_length (by omega), EN.out]; omega)))]
      omega⟩)
  have HL2 := hid h2
  have HB2 := hid hb2'
  clear h2 hb2' HN
  go_wp2_with fail
  go_loopw [37] (fun i wr => ∃ (k : Nat) (S : Lg), i = .int .i64 k ∧ k ≤ m ∧ LgAt w1.heap.size wr b S ∧ InvC n (k : Int) S ∧ Below w1.heap.size w1 wr) (fun i _ => m - natI i)
  case atStart => exact ⟨0, _, rfl, Nat.zero_le _, HL2.out, HI2.out, HB2.out⟩
  case round =>
    clear HL2 HI2 HB2
    obtain ⟨k, S, rfl, hkm, hL, hI, hb⟩ := hrel
    have hsz := hb.size
    by_cases hlt : k < m
    · obtain ⟨g, o, eA, hcell⟩ := (HC2.out.below (HW1.out.trans (hb.mono HW1.out.size))).tab_at dV_length (k := k) (x := l[k]'(by rw [EM.out]; exact hlt)) (List.getElem?_eq_getElem _) (by omega)
      subst eA
      obtain ⟨d, ed⟩ : ∃ d, l[k]'(by rw [EM.out]; exact hlt) = d := ⟨_, rfl⟩
      rw [ed] at hcell
      have c0 := hcell 0 _ rfl
      have c1 := hcell 1 _ rfl
      have c2 := hcell 2 _ rfl
      have c3 := hcell 3 _ rfl
      rw [Nat.add_zero] at c0
      obtain ⟨w3, ew3⟩ : ∃ w3, w3 = wr.alloc (.cells #[.int .u8 d.k, .int .i64 d.p, .int .i64 d.w, .int .u64 (d.s : Int)] tD) := ⟨_, rfl⟩
      have hb3 : Below wr.heap.size wr w3 := by rw [ew3]; exact (Below.refl _ wr).alloc (Nat.le_refl _) _
      have hR3 : Rec w3 wr.heap.size tD #[.int .u8 d.k, .int .i64 d.p, .int .i64 d.w, .int .u64 (d.s : Int)] := by rw [ew3]; exact Rec.new wr tD _
      have hB3 : Below w1.heap.size w1 w3 := hb.trans (hb3.mono hsz)
      have HCH := hid (Charge_any hI.ok (hL.far hb3) d.p hB3.size)
      have HI5 := hid (hI.charge (by omega) (by omega) d.p)
      have HB3 := hid hB3
      have EW3 := hid ew3
      clear hcell ed hL hI hb hb3 hR3 hB3 ew3 hsz
      go_wp2_with fail
      rw [← EW3.out]
      refine HCH.out.mono ?_
      rintro _ w5 ⟨rfl, h5, hb5, -⟩
      go_wp2_with fail
      go_roundw
      case rel => exact ⟨k + 1, chargeF S d.p, by go_num, by omega, h5, by rw [Int.natCast_add]; exact HI5.out, HB3.out.trans hb5⟩
      case measure => simp [natI]; omega
    · obtain rfl : k = m := by omega
      have h2n : 2 ^ n ≤ 2 ^ 4 := Nat.pow_le_pow_right (by omega) hb1
      have h2y : 2 ^ y ≤ 2 ^ 4 := Nat.pow_le_pow_right (by omega) (by omega)
      have hpos := Nat.two_pow_pos n
      have hpos2 := Nat.two_pow_pos y
      obtain ⟨al, eal⟩ : ∃ al, allN n = al := ⟨_, rfl⟩
      obtain ⟨ot, eot⟩ : ∃ ot, othN n y = ot := ⟨_, rfl⟩
      have hal : al < 16 := by rw [← eal]; unfold allN; omega
      have hot : ot ≤ al := by rw [← eot, ← eal]; exact Nat.and_le_left
      have e1 : IntKind.u64.wrap (IntKind.u64.wrap ((2 : Int) ^ n) - 1) = (al : Int) := by
        have : (2 : Int) ^ n = ((2 ^ n : Nat) : Int) := by simp
        rw [this, IntKind.wrap_u64, IntKind.wrap_u64, ← eal]; unfold allN; omega
      obtain ⟨qy, eqy⟩ : ∃ qy, 2 ^ y = qy := ⟨_, rfl⟩
      have hqy : qy ≤ 16 := by omega
      have e2 : IntKind.u64.wrap ((2 : Int) ^ y) = (qy : Int) := by
        have : (2 : Int) ^ y = ((2 ^ y : Nat) : Int) := by simp
        rw [this, IntKind.wrap_u64, eqy]; omega
      have e2' : (2 : Int) ^ y = (qy : Int) := by rw [← eqy]; simp
      have e2'' : IntKind.u64.wrap (qy : Int) = (qy : Int) := by rw [IntKind.wrap_u64]; omega
      have e3 : bits .andNot .u64 (al : Int) (qy : Int) = (ot : Int) := by
        rw [u64_andNot_nat _ _ (by omega) (by omega), ← eot, ← eal, ← eqy]; rfl
      have HMK := hid (fun i (hi : i < n) => (show ot.testBit i = decide (i ≠ y) by rw [← eot]; exact oth_bit (by omega) hy hi))
      have hBeq := beh_all hI.len (y : Int)
      rw [eal] at hBeq
      have hsm := beh_small (l := S.l) (fun k hk => (hI.ok.at hk).1) (y := y) (by have := hI.vs y hy; omega) (by rw [hI.len]; exact hy) (has := fun _ => true) n (by rw [hI.len]; exact Nat.le_refl _)
      obtain ⟨N, eN⟩ : ∃ N, behK S.l y (fun _ => true) n = N := ⟨_, rfl⟩
      rw [eN] at hsm
      obtain ⟨hN0, hN1⟩ := hsm
      obtain ⟨nr, rfl⟩ := Int.eq_ofNat_of_zero_le hN0
      have hnr : nr ≤ 2564 := by omega
      have HD := hid (show InvD n y ot ((nr : Int) - ((0 : Nat) : Int)) S from ⟨hI.ok, hI.len, fun k hk => by have := hI.vs k hk; omega, by have := hI.vs y hy; omega, by rw [eN]; omega⟩)
      have HBE := hid (Behind_any (p := some ⟨b, 0, none⟩) hI.ok.len (fun k hk => (hI.ok.at hk).1) (.inr ⟨b, rfl, hL⟩) (HZ1.out.belowB hzB hb) (y : Int) al (by omega))
      rw [hBeq, eN] at HBE
      have HLL := hid hL
      have HBB := hid hb
      have EAL := hid eal
      clear hL hI hb hBeq eN hN0 hN1 h2n h2y hpos hpos2 eal eot eqy hsz
      go_wp2_with fail
      refine HBE.out.mono ?_
      rintro _ _ ⟨rfl, x3, rfl⟩
      have hq1 : decide ((nr : Int) < 0) = false := by simp
      have hq2 : decide ((100000 : Int) < (nr : Int)) = false := by simp; omega
      have HL3 := hid (HLL.out.past x3)
      have HB3 := hid (HBB.out.trans ((wr.below_past x3).mono HBB.out.size))
      go_wp2_with fail
      go_loopw [61] (fun i wr => ∃ (j : Nat) (S : Lg), i = .int .i64 j ∧ j ≤ nr ∧ LgAt w1.heap.size wr b S ∧ InvD n y ot ((nr : Int) - (j : Int)) S ∧ Below w1.heap.size w1 wr) (fun i _ => nr - natI i)
      case atStart => exact ⟨0, S, rfl, Nat.zero_le _, HL3.out, HD.out, HB3.out⟩
      case round =>
        clear HL3 HB3 HD HLL HBB HBE
        obtain ⟨j, S, rfl, hjn, hL, hI, hb⟩ := hrel
        have hsz := hb.size
        have hZ4 := HZ1.out.belowB hzB hb
        have hLe := Least_any (p := some ⟨b, 0, none⟩) hI.ok.len (.inr ⟨b, rfl, hL⟩) hZ4 ot (by omega)
        have hyl : y < S.l.length := by rw [hI.len]; exact hy
        have hVy : vF S (y : Int) = (pt S.l y).v := by unfold vF; rw [if_pos (isP_iff.2 ⟨by omega, by omega⟩)]; rfl
        by_cases hlt : j < nr
        · obtain ⟨q, hq, hqn, hqy, hqlt, hI5⟩ := hI.step hy (by omega) HMK.out
          have hVq : vF S (q : Int) = (pt S.l q).v := by unfold vF; rw [if_pos (isP_iff.2 ⟨by omega, by rw [hI.len]; omega⟩)]; rfl
          rw [hq] at hLe
          have HLE := hid hLe
          have HVQ := hid (fun x => (hVq ▸ V_any (hL.past x) (q : Int) : Calls Tryd.prog 11 #[.pointer (some ⟨b, 0, none⟩), .int .i64 q] (wr.past x) (Gives (.int .u64 (pt S.l q).v) (wr.past x))))
          have HVY := hid (fun x => (hVy ▸ V_any (hL.past x) (y : Int) : Calls Tryd.prog 11 #[.pointer (some ⟨b, 0, none⟩), .int .i64 y] (wr.past x) (Gives (.int .u64 (pt S.l y).v) (wr.past x))))
          have hpq : isP S.l (q : Int) = true := isP_iff.2 ⟨by omega, by rw [hI.len]; omega⟩
          have HCH := hid (fun x => Charge_any hI.ok (hL.past x) (q : Int) (show w1.heap.size ≤ (wr.past x).heap.size by have := (wr.below_past x).size; omega))
          rw [hpq] at HCH
          have HB4 := hid (fun x => hb.trans ((wr.below_past x).mono hb.size))
          have HI5 := hid (show InvD n y ot ((nr : Int) - ((j + 1 : Nat) : Int)) (chargeF S q) by rw [Int.natCast_add, ← Int.sub_sub]; exact hI5)
          have hvb : decide ((pt S.l y).v ≤ (pt S.l q).v) = false := by simp; omega
          simp only [encB] at HLE
          clear hL hI hb hZ4 hLe hVy hVq hpq hI5 hq hqlt hsz hyl
          go_wp2_with fail
          refine HLE.out.mono ?_
          rintro _ _ ⟨rfl, x4, rfl⟩
          go_wp2_with fail
          refine (HVQ.out _).mono ?_
          rintro _ _ ⟨rfl, x5, rfl⟩
          go_wp2_with fail
          refine (HVY.out _).mono ?_
          rintro _ _ ⟨rfl, x6, rfl⟩
          go_wp2_with fail
          refine (HCH.out _).mono ?_
          rintro _ w7 ⟨rfl, h7, hb7, -⟩
          go_wp2_with fail
          go_roundw
          case rel => exact ⟨j + 1, _, by go_num, by omega, h7, HI5.out, (HB4.out _).trans hb7⟩
          case measure => simp [natI]; omega
        · obtain rfl : j = nr := by omega
          rw [Int.sub_self] at hI
          have hBeq := beh_all hI.len (y : Int)
          rw [EAL.out, hI.beh] at hBeq
          have hBE := Behind_any (p := some ⟨b, 0, none⟩) hI.ok.len (fun k hk => (hI.ok.at hk).1) (.inr ⟨b, rfl, hL⟩) hZ4 (y : Int) al (by omega)
          rw [hBeq] at hBE
          have HBE := hid hBE
          have HBR := hid (HW1.out.trans (hb.mono HW1.out.size))
          by_cases hn1 : n = 1
          · have hn1' : ((n : Int) == 1) = true := by simp; omega
            clear hL hI hb hZ4 hLe hVy hBeq hBE hsz hyl hn1
            go_wp2_with fail
            refine HBE.out.mono ?_
            rintro _ _ ⟨rfl, x4, rfl⟩
            go_wp2_with fail
            go_ret
            exact Gives.mk rfl (HBR.out.trans ((wr.below_past _).mono HBR.out.size))
          · have hn1' : ((n : Int) == 1) = false := by simp; omega
            obtain ⟨q, hq, hqn, hqv⟩ := hI.fin hy hn1 HMK.out
            have hVq : vF S (q : Int) = (pt S.l q).v := by unfold vF; rw [if_pos (isP_iff.2 ⟨by omega, by rw [hI.len]; omega⟩)]; rfl
            have HLE := hid (fun x => (show Calls Tryd.prog 10 #[.pointer (some ⟨b, 0, none⟩), .int .u64 (ot : Int)] (wr.past x) (Gives (.int .i64 q) (wr.past x)) by
              have := Least_any (p := some ⟨b, 0, none⟩) hI.ok.len (.inr ⟨b, rfl, hL.past x⟩) (hZ4.past x) ot (by omega)
              rw [hq] at this; exact this))
            have HVQ := hid (fun x => (hVq ▸ V_any (hL.past x) (q : Int) : Calls Tryd.prog 11 #[.pointer (some ⟨b, 0, none⟩), .int .i64 q] (wr.past x) (Gives (.int .u64 (pt S.l q).v) (wr.past x))))
            have HVY := hid (fun x => (hVy ▸ V_any (hL.past x) (y : Int) : Calls Tryd.prog 11 #[.pointer (some ⟨b, 0, none⟩), .int .i64 y] (wr.past x) (Gives (.int .u64 (pt S.l y).v) (wr.past x))))
            have hvb : decide ((pt S.l y).v ≤ (pt S.l q).v) = true := by simpa using hqv
            clear hL hI hb hZ4 hLe hVy hVq hBeq hBE hsz hyl hn1 hq hqv
            go_wp2_with fail
            refine HBE.out.mono ?_
            rintro _ _ ⟨rfl, x4, rfl⟩
            go_wp2_with fail
            refine (HLE.out _).mono ?_
            rintro _ _ ⟨rfl, x5, rfl⟩
            go_wp2_with fail
            refine (HVQ.out _).mono ?_
            rintro _ _ ⟨rfl, x6, rfl⟩
            go_wp2_with fail
            refine (HVY.out _).mono ?_
            rintro _ _ ⟨rfl, x7, rfl⟩
            go_wp2_with fail
            go_ret
            exact Gives.mk rfl (HBR.out.trans ((wr.below_past _).mono HBR.out.size))
theorem ledgerBehind_own : ownKnob Tryd.prog.godebug = none := by kernel_rfl
theorem ledgerBehind_laidOut : laidOutB Tryd.prog = true := by kernel_rfl
theorem ledgerBehind_types : ∀ t ∈ Tryd.f3.params.toList, Tryd.prog.readableRec t = true ∧ t < Tryd.prog.types.size := by
  rw [Tryd.params3]
  intro t ht
  simp only [List.mem_cons, List.not_mem_nil, or_false] at ht
  rcases ht with rfl | rfl | rfl
  · exact ⟨by kernel_rfl, of_decide_eq_true (by kernel_rfl)⟩
  · exact ⟨by kernel_rfl, of_decide_eq_true (by kernel_rfl)⟩
  · exact ⟨by kernel_rfl, of_decide_eq_true (by kernel_rfl)⟩
set_option maxRecDepth 100000 in
theorem ledgerBehind_lifted (os : Os) (started : os.Started) (H : Type) (enc : TypeId × Value → H) :
    ReturnsInHanded {} Tryd.checked os 3 .any (fun w args => (Rows.ledgerBehindSpec.pre enc Tryd.prog Tryd.f3 [] false w args ∧ laidMetH Tryd.prog laidT w) ∧ sizedMet enc Tryd.prog Tryd.f3 (OpenSpec.ofChange Rows.ledgerBehindSpec) false w args) (Rows.ledgerBehindSpec.post enc Tryd.prog Tryd.f3 false true false false) := by
  refine returnsInHanded_of_change_and (C := Tryd.checked) (X := fun w _ => laidMetH Tryd.prog laidT w) (fun _ _ _ hh h => h.of_heap hh) ledgerBehind_own started (by kernel_rfl) Tryd.func3
    (ChangeSpec.witness_shaped (enc := enc) (C := Tryd.checked) (os := os) (X := fun w _ => laidMetH Tryd.prog laidT w) false (World.doorLaid Tryd.prog 14 os) #[.slice none 0 0, .slice none 0 0, .int .i64 0] 8 rfl (World.shaped_of_RefB (by kernel_rfl) (by kernel_rfl)) (by kernel_rfl) (by kernel_rfl) (by kernel_rfl) (door_met os _)) ?_
  intro W base args ds gs before hval0 hW hcnd _ hLaid _
  have hZ : Tz W := tz_of_laid hLaid
  clear hLaid
  have hval : ∀ (j : Nat) t v, Tryd.f3.params[j]? = some t → args[j]? = some v → Value.okWide Tryd.prog W .any base t v := hval0
  have hW' := hW
  obtain ⟨p, q, hA0, hV, hpq, hfz, hnd⟩ := hW
  have hA : DataW.TrodAll enc Tryd.prog W 0 (fun _ => true) true Tryd.f3.params.toList args.toList ds p := hA0
  rw [Tryd.params3] at hA hval
  obtain ⟨v0, vs0, d0, ds0, p0, q0, hargs, rfl, rfl, h0, r0⟩ := trodAll_cons hA
  obtain ⟨v1, vs1, d1, ds1, p1, q1, rfl, rfl, rfl, h1, r1⟩ := trodAll_cons r0
  obtain ⟨v2, vs2, d2, ds2, p2, q2, rfl, rfl, rfl, h2, r2⟩ := trodAll_cons r1
  obtain ⟨rfl, rfl, rfl⟩ := trodAll_nil r2
  obtain rfl : args = #[v0, v1, v2] := by cases args; simp_all
  have k0 := hval 0 22 v0 rfl rfl
  have k1 := hval 1 23 v1 rfl rfl
  have k2 := hval 2 3 v2 rfl rfl
  clear hA0 hval0 hval hcnd hfz hnd hpq hV hargs r2
  suffices hs : Calls Tryd.prog 3 #[v0, v1, v2] W (Gives (.bool true) W) from hs.mono fun e W' ⟨he, x, hx⟩ => ⟨_, he, law_post ledgerBehind_laidOut hW' rfl rfl (by kernel_rfl) (by first | exact Tryd.underlying4 | rfl) ledgerBehind_types (hx ▸ W.below_past x)⟩
  clear hW'
  obtain ⟨A, ca, ws, rfl, ha, _, hl, hcap⟩ := rd_tabC (f := fun x : Int => [Value.int .i64 x]) (c := 1) (K := fun _ => True) (fun _ => rfl) (by omega) (rd_slice Tryd.underlying22 k0 h0) Tryd.underlying22 c_int1 (fun _ h => rd_one h)
  obtain ⟨A2, ca2, l, rfl, ha2, hok, hl2, _⟩ := rd_tabC (f := dV) (c := 4) (K := DeedOk) dV_length (by omega) (rd_slice Tryd.underlying23 k1 h1) Tryd.underlying23 c_deed4 (fun _ h => rd_deed2 h)
  obtain ⟨p, rfl, _, _, _⟩ := open_int Tryd.underlying3 k2 h2
  exact LedgerBehind_any A ca _ ws rfl hcap hl A2 ca2 _ l rfl hl2 p W (by rw [tab_one] at ha; exact ha) ha2 hZ
theorem ledgerBehind_row : Rows.LedgerBehindSaid :=
  OpenClaim.holds_of_wide 3 Tryd.f3 rfl rfl rfl rfl rfl rfl rfl ⟨rfl, rfl, rfl, rfl, rfl⟩ rfl rfl rfl rfl rfl (by kernel_rfl) Tryd.func3 (by kernel_rfl)
    (of_decide_eq_true (by kernel_rfl)) (by unfold Func.isWrapper; first | (rw [if_pos (by decide +kernel)]; kernel_rfl) | (rw [if_neg (by decide +kernel)]; exact ⟨rfl, rfl⟩))
    (fun os started H enc _ => ledgerBehind_lifted os started H enc)
theorem ledgerBehind_holds : Rows.LedgerBehindCardSaid :=
  Claim7.holds_tied_plain_at .later [] [.data] true _ false
    ledgerBehind_row (fun _ h => by cases h) (by kernel_rfl) (fun _ h => by cases h) ledgerBehind_row_tie rfl ⟨rfl, rfl⟩ (by kernel_rfl) rfl
    (fun f fn hf hfn => by
      obtain rfl : f = 3 := Option.some.inj ((show Tryd.prog.funcNamed "forelock/forelocklaw18.LedgerBehind" = some 3 by kernel_rfl).symm.trans hf) |>.symm
      obtain rfl : fn = Tryd.f3 := (Option.some.inj (Tryd.func3.symm.trans hfn)).symm
      exact ⟨by kernel_rfl, fun j t ht => by
        rw [Tryd.params3] at ht
        have hm : t ∈ [22, 23, 3] := by simpa using Array.mem_of_getElem? ht
        have hall : ([22, 23, 3].all fun u => !Tryd.prog.wantsStandIn u) = true := by kernel_rfl
        exact (show Tryd.prog.wantsStandIn t = false by simpa using List.all_eq_true.1 hall t hm)⟩)
    (by kernel_rfl)
end Go.Proofs.YtookaodcdglhfaaDoor
