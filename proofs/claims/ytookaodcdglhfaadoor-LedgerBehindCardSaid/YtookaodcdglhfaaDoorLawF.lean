/-
  Layer 18's LedgerFloor: the floor never falls; behind Settle each active party is at it, or above. No condition.
-/
import Derived.Test.YtookaodcdglhfaaDoorAwake
import Derived.Test.YtookaodcdglhfaaDoorInv
import Derived.Test.YtookaodcdglhfaaDoorLaid
import Derived.Test.YtookaodcdglhfaaDoorHas
namespace Go.Proofs.YtookaodcdglhfaaDoor
open Go.RowKit Go.ChangeShapes Go.WideShapes Go.ChangeAt
abbrev dV (d : Deed) : List Value := [.int .u8 d.k, .int .i64 d.p, .int .i64 d.w, .int .u64 (d.s : Int)]
theorem dV_length (d : Deed) : (dV d).length = 4 := rfl
def DeedOk (d : Deed) : Prop := U8 d.k ∧ d.s < 18446744073709551616
abbrev tD : TypeId := 29
def nilG : Lg := ⟨[], 0, 0, 0, 0⟩
/-- What the law asks of no ledger at all. -/
theorem nil_least (w : World) (hZ : Tz w) (s : Nat) (hs : s < 18446744073709551616) : Calls Tryd.prog 10 #[.pointer none, .int .u64 s] w (Gives (.int .i64 (-1)) w) :=
  Least_any (B := 0) (S := nilG) (by decide) (.inl ⟨rfl, rfl⟩) hZ s hs
theorem nil_behind (w : World) (hZ : Tz w) (p : Int) (s : Nat) (hs : s < 18446744073709551616) : Calls Tryd.prog 9 #[.pointer none, .int .i64 p, .int .u64 s] w (Gives (.int .i64 0) w) :=
  Behind_any (B := 0) (S := nilG) (by decide) (fun k hk => by cases hk) (.inl ⟨rfl, rfl⟩) hZ p s hs
set_option maxRecDepth 100000 in
set_option maxHeartbeats 8000000 in
theorem LedgerFloor_any (A : Option Addr) (ca n : Nat) (ws : List Int) (en : ws.length = n) (hca : n ≤ ca) (hn : n ≤ maxLen) (s c : Int) (A2 : Option Addr) (ca2 m : Nat) (l : List Deed) (em : l.length = m) (hok : ∀ d ∈ l, DeedOk d) (hm : m ≤ maxLen) (w : World) (hc : Cells w A (i64s ws)) (hc2 : Cells w A2 (tab dV l)) (hZ : Tz w) :
    Calls Tryd.prog 5 #[.slice A n ca, .agg #[.int .i64 s, .int .i64 c], .slice A2 m ca2] w (Gives (.bool true) w) := by
  unfold maxLen at hn hm
  obtain ⟨w0, ew0⟩ : ∃ w0, w0 = w.alloc (.cells #[.int .i64 s, .int .i64 c] 35) := ⟨_, rfl⟩
  have hb0 : Below w.heap.size w w0 := by rw [ew0]; exact (Below.refl _ w).alloc (Nat.le_refl _) _
  have HAW := hid (awake_any w0 (hZ.below hb0))
  have HR0 := hid (show Rec w0 w.heap.size 35 #[.int .i64 s, .int .i64 c] by rw [ew0]; exact Rec.new w _ _)
  have HZ := hid hZ
  have HC := hid hc
  have HC2 := hid hc2
  have EN := hid en
  have EM := hid em
  have HOK := hid hok
  have HB0 := hid hb0
  have EW0 := hid ew0
  have hzl := hZ.lt
  clear ew0 hb0 hc hc2 hZ en em hok
  by_cases hbig : 12 < n
  · go_enter Tryd.func5, Tryd.ntmps5
    go_wp2_with fail
    rw [← EW0.out]
    refine HAW.out.mono ?_
    rintro _ _ ⟨rfl, x0, rfl⟩
    go_wp2_with fail
    go_ret
    exact Gives.mk rfl (HB0.out.trans ((w0.below_past _).mono HB0.out.size))
  · by_cases hbig2 : 100 < m
    · have hbn : n ≤ 12 := by omega
      clear hbig
      go_enter Tryd.func5, Tryd.ntmps5
      go_wp2_with fail
      rw [← EW0.out]
      refine HAW.out.mono ?_
      rintro _ _ ⟨rfl, x0, rfl⟩
      go_wp2_with fail
      go_ret
      exact Gives.mk rfl (HB0.out.trans ((w0.below_past _).mono HB0.out.size))
    · have hbn : n ≤ 12 := by omega
      have hbm : m ≤ 100 := by omega
      clear hbig hbig2
      go_enter Tryd.func5, Tryd.ntmps5
      go_wp2_with fail
      rw [← EW0.out]
      refine HAW.out.mono ?_
      rintro _ _ ⟨rfl, x0, rfl⟩
      obtain ⟨w1, ew1⟩ : ∃ w1, w1 = w0.past x0 := ⟨_, rfl⟩
      have hb1 : Below w0.heap.size w0 w1 := by rw [ew1]; exact w0.below_past x0
      have hw1 := HB0.out.trans (hb1.mono HB0.out.size)
      have hR1 := Rec.below HR0.out hb1 (Nat.le_refl _)
      have r0 := Rec.cell hR1 0
      have r1 := Rec.cell hR1 1
      simp at r0 r1
      have HN := hid (New_any A ca n ws EN.out hca (by unfold maxLen; omega) s c w1 (HC.out.below hw1))
      have HW1 := hid hw1
      rw [← ew1]
      clear ew1 hb1 hw1 hR1
      go_wp2_with fail
      refine HN.out.mono ?_
      rintro _ w2 ⟨b, rfl, h2, hb2⟩
      have HL2 := hid (show LgAt w1.heap.size w2 b (newF ws s c) from h2)
      have HI2 := hid (show InvG (newF ws s c) from ⟨newF_ok _ _ _, fun k hk ha => by simp [newF] at ha⟩)
      have hzB : 0 < w1.heap.size := by have := HW1.out.size; omega
      have HZ1 := hid (HZ.out.below HW1.out)
      have HB2 := hid hb2
      clear h2 hb2 HN r0 r1
      go_wp2_with fail
      go_loopw [31] (fun i wr => ∃ (k : Nat) (S : Lg), i = .int .i64 k ∧ k ≤ m ∧ LgAt w1.heap.size wr b S ∧ InvG S ∧ Below w1.heap.size w1 wr) (fun i _ => m - natI i)
      case atStart => exact ⟨0, _, rfl, Nat.zero_le _, HL2.out, HI2.out, HB2.out⟩
      case round =>
        clear HL2 HI2 HB2
        obtain ⟨k, S, rfl, hkm, hL, hI, hb⟩ := hrel
        have hsz := hb.size
        by_cases hlt : k < m
        · obtain ⟨g, o, eA, hcell⟩ := (HC2.out.below (HW1.out.trans (hb.mono HW1.out.size))).tab_at dV_length (k := k) (x := l[k]'(by rw [EM.out]; exact hlt)) (List.getElem?_eq_getElem _) (by omega)
          subst eA
          have hdok := HOK.out _ (List.getElem_mem (n := k) (by rw [EM.out]; exact hlt))
          obtain ⟨d, ed⟩ : ∃ d, l[k]'(by rw [EM.out]; exact hlt) = d := ⟨_, rfl⟩
          rw [ed] at hcell hdok
          have c0 := hcell 0 _ rfl
          have c1 := hcell 1 _ rfl
          have c2 := hcell 2 _ rfl
          have c3 := hcell 3 _ rfl
          rw [Nat.add_zero] at c0
          obtain ⟨w3, ew3⟩ : ∃ w3, w3 = wr.alloc (.cells #[.int .u8 d.k, .int .i64 d.p, .int .i64 d.w, .int .u64 (d.s : Int)] tD) := ⟨_, rfl⟩
          have hb3 : Below wr.heap.size wr w3 := by rw [ew3]; exact (Below.refl _ wr).alloc (Nat.le_refl _) _
          have hR3 : Rec w3 wr.heap.size tD #[.int .u8 d.k, .int .i64 d.p, .int .i64 d.w, .int .u64 (d.s : Int)] := by rw [ew3]; exact Rec.new wr tD _
          have hB3 : Below w1.heap.size w1 w3 := hb.trans (hb3.mono hsz)
          have hL3 := hL.far hb3
          have HFL := hid (Floor_any hL3)
          obtain ⟨X, eX⟩ : ∃ X, X = wr.heap.size := ⟨_, rfl⟩
          have hXb : X ≠ b := by have := hL.lt; omega
          rw [← eX] at hR3
          have HR3 := hid hR3
          have HL3 := hid hL3
          have HB3 := hid hB3
          have EW3 := hid ew3
          have EX := hid eX
          have HI := hid hI
          obtain ⟨hk, hs64⟩ := hdok
          have hk0 : 0 ≤ d.k := hk.1
          have hk1 : d.k < 256 := hk.2
          obtain ⟨kd, ekd⟩ : ∃ kd, d.k = kd := ⟨_, rfl⟩
          have EKD := hid ekd
          rw [ekd] at c0 hk0 hk1 HR3 EW3
          have hsz3 : w1.heap.size ≤ w3.heap.size := hB3.size
          clear hcell hk ekd ed hL hI hb hb3 hR3 hB3 hL3 ew3 eX hsz
          have h4 : kd % 4 = 0 ∨ kd % 4 = 1 ∨ kd % 4 = 2 ∨ kd % 4 = 3 := by omega
          go_wp2_with fail
          rw [← EW3.out]
          refine HFL.out.mono ?_
          rintro _ _ ⟨rfl, x3, rfl⟩
          obtain ⟨w4, ew4⟩ : ∃ w4, w4 = w3.past x3 := ⟨_, rfl⟩
          have hb4 : Below w3.heap.size w3 w4 := by rw [ew4]; exact w3.below_past x3
          rw [← ew4, ← EX.out]
          have hR4 := Rec.below HR3.out hb4 (Nat.le_refl _)
          have hL4 := HL3.out.far hb4
          have hB4 := HB3.out.trans (hb4.mono hsz3)
          have e0 := Rec.cell hR4 0
          have e1 := Rec.cell hR4 1
          have e2 := Rec.cell hR4 2
          have e3 := Rec.cell hR4 3
          simp at e0 e1 e2 e3
          have HR4 := hid hR4
          have HL4 := hid hL4
          have HB4 := hid hB4
          have hsz4 := hB4.size
          have hfl := HI.out.ok.fl
          clear ew4 hb4 hR4 hL4 hB4 HFL HR3 HL3 HB3 EW3 c0 c1 c2 c3
          rcases h4 with h4 | h4 | h4 | h4
          · have HCH := hid (Charge_any HI.out.ok HL4.out d.p hsz4)
            have HI5 := hid (HI.out.charge d.p)
            have HF5 := hid (charge_fl S d.p)
            go_wp2_with fail
            refine HCH.out.mono ?_
            rintro _ w5 ⟨rfl, h5, hb5, -⟩
            have HFL := hid (Floor_any h5)
            rw [HF5.out] at HFL
            have hB5 := HB4.out.trans hb5
            clear hb5
            go_wp2_with fail
            refine HFL.out.mono ?_
            rintro _ _ ⟨rfl, x5, rfl⟩
            go_wp2_with fail
            go_roundw
            case rel => exact ⟨k + 1, chargeF S d.p, by go_num, by omega, h5.past x5, HI5.out, hB5.trans ((w5.below_past x5).mono hB5.size)⟩
            case measure => simp [natI]; omega
          · have HCH := hid (Charge_any HI.out.ok HL4.out d.p hsz4)
            have HI5 := hid (HI.out.charge d.p)
            have HF5 := hid (charge_fl S d.p)
            go_wp2_with fail
            refine HCH.out.mono ?_
            rintro _ w5 ⟨rfl, h5, hb5, -⟩
            have HFL := hid (Floor_any h5)
            rw [HF5.out] at HFL
            have hB5 := HB4.out.trans hb5
            clear hb5
            go_wp2_with fail
            refine HFL.out.mono ?_
            rintro _ _ ⟨rfl, x5, rfl⟩
            go_wp2_with fail
            go_roundw
            case rel => exact ⟨k + 1, chargeF S d.p, by go_num, by omega, h5.past x5, HI5.out, hB5.trans ((w5.below_past x5).mono hB5.size)⟩
            case measure => simp [natI]; omega
          · have HCH := hid (Settle_any HI.out.ok HL4.out (HZ1.out.belowB hzB HB4.out) hzB hsz4 d.s hs64)
            have HI5 := hid (HI.out.settle d.s)
            have HF5 := hid (settle_fl S d.s)
            go_wp2_with fail
            refine HCH.out.mono ?_
            rintro _ w5 ⟨rfl, h5, hb5, hk5⟩
            have hR5 := Rec.keptT HR4.out hk5 hXb (by decide)
            have HN5 := hid (Len_any h5)
            have HFL := hid (fun x => Floor_any (h5.past x))
            have HVV := hid (fun x p => V_any (h5.past x) p)
            have hB5 := HB4.out.trans hb5
            have HB5 := hid hB5
            have H5 := hid h5
            have HNW := hid (fun q (hq : q < S.l.length) hb => settle_now HI.out d.s (k := q) hq hb)
            have hlen : (settleF S d.s).l.length = S.l.length := settle_len S d.s
            have hl8 := HI.out.ok.len
            rw [hlen] at HN5
            have HVF := hid (fun q (hq : q < S.l.length) => (show vF (settleF S d.s) (q : Int) = (pt (settleF S d.s).l q).v by unfold vF; rw [if_pos (isP_iff.2 ⟨by omega, by rw [hlen]; omega⟩)]; rfl))
            obtain ⟨fl', efl⟩ : ∃ f, (settleF S d.s).fl = f := ⟨_, rfl⟩
            rw [efl] at HFL HNW HF5
            obtain ⟨nn, enn⟩ : ∃ nn, S.l.length = nn := ⟨_, rfl⟩
            rw [enn] at HN5 HNW hl8 HVF
            have HR5 := hid hR5
            have e3' := Rec.cell hR5 3
            simp at e3'
            clear hb5 hk5 h5 hB5 hR5 hlen efl enn e0 e1 e2 e3
            go_wp2_with fail
            refine HN5.out.mono ?_
            rintro _ _ ⟨rfl, x5, rfl⟩
            go_wp2_with fail
            go_loopw [55] (fun i wq => ∃ (q : Nat) (x : Past), i = .int .i64 q ∧ q ≤ nn ∧ wq = w5.past x) (fun i _ => nn - natI i)
            case atStart => exact ⟨0, x5, rfl, Nat.zero_le _, rfl⟩
            case round =>
              obtain ⟨q, x, rfl, hqn, rfl⟩ := hrel
              by_cases hq : q < nn
              · have hba := bit_and d.s q hs64
                have HV5 := hid (HVV.out x q)
                rw [HVF.out q hq] at HV5
                have HV6 := hid (fun y => HFL.out (x.and y))
                cases ht : d.s.testBit q with
                | false =>
                  rw [ht] at hba
                  simp only [Bool.false_eq_true, if_false] at hba
                  clear ht
                  go_wp2_with fail
                  go_roundw
                  case rel => exact ⟨q + 1, x, by go_num, by omega, rfl⟩
                  case measure => simp [natI]; omega
                | true =>
                  have hge := HNW.out q hq ht
                  rw [ht] at hba
                  simp only [if_true] at hba
                  obtain ⟨v, ev⟩ : ∃ v, (pt (settleF S d.s).l q).v = v := ⟨_, rfl⟩
                  rw [ev] at hge HV5
                  have hvb : decide (v < fl') = false := by simp; omega
                  clear ht ev hge
                  go_wp2_with fail
                  refine HV5.out.mono ?_
                  rintro _ _ ⟨rfl, x7, rfl⟩
                  go_wp2_with fail
                  refine (HV6.out _).mono ?_
                  rintro _ _ ⟨rfl, x8, rfl⟩
                  go_wp2_with fail
                  go_roundw
                  case rel => exact ⟨q + 1, _, by go_num, by omega, rfl⟩
                  case measure => simp [natI]; omega
              · obtain rfl : q = nn := by omega
                have HFL2 := hid (HFL.out x)
                go_wp2_with fail
                refine HFL2.out.mono ?_
                rintro _ _ ⟨rfl, x6, rfl⟩
                have hff := HF5.out
                go_wp2_with fail
                go_roundw
                case rel => exact ⟨k + 1, settleF S d.s, by go_num, by omega, H5.out.past _, HI5.out, HB5.out.trans ((w5.below_past _).mono HB5.out.size)⟩
                case measure => simp [natI]; omega
          · have HCH := hid (Weigh_any HI.out.ok HL4.out d.p d.w hsz4)
            have HI5 := hid (HI.out.weigh d.p d.w)
            have HF5 := hid (weigh_fl S d.p d.w)
            go_wp2_with fail
            refine HCH.out.mono ?_
            rintro _ w5 ⟨rfl, h5, hb5, -⟩
            have HFL := hid (Floor_any h5)
            rw [HF5.out] at HFL
            have hB5 := HB4.out.trans hb5
            clear hb5
            go_wp2_with fail
            refine HFL.out.mono ?_
            rintro _ _ ⟨rfl, x5, rfl⟩
            go_wp2_with fail
            go_roundw
            case rel => exact ⟨k + 1, weighF S d.p d.w, by go_num, by omega, h5.past x5, HI5.out, hB5.trans ((w5.below_past x5).mono hB5.size)⟩
            case measure => simp [natI]; omega
        · obtain rfl : k = m := by omega
          have HZR := hid (fun x => (HZ1.out.belowB hzB hb).past x)
          have HZW := hid (HZ1.out.belowB hzB hb)
          have HBR := hid (HW1.out.trans (hb.mono HW1.out.size))
          clear hL hI hb
          go_wp2_with fail
          refine (Settle_nil _ _).mono ?_
          rintro _ _ ⟨rfl, x1, rfl⟩
          go_wp2_with fail
          refine (Charge_nil _ _).mono ?_
          rintro _ _ ⟨rfl, x2, rfl⟩
          go_wp2_with (first | (go_at_call 16; refine (Weigh_nil _ _ _).mono ?_; rintro _ _ ⟨rfl, _, rfl⟩) | (go_at_call 10; refine (nil_least _ (HZR.out _) 1 (by omega)).mono ?_; rintro _ _ ⟨rfl, _, rfl⟩) | (go_at_call 11; refine (V_nil _ _).mono ?_; rintro _ _ ⟨rfl, _, rfl⟩) | (go_at_call 25; refine (Held_nil _ _).mono ?_; rintro _ _ ⟨rfl, _, rfl⟩) | (go_at_call 26; refine (Weight_nil _ _).mono ?_; rintro _ _ ⟨rfl, _, rfl⟩) | (go_at_call 18; refine (Floor_nil _).mono ?_; rintro _ _ ⟨rfl, _, rfl⟩) | (go_at_call 19; refine (Active_nil _).mono ?_; rintro _ _ ⟨rfl, _, rfl⟩) | (go_at_call 21; refine (Len_nil _).mono ?_; rintro _ _ ⟨rfl, _, rfl⟩) | (go_at_call 9; refine (nil_behind _ (HZR.out _) 0 1 (by omega)).mono ?_; rintro _ _ ⟨rfl, _, rfl⟩))
          go_ret
          exact Gives.mk rfl (HBR.out.trans ((wr.below_past _).mono HBR.out.size))
theorem c_deed_3 : Tryd.prog.cellsOf 3 = 1 := by kernel_rfl
theorem c_deed_27 : Tryd.prog.cellsOf 27 = 1 := by kernel_rfl
theorem c_deed_5 : Tryd.prog.cellsOf 5 = 1 := by kernel_rfl
theorem c_deed : Tryd.prog.cellsOf 29 = 4 := by kernel_rfl
theorem rd_deed {H : Type} {enc : TypeId × Value → H} {W : World} {cs : Array Value} (h : Rd enc Tryd.prog W 29 cs.toList) : ∃ x0 x1 x2 x3 : Int, cs = #[.int .u8 x0, .int .i64 x1, .int .i64 x2, .int .u64 x3] ∧ U8 x0 ∧ I64 x1 ∧ I64 x2 ∧ U64 x3 := by
  obtain ⟨c0, c1, c2, c3, e⟩ := cs_four (h.len_struct Tryd.underlying29 c_deed)
  rw [e] at h
  obtain ⟨x0, e0, w0⟩ := Rd.int (h.field Tryd.underlying29 0 5 0 1 rfl c_deed_5) Tryd.underlying5
  obtain ⟨x1, e1, w1⟩ := Rd.int (h.field Tryd.underlying29 1 3 1 1 rfl c_deed_3) Tryd.underlying3
  obtain ⟨x2, e2, w2⟩ := Rd.int (h.field Tryd.underlying29 2 3 2 1 rfl c_deed_3) Tryd.underlying3
  obtain ⟨x3, e3, w3⟩ := Rd.int (h.field Tryd.underlying29 3 27 3 1 rfl c_deed_27) Tryd.underlying27
  simp at e0 e1 e2 e3
  subst e0 e1 e2 e3
  exact ⟨x0, x1, x2, x3, arr_of e, u8_of w0, i64_of w1, i64_of w2, u64_of w3⟩
theorem rd_deed2 {H : Type} {enc : TypeId × Value → H} {W : World} {cs : List Value} (h : Rd enc Tryd.prog W tD cs) : ∃ d, cs = dV d ∧ DeedOk d := by
  obtain ⟨x0, x1, x2, x3, e, w0, w1, w2, w3⟩ := rd_deed (cs := cs.toArray) (by simpa using h)
  obtain ⟨y, hy⟩ := Int.eq_ofNat_of_zero_le w3.1
  have e2 : cs = [.int .u8 x0, .int .i64 x1, .int .i64 x2, .int .u64 x3] := by simpa using congrArg Array.toList e
  have hlt : y < 18446744073709551616 := by have := w3.2; omega
  exact ⟨⟨x0, x1, x2, y⟩, by rw [e2, hy], w0, hlt⟩
theorem c_pair_3 : Tryd.prog.cellsOf 3 = 1 := by kernel_rfl
theorem c_pair : Tryd.prog.cellsOf 35 = 2 := by kernel_rfl
theorem rd_pair {H : Type} {enc : TypeId × Value → H} {W : World} {cs : Array Value} (h : Rd enc Tryd.prog W 35 cs.toList) : ∃ x0 x1 : Int, cs = #[.int .i64 x0, .int .i64 x1] ∧ I64 x0 ∧ I64 x1 := by
  obtain ⟨c0, c1, e⟩ := cs_two (h.len_array Tryd.underlying35 c_pair)
  rw [e] at h
  obtain ⟨x0, e0, w0⟩ := Rd.int (h.elem Tryd.underlying35 0 (by decide) 1 c_pair_3) Tryd.underlying3
  obtain ⟨x1, e1, w1⟩ := Rd.int (h.elem Tryd.underlying35 1 (by decide) 1 c_pair_3) Tryd.underlying3
  simp at e0 e1
  subst e0 e1
  exact ⟨x0, x1, arr_of e, i64_of w0, i64_of w1⟩
theorem c_deed4 : Tryd.prog.cellsOf tD = 4 := by kernel_rfl
theorem c_int1 : Tryd.prog.cellsOf 3 = 1 := by kernel_rfl
theorem rd_one {H : Type} {enc : TypeId × Value → H} {W : World} {cs : List Value} (h : Rd enc Tryd.prog W 3 cs) : ∃ x, cs = [Value.int .i64 x] ∧ True := by
  obtain ⟨x, e, _⟩ := Rd.int h Tryd.underlying3
  exact ⟨x, e, trivial⟩
theorem tab_one (l : List Int) : tab (fun x : Int => [Value.int .i64 x]) l = i64s l := by
  unfold tab i64s
  induction l with
  | nil => rfl
  | cons x l ih => simp [ih]
theorem ledgerFloor_own : ownKnob Tryd.prog.godebug = none := by kernel_rfl
theorem ledgerFloor_laidOut : laidOutB Tryd.prog = true := by kernel_rfl
theorem ledgerFloor_types : ∀ t ∈ Tryd.f5.params.toList, Tryd.prog.readableRec t = true ∧ t < Tryd.prog.types.size := by
  rw [Tryd.params5]
  intro t ht
  simp only [List.mem_cons, List.not_mem_nil, or_false] at ht
  rcases ht with rfl | rfl | rfl
  · exact ⟨by kernel_rfl, of_decide_eq_true (by kernel_rfl)⟩
  · exact ⟨by kernel_rfl, of_decide_eq_true (by kernel_rfl)⟩
  · exact ⟨by kernel_rfl, of_decide_eq_true (by kernel_rfl)⟩
set_option maxRecDepth 100000 in
theorem ledgerFloor_lifted (os : Os) (started : os.Started) (H : Type) (enc : TypeId × Value → H) :
    ReturnsInHanded {} Tryd.checked os 5 .any (fun w args => (Rows.ledgerFloorSpec.pre enc Tryd.prog Tryd.f5 [] false w args ∧ laidMetH Tryd.prog laidT w) ∧ sizedMet enc Tryd.prog Tryd.f5 (OpenSpec.ofChange Rows.ledgerFloorSpec) false w args) (Rows.ledgerFloorSpec.post enc Tryd.prog Tryd.f5 false true false false) := by
  refine returnsInHanded_of_change_and (C := Tryd.checked) (X := fun w _ => laidMetH Tryd.prog laidT w) (fun _ _ _ hh h => h.of_heap hh) ledgerFloor_own started (by kernel_rfl) Tryd.func5
    (ChangeSpec.witness_shaped (enc := enc) (C := Tryd.checked) (os := os) (X := fun w _ => laidMetH Tryd.prog laidT w) false (World.doorLaid Tryd.prog 14 os) #[.slice none 0 0, .agg #[.int .i64 0, .int .i64 0], .slice none 0 0] 8 rfl (World.shaped_of_RefB (by kernel_rfl) (by kernel_rfl)) (by kernel_rfl) (by kernel_rfl) (by kernel_rfl) (door_met os _)) ?_
  intro W base args ds gs before hval0 hW hcnd _ hLaid _
  have hZ : Tz W := tz_of_laid hLaid
  clear hLaid
  have hval : ∀ (j : Nat) t v, Tryd.f5.params[j]? = some t → args[j]? = some v → Value.okWide Tryd.prog W .any base t v := hval0
  have hW' := hW
  obtain ⟨p, q, hA0, hV, hpq, hfz, hnd⟩ := hW
  have hA : DataW.TrodAll enc Tryd.prog W 0 (fun _ => true) true Tryd.f5.params.toList args.toList ds p := hA0
  rw [Tryd.params5] at hA hval
  obtain ⟨v0, vs0, d0, ds0, p0, q0, hargs, rfl, rfl, h0, r0⟩ := trodAll_cons hA
  obtain ⟨v1, vs1, d1, ds1, p1, q1, rfl, rfl, rfl, h1, r1⟩ := trodAll_cons r0
  obtain ⟨v2, vs2, d2, ds2, p2, q2, rfl, rfl, rfl, h2, r2⟩ := trodAll_cons r1
  obtain ⟨rfl, rfl, rfl⟩ := trodAll_nil r2
  obtain rfl : args = #[v0, v1, v2] := by cases args; simp_all
  have k0 := hval 0 22 v0 rfl rfl
  have k1 := hval 1 35 v1 rfl rfl
  have k2 := hval 2 23 v2 rfl rfl
  clear hA0 hval0 hval hcnd hfz hnd hpq hV hargs r2
  suffices hs : Calls Tryd.prog 5 #[v0, v1, v2] W (Gives (.bool true) W) from hs.mono fun e W' ⟨he, x, hx⟩ => ⟨_, he, law_post ledgerFloor_laidOut hW' rfl rfl (by kernel_rfl) (by first | exact Tryd.underlying4 | rfl) ledgerFloor_types (hx ▸ W.below_past x)⟩
  clear hW'
  obtain ⟨A, ca, ws, rfl, ha, _, hl, hcap⟩ := rd_tabC (f := fun x : Int => [Value.int .i64 x]) (c := 1) (K := fun _ => True) (fun _ => rfl) (by omega) (rd_slice Tryd.underlying22 k0 h0) Tryd.underlying22 c_int1 (fun _ h => rd_one h)
  obtain ⟨cs, rfl, hr⟩ := rd_agg (.inr ⟨_, _, Tryd.underlying35⟩) k1 h1
  obtain ⟨s, c, rfl, _⟩ := rd_pair hr
  obtain ⟨A2, ca2, l, rfl, ha2, hok, hl2, _⟩ := rd_tabC (f := dV) (c := 4) (K := DeedOk) dV_length (by omega) (rd_slice Tryd.underlying23 k2 h2) Tryd.underlying23 c_deed4 (fun _ h => rd_deed2 h)
  exact LedgerFloor_any A ca _ ws rfl hcap hl s c A2 ca2 _ l rfl hok hl2 W (by rw [tab_one] at ha; exact ha) ha2 hZ
theorem ledgerFloor_row : Rows.LedgerFloorSaid :=
  OpenClaim.holds_of_wide 5 Tryd.f5 rfl rfl rfl rfl rfl rfl rfl ⟨rfl, rfl, rfl, rfl, rfl⟩ rfl rfl rfl rfl rfl (by kernel_rfl) Tryd.func5 (by kernel_rfl)
    (of_decide_eq_true (by kernel_rfl)) (by unfold Func.isWrapper; first | (rw [if_pos (by decide +kernel)]; kernel_rfl) | (rw [if_neg (by decide +kernel)]; exact ⟨rfl, rfl⟩))
    (fun os started H enc _ => ledgerFloor_lifted os started H enc)
theorem ledgerFloor_holds : Rows.LedgerFloorCardSaid :=
  Claim7.holds_tied_plain_at .later [] [.data] true _ false
    ledgerFloor_row (fun _ h => by cases h) (by kernel_rfl) (fun _ h => by cases h) ledgerFloor_row_tie rfl ⟨rfl, rfl⟩ (by kernel_rfl) rfl
    (fun f fn hf hfn => by
      obtain rfl : f = 5 := Option.some.inj ((show Tryd.prog.funcNamed "forelock/forelocklaw18.LedgerFloor" = some 5 by kernel_rfl).symm.trans hf) |>.symm
      obtain rfl : fn = Tryd.f5 := (Option.some.inj (Tryd.func5.symm.trans hfn)).symm
      exact ⟨by kernel_rfl, fun j t ht => by
        rw [Tryd.params5] at ht
        have hm : t ∈ [22, 35, 23] := by simpa using Array.mem_of_getElem? ht
        have hall : ([22, 35, 23].all fun u => !Tryd.prog.wantsStandIn u) = true := by kernel_rfl
        exact (show Tryd.prog.wantsStandIn t = false by simpa using List.all_eq_true.1 hall t hm)⟩)
    (by kernel_rfl)
end Go.Proofs.YtookaodcdglhfaaDoor
