/-
  Layer 18's LedgerRuns: whatever is charged, settled and weighed, a ledger is as the document says. No condition.
-/
import Derived.Test.YtookaodcdglhfaaDoorBoth
import Derived.Deep.RegionHeld3
namespace Go.Proofs.YtookaodcdglhfaaDoor
open Go.RowKit Go.ChangeShapes Go.WideShapes Go.ChangeAt
set_option maxRecDepth 100000 in
set_option maxHeartbeats 40000000 in
theorem LedgerRuns_any (A : Option Addr) (ca n : Nat) (ws : List Int) (en : ws.length = n) (hca : n ≤ ca) (hn : n ≤ maxLen) (s c : Int) (A2 : Option Addr) (ca2 m : Nat) (l : List Deed) (em : l.length = m) (hok : ∀ d ∈ l, DeedOk d) (hm : m ≤ maxLen) (w : World) (hc : Cells w A (i64s ws)) (hc2 : Cells w A2 (tab dV l)) (hZ : Tz w) :
    Calls Tryd.prog 4 #[.slice A n ca, .agg #[.int .i64 s, .int .i64 c], .slice A2 m ca2] w (Gives (.bool true) w) := by
  unfold maxLen at hn hm
  obtain ⟨w0, ew0⟩ : ∃ w0, w0 = w.alloc (.cells #[.int .i64 s, .int .i64 c] 35) := ⟨_, rfl⟩
  have hb0 : Below w.heap.size w w0 := by rw [ew0]; exact (Below.refl _ w).alloc (Nat.le_refl _) _
  have HAW := hid (awake_any w0 (hZ.below hb0))
  have HR0 := hid (show Rec w0 w.heap.size 35 #[.int .i64 s, .int .i64 c] by rw [ew0]; exact Rec.new w _ _)
  have HZ := hid hZ
  have HC := hid hc
  have HC2 := hid hc2
  have EN := hid en
  have EM := hid em
  have HOK := hid hok
  have HB0 := hid hb0
  have EW0 := hid ew0
  have hzl := hZ.lt
  clear ew0 hb0 hc hc2 hZ en em hok
  by_cases hbig : 12 < n
  · go_enter Tryd.func4, Tryd.ntmps4
    go_wp2_with fail
    rw [← EW0.out]
    refine HAW.out.mono ?_
    rintro _ _ ⟨rfl, x0, rfl⟩
    go_wp2_with fail
    go_ret
    exact Gives.mk rfl (HB0.out.trans ((w0.below_past _).mono HB0.out.size))
  · by_cases hbig2 : 100 < m
    · have hbn : n ≤ 12 := by omega
      clear hbig
      go_enter Tryd.func4, Tryd.ntmps4
      go_wp2_with fail
      rw [← EW0.out]
      refine HAW.out.mono ?_
      rintro _ _ ⟨rfl, x0, rfl⟩
      go_wp2_with fail
      go_ret
      exact Gives.mk rfl (HB0.out.trans ((w0.below_past _).mono HB0.out.size))
    · have hbn : n ≤ 12 := by omega
      have hbm : m ≤ 100 := by omega
      clear hbig hbig2
      go_enter Tryd.func4, Tryd.ntmps4
      go_wp2_with fail
      rw [← EW0.out]
      refine HAW.out.mono ?_
      rintro _ _ ⟨rfl, x0, rfl⟩
      obtain ⟨w1, ew1⟩ : ∃ w1, w1 = w0.past x0 := ⟨_, rfl⟩
      have hb1 : Below w0.heap.size w0 w1 := by rw [ew1]; exact w0.below_past x0
      have hw1 := HB0.out.trans (hb1.mono HB0.out.size)
      have hR1 := Rec.below HR0.out hb1 (Nat.le_refl _)
      have r0 := Rec.cell hR1 0
      have r1 := Rec.cell hR1 1
      simp at r0 r1
      have HW1 := hid hw1
      have HC1 := hid (HC.out.below hw1)
      have hmx : n ≤ maxLen := by unfold maxLen; omega
      have HS1 := hid (SNew EN.out hca hmx s c HC1.out hR1)
      have HS2 := hid (fun b W (h : N1 w1 ws s c b W) => SRNew EN.out hca hmx HC1.out hR1 h)
      have HZ1 := hid (HZ.out.below hw1)
      have hzB : 0 < w1.heap.size := by have := hw1.size; omega
      rw [← ew1]
      clear ew1 hb1 hw1 hR1 hmx
      go_wp2_with fail
      go_region_held3 (fun w' => w'.cell? ⟨w.heap.size, 0, none⟩ = some (.int .i64 s) ∧ w'.cell? ⟨w.heap.size, 1, none⟩ = some (.int .i64 c)) (simp [go_sem, *]) (first | (go_at_call 7; refine HS1.out.mono ?_; rintro _ w2 ⟨b, rfl, N2, c50, c51⟩) | (go_at_call 12; refine (HS2.out b _ N2).mono ?_; rintro _ w3 ⟨b2, rfl, N3, c60, c61⟩))
      have HN3 := hid N3
      clear N3 N2 c50 c51 c60 c61 r0 r1 HS1 HS2 HC1
      have HOK0 := hid (newF_ok ws s c)
      go_wp2_with fail
      go_loopw [40] (fun i wr => ∃ (k : Nat) (S : Lg), i = .int .i64 k ∧ k ≤ m ∧ OkG S ∧ Both w1.heap.size wr b b2 S ∧ Below w1.heap.size w1 wr) (fun i _ => m - natI i)
      case atStart => exact ⟨0, _, rfl, Nat.zero_le _, HOK0.out, HN3.out.1, HN3.out.2⟩
      case round =>
        clear HN3 HOK0
        obtain ⟨k, S, rfl, hkm, hI, hL, hb⟩ := hrel
        have hsz := hb.size
        by_cases hlt : k < m
        · obtain ⟨g, o, eA, hcell⟩ := (HC2.out.below (HW1.out.trans (hb.mono HW1.out.size))).tab_at dV_length (k := k) (x := l[k]'(by rw [EM.out]; exact hlt)) (List.getElem?_eq_getElem _) (by omega)
          subst eA
          have hdok := HOK.out _ (List.getElem_mem (n := k) (by rw [EM.out]; exact hlt))
          obtain ⟨d, ed⟩ : ∃ d, l[k]'(by rw [EM.out]; exact hlt) = d := ⟨_, rfl⟩
          rw [ed] at hcell hdok
          have c0 := hcell 0 _ rfl
          have c1 := hcell 1 _ rfl
          have c2 := hcell 2 _ rfl
          have c3 := hcell 3 _ rfl
          rw [Nat.add_zero] at c0
          obtain ⟨w3, ew3⟩ : ∃ w3, w3 = wr.alloc (.cells #[.int .u8 d.k, .int .i64 d.p, .int .i64 d.w, .int .u64 (d.s : Int)] tD) := ⟨_, rfl⟩
          have hb3 : Below wr.heap.size wr w3 := by rw [ew3]; exact (Below.refl _ wr).alloc (Nat.le_refl _) _
          have hR3 : Rec w3 wr.heap.size tD #[.int .u8 d.k, .int .i64 d.p, .int .i64 d.w, .int .u64 (d.s : Int)] := by rw [ew3]; exact Rec.new wr tD _
          obtain ⟨X, eX⟩ : ∃ X, X = wr.heap.size := ⟨_, rfl⟩
          rw [← eX] at hR3
          have hst : St w1.heap.size w1 b b2 S X d w3 := ⟨hL.far hb3, hb.trans (hb3.mono hsz), hR3⟩
          have HST := hid hst
          have HOKS := hid hI
          have EW3 := hid ew3
          have EX := hid eX
          obtain ⟨hk, hs64⟩ := hdok
          have hk0 : 0 ≤ d.k := hk.1
          have hk1 : d.k < 256 := hk.2
          have e0 : w3.cell? ⟨X, 0, none⟩ = some (.int .u8 d.k) := by rw [Rec.cell hR3 0]; rfl
          obtain ⟨e1, e2, e3⟩ := box_cells hR3
          have HASK := hid (fun (S' : Lg) W (hS' : OkG S') (h : St w1.heap.size w1 b b2 S' X d W) => askB_any hS' h.both (HZ1.out.belowB hzB h.bel) d.p d.s hs64)
          have h4 : d.k % 4 = 0 ∨ d.k % 4 = 1 ∨ d.k % 4 = 2 ∨ d.k % 4 = 3 := by omega
          have hB0 : w1.heap.size ≤ w1.heap.size := Nat.le_refl _
          clear hcell hk ed hL hI hb hb3 hR3 ew3 eX hsz hst
          rcases h4 with h4 | h4 | h4 | h4
          · have hst : St w1.heap.size w1 b b2 S X d w3.drew := HST.out.far hB0 (Below.refl _ _).drew
            have K1 := hid (SCharge HOKS.out hB0 hst)
            have K2 := hid (fun W (h : Md w1.heap.size w1 b b2 S (chargeF S d.p) X d W) => SRCharge HOKS.out hB0 h)
            have HOK2 := hid (show OkG (chargeF S d.p) from HOKS.out.charge d.p)
            clear hst
            go_wp2_with fail
            rw [← EW3.out, ← EX.out]
            go_region_held3 (fun w' => w'.cell? ⟨X, 1, none⟩ = some (.int .i64 d.p) ∧ w'.cell? ⟨X, 2, none⟩ = some (.int .i64 d.w)) (simp [go_sem, *]) (first | (go_at_call 8; refine K1.out.mono ?_; rintro _ w5 ⟨rfl, M5, c50, c51⟩) | (go_at_call 13; refine (K2.out _ M5).mono ?_; rintro _ w6 ⟨rfl, M6, c60, c61⟩))
            have HST2 := hid M6
            clear M5 M6 c50 c51 c60 c61
            have HAS := hid (HASK.out (chargeF S d.p) w6 HOK2.out HST2.out)
            have hrr := HST2.out.both.r
            obtain ⟨A3, cp3, q0⟩ := hrr.len
            obtain ⟨-, -, q3⟩ := hrr.rest
            obtain ⟨z1, z2, z3⟩ := box_cells HST2.out.box
            obtain ⟨S', eS'⟩ : ∃ S', chargeF S d.p = S' := ⟨_, rfl⟩
            rw [eS'] at HAS q0 q3 HOK2 HST2
            obtain ⟨nn, enn⟩ : ∃ nn, S'.l.length = nn := ⟨_, rfl⟩
            have ENN := hid enn
            have HLEN := hid (fun x => (show Calls Tryd.prog 21 #[.pointer (some ⟨b, 0, none⟩)] (w6.past x) (Gives (.int .i64 (nn : Int)) (w6.past x)) by rw [← enn]; exact HAS.out.len x))
            rw [enn] at q0
            clear enn eS' hrr e0 e1 e2 e3 h4 HST HASK
            go_wp2_with fail
            refine wp_region_past (by kernel_rfl) (by kernel_rfl) ?_
            repeat (go_big_quiet_step ((first | (go_at_call 18; first | with_reducible exact Calls.in_past (HAS.out.fl _) | with_reducible exact Calls.in_past2 (HAS.out.fl _)) | (go_at_call 19; first | with_reducible exact Calls.in_past (HAS.out.ac _) | with_reducible exact Calls.in_past2 (HAS.out.ac _)) | (go_at_call 20; first | with_reducible exact Calls.in_past (HAS.out.rac _) | with_reducible exact Calls.in_past2 (HAS.out.rac _)) | (go_at_call 21; first | with_reducible exact Calls.in_past (HLEN.out _) | with_reducible exact Calls.in_past2 (HLEN.out _)) | (go_at_call 10; first | with_reducible exact Calls.in_past (HAS.out.le _) | with_reducible exact Calls.in_past2 (HAS.out.le _)) | (go_at_call 22; first | with_reducible exact Calls.in_past (HAS.out.rle _) | with_reducible exact Calls.in_past2 (HAS.out.rle _)) | (go_at_call 9; first | with_reducible exact Calls.in_past (HAS.out.be _) | with_reducible exact Calls.in_past2 (HAS.out.be _)) | (go_at_call 23; first | with_reducible exact Calls.in_past (HAS.out.rbe _) | with_reducible exact Calls.in_past2 (HAS.out.rbe _)) | (go_at_call 18; first | exact Calls.in_past (HAS.out.fl _) | exact Calls.in_past2 (HAS.out.fl _)) | (go_at_call 19; first | exact Calls.in_past (HAS.out.ac _) | exact Calls.in_past2 (HAS.out.ac _)) | (go_at_call 20; first | exact Calls.in_past (HAS.out.rac _) | exact Calls.in_past2 (HAS.out.rac _)) | (go_at_call 21; first | exact Calls.in_past (HLEN.out _) | exact Calls.in_past2 (HLEN.out _)) | (go_at_call 10; first | exact Calls.in_past (HAS.out.le _) | exact Calls.in_past2 (HAS.out.le _)) | (go_at_call 22; first | exact Calls.in_past (HAS.out.rle _) | exact Calls.in_past2 (HAS.out.rle _)) | (go_at_call 9; first | exact Calls.in_past (HAS.out.be _) | exact Calls.in_past2 (HAS.out.be _)) | (go_at_call 23; first | exact Calls.in_past (HAS.out.rbe _) | exact Calls.in_past2 (HAS.out.rbe _)))))
            refine wpQuiet_nil ?_
            rintro _ ⟨_, rfl⟩
            go_wp2_with fail
            go_loopw [12, 13, 14, 15] (fun i _ _ _ wq => ∃ (p : Int) (x : Past), i = .int .i64 p ∧ -1 ≤ p ∧ p ≤ nn + 1 ∧ wq = w6.past x) (fun i _ _ _ _ => (nn + 1 - intOf i).toNat)
            case atStart => exact ⟨-1, _, rfl, by omega, by omega, rfl⟩
            case round =>
              clear HAS HLEN
              obtain ⟨p, x, rfl, hp0, hp1, rfl⟩ := hrel
              by_cases hpn : p ≤ nn
              · have HIS := hid (RIs_any (HST2.out.both.past x).r p)
                have HV := hid (fun x => V_any (HST2.out.both.past x).a p)
                have HH := hid (fun x => Held_any (HST2.out.both.past x).a p)
                have HWT := hid (fun x => Weight_any (HST2.out.both.past x).a p)
                have hnn8 : nn ≤ 8 := by rw [← ENN.out]; exact HOK2.out.len
                have hw : IntKind.i64.wrap (p + 1) = p + 1 := by rw [IntKind.wrap_i64]; omega
                unfold vF at HV
                unfold heldF at HH
                unfold weightF at HWT
                cases ei : isP S'.l p with
                | false =>
                  rw [ei] at HIS HV HH HWT
                  simp only [Bool.false_eq_true, if_false] at HV HH HWT
                  clear ei
                  go_wp2_with fail
                  refine HIS.out.mono ?_
                  rintro _ _ ⟨rfl, x1, rfl⟩
                  go_wp2_with (first | (go_at_call 11; refine (HV.out _).mono ?_; rintro _ _ ⟨rfl, _, rfl⟩) | (go_at_call 25; refine (HH.out _).mono ?_; rintro _ _ ⟨rfl, _, rfl⟩) | (go_at_call 26; refine (HWT.out _).mono ?_; rintro _ _ ⟨rfl, _, rfl⟩))
                  go_roundw
                  case rel => exact ⟨p + 1, _, rfl, by omega, by omega, rfl⟩
                  case measure => simp [intOf]; omega
                | true =>
                  obtain ⟨hp2, hp3⟩ := isP_iff.1 ei
                  obtain ⟨y, ey⟩ := Int.eq_ofNat_of_zero_le hp2
                  subst ey
                  obtain ⟨g3, cap3, d0, d1, d2, d3, -⟩ := HST2.out.both.r.party (k := y) (by omega)
                  rw [q0] at d0
                  simp only [Option.some.injEq, Value.slice.injEq] at d0
                  obtain ⟨eA3, -, -⟩ := d0
                  subst eA3
                  have hyn : y < nn := by have := ENN.out; omega
                  rw [ei] at HIS HV HH HWT
                  simp only [if_true, Int.toNat_natCast] at HV HH HWT
                  clear ei
                  go_wp2_with fail
                  refine HIS.out.mono ?_
                  rintro _ _ ⟨rfl, x1, rfl⟩
                  go_wp2_with fail
                  refine wp_region_past (by kernel_rfl) (by kernel_rfl) ?_
                  repeat (go_big_quiet_step ((fail)))
                  refine wpQuiet_nil ?_
                  rintro _ ⟨_, rfl⟩
                  go_wp2_with (first | (go_at_call 11; refine (HV.out _).mono ?_; rintro _ _ ⟨rfl, _, rfl⟩) | (go_at_call 25; refine (HH.out _).mono ?_; rintro _ _ ⟨rfl, _, rfl⟩) | (go_at_call 26; refine (HWT.out _).mono ?_; rintro _ _ ⟨rfl, _, rfl⟩))
                  go_roundw
                  case rel => exact ⟨(y : Int) + 1, _, rfl, by omega, by omega, rfl⟩
                  case measure =>
                    show ((nn : Int) + 1 - ((y : Int) + 1)).toNat < ((nn : Int) + 1 - (y : Int)).toNat
                    omega
              · go_wp2_with fail
                go_roundw
                case rel => exact ⟨k + 1, S', by go_num, by omega, HOK2.out, HST2.out.both.past x, HST2.out.bel.trans ((w6.below_past x).mono HST2.out.bel.size)⟩
                case measure => simp [natI]; omega
          · have hst : St w1.heap.size w1 b b2 S X d w3.drew := HST.out.far hB0 (Below.refl _ _).drew
            have K1 := hid (SCharge HOKS.out hB0 hst)
            have K2 := hid (fun W (h : Md w1.heap.size w1 b b2 S (chargeF S d.p) X d W) => SRCharge HOKS.out hB0 h)
            have HOK2 := hid (show OkG (chargeF S d.p) from HOKS.out.charge d.p)
            clear hst
            go_wp2_with fail
            rw [← EW3.out, ← EX.out]
            go_region_held3 (fun w' => w'.cell? ⟨X, 1, none⟩ = some (.int .i64 d.p) ∧ w'.cell? ⟨X, 2, none⟩ = some (.int .i64 d.w)) (simp [go_sem, *]) (first | (go_at_call 8; refine K1.out.mono ?_; rintro _ w5 ⟨rfl, M5, c50, c51⟩) | (go_at_call 13; refine (K2.out _ M5).mono ?_; rintro _ w6 ⟨rfl, M6, c60, c61⟩))
            have HST2 := hid M6
            clear M5 M6 c50 c51 c60 c61
            have HAS := hid (HASK.out (chargeF S d.p) w6 HOK2.out HST2.out)
            have hrr := HST2.out.both.r
            obtain ⟨A3, cp3, q0⟩ := hrr.len
            obtain ⟨-, -, q3⟩ := hrr.rest
            obtain ⟨z1, z2, z3⟩ := box_cells HST2.out.box
            obtain ⟨S', eS'⟩ : ∃ S', chargeF S d.p = S' := ⟨_, rfl⟩
            rw [eS'] at HAS q0 q3 HOK2 HST2
            obtain ⟨nn, enn⟩ : ∃ nn, S'.l.length = nn := ⟨_, rfl⟩
            have ENN := hid enn
            have HLEN := hid (fun x => (show Calls Tryd.prog 21 #[.pointer (some ⟨b, 0, none⟩)] (w6.past x) (Gives (.int .i64 (nn : Int)) (w6.past x)) by rw [← enn]; exact HAS.out.len x))
            rw [enn] at q0
            clear enn eS' hrr e0 e1 e2 e3 h4 HST HASK
            go_wp2_with fail
            refine wp_region_past (by kernel_rfl) (by kernel_rfl) ?_
            repeat (go_big_quiet_step ((first | (go_at_call 18; first | with_reducible exact Calls.in_past (HAS.out.fl _) | with_reducible exact Calls.in_past2 (HAS.out.fl _)) | (go_at_call 19; first | with_reducible exact Calls.in_past (HAS.out.ac _) | with_reducible exact Calls.in_past2 (HAS.out.ac _)) | (go_at_call 20; first | with_reducible exact Calls.in_past (HAS.out.rac _) | with_reducible exact Calls.in_past2 (HAS.out.rac _)) | (go_at_call 21; first | with_reducible exact Calls.in_past (HLEN.out _) | with_reducible exact Calls.in_past2 (HLEN.out _)) | (go_at_call 10; first | with_reducible exact Calls.in_past (HAS.out.le _) | with_reducible exact Calls.in_past2 (HAS.out.le _)) | (go_at_call 22; first | with_reducible exact Calls.in_past (HAS.out.rle _) | with_reducible exact Calls.in_past2 (HAS.out.rle _)) | (go_at_call 9; first | with_reducible exact Calls.in_past (HAS.out.be _) | with_reducible exact Calls.in_past2 (HAS.out.be _)) | (go_at_call 23; first | with_reducible exact Calls.in_past (HAS.out.rbe _) | with_reducible exact Calls.in_past2 (HAS.out.rbe _)) | (go_at_call 18; first | exact Calls.in_past (HAS.out.fl _) | exact Calls.in_past2 (HAS.out.fl _)) | (go_at_call 19; first | exact Calls.in_past (HAS.out.ac _) | exact Calls.in_past2 (HAS.out.ac _)) | (go_at_call 20; first | exact Calls.in_past (HAS.out.rac _) | exact Calls.in_past2 (HAS.out.rac _)) | (go_at_call 21; first | exact Calls.in_past (HLEN.out _) | exact Calls.in_past2 (HLEN.out _)) | (go_at_call 10; first | exact Calls.in_past (HAS.out.le _) | exact Calls.in_past2 (HAS.out.le _)) | (go_at_call 22; first | exact Calls.in_past (HAS.out.rle _) | exact Calls.in_past2 (HAS.out.rle _)) | (go_at_call 9; first | exact Calls.in_past (HAS.out.be _) | exact Calls.in_past2 (HAS.out.be _)) | (go_at_call 23; first | exact Calls.in_past (HAS.out.rbe _) | exact Calls.in_past2 (HAS.out.rbe _)))))
            refine wpQuiet_nil ?_
            rintro _ ⟨_, rfl⟩
            go_wp2_with fail
            go_loopw [12, 13, 14, 15] (fun i _ _ _ wq => ∃ (p : Int) (x : Past), i = .int .i64 p ∧ -1 ≤ p ∧ p ≤ nn + 1 ∧ wq = w6.past x) (fun i _ _ _ _ => (nn + 1 - intOf i).toNat)
            case atStart => exact ⟨-1, _, rfl, by omega, by omega, rfl⟩
            case round =>
              clear HAS HLEN
              obtain ⟨p, x, rfl, hp0, hp1, rfl⟩ := hrel
              by_cases hpn : p ≤ nn
              · have HIS := hid (RIs_any (HST2.out.both.past x).r p)
                have HV := hid (fun x => V_any (HST2.out.both.past x).a p)
                have HH := hid (fun x => Held_any (HST2.out.both.past x).a p)
                have HWT := hid (fun x => Weight_any (HST2.out.both.past x).a p)
                have hnn8 : nn ≤ 8 := by rw [← ENN.out]; exact HOK2.out.len
                have hw : IntKind.i64.wrap (p + 1) = p + 1 := by rw [IntKind.wrap_i64]; omega
                unfold vF at HV
                unfold heldF at HH
                unfold weightF at HWT
                cases ei : isP S'.l p with
                | false =>
                  rw [ei] at HIS HV HH HWT
                  simp only [Bool.false_eq_true, if_false] at HV HH HWT
                  clear ei
                  go_wp2_with fail
                  refine HIS.out.mono ?_
                  rintro _ _ ⟨rfl, x1, rfl⟩
                  go_wp2_with (first | (go_at_call 11; refine (HV.out _).mono ?_; rintro _ _ ⟨rfl, _, rfl⟩) | (go_at_call 25; refine (HH.out _).mono ?_; rintro _ _ ⟨rfl, _, rfl⟩) | (go_at_call 26; refine (HWT.out _).mono ?_; rintro _ _ ⟨rfl, _, rfl⟩))
                  go_roundw
                  case rel => exact ⟨p + 1, _, rfl, by omega, by omega, rfl⟩
                  case measure => simp [intOf]; omega
                | true =>
                  obtain ⟨hp2, hp3⟩ := isP_iff.1 ei
                  obtain ⟨y, ey⟩ := Int.eq_ofNat_of_zero_le hp2
                  subst ey
                  obtain ⟨g3, cap3, d0, d1, d2, d3, -⟩ := HST2.out.both.r.party (k := y) (by omega)
                  rw [q0] at d0
                  simp only [Option.some.injEq, Value.slice.injEq] at d0
                  obtain ⟨eA3, -, -⟩ := d0
                  subst eA3
                  have hyn : y < nn := by have := ENN.out; omega
                  rw [ei] at HIS HV HH HWT
                  simp only [if_true, Int.toNat_natCast] at HV HH HWT
                  clear ei
                  go_wp2_with fail
                  refine HIS.out.mono ?_
                  rintro _ _ ⟨rfl, x1, rfl⟩
                  go_wp2_with fail
                  refine wp_region_past (by kernel_rfl) (by kernel_rfl) ?_
                  repeat (go_big_quiet_step ((fail)))
                  refine wpQuiet_nil ?_
                  rintro _ ⟨_, rfl⟩
                  go_wp2_with (first | (go_at_call 11; refine (HV.out _).mono ?_; rintro _ _ ⟨rfl, _, rfl⟩) | (go_at_call 25; refine (HH.out _).mono ?_; rintro _ _ ⟨rfl, _, rfl⟩) | (go_at_call 26; refine (HWT.out _).mono ?_; rintro _ _ ⟨rfl, _, rfl⟩))
                  go_roundw
                  case rel => exact ⟨(y : Int) + 1, _, rfl, by omega, by omega, rfl⟩
                  case measure =>
                    show ((nn : Int) + 1 - ((y : Int) + 1)).toNat < ((nn : Int) + 1 - (y : Int)).toNat
                    omega
              · go_wp2_with fail
                go_roundw
                case rel => exact ⟨k + 1, S', by go_num, by omega, HOK2.out, HST2.out.both.past x, HST2.out.bel.trans ((w6.below_past x).mono HST2.out.bel.size)⟩
                case measure => simp [natI]; omega
          · have K1 := hid (SSettle HOKS.out hB0 HZ1.out hzB hs64 HST.out)
            have K2 := hid (fun W (h : Md w1.heap.size w1 b b2 S (settleF S d.s) X d W) => SRSettle HOKS.out hB0 h)
            have HOK2 := hid (show OkG (settleF S d.s) from HOKS.out.settle d.s)
            go_wp2_with fail
            rw [← EW3.out, ← EX.out]
            refine K1.out.mono ?_
            rintro _ w5 ⟨rfl, M5⟩
            have y3 := (box_cells M5.box).2.2
            have HM5 := hid M5
            clear M5
            go_wp2_with fail
            refine (K2.out _ HM5.out).mono ?_
            rintro _ w6 ⟨rfl, M6⟩
            have HST2 := hid M6
            clear M6 y3
            have HAS := hid (HASK.out (settleF S d.s) w6 HOK2.out HST2.out)
            have hrr := HST2.out.both.r
            obtain ⟨A3, cp3, q0⟩ := hrr.len
            obtain ⟨-, -, q3⟩ := hrr.rest
            obtain ⟨z1, z2, z3⟩ := box_cells HST2.out.box
            obtain ⟨S', eS'⟩ : ∃ S', settleF S d.s = S' := ⟨_, rfl⟩
            rw [eS'] at HAS q0 q3 HOK2 HST2
            obtain ⟨nn, enn⟩ : ∃ nn, S'.l.length = nn := ⟨_, rfl⟩
            have ENN := hid enn
            have HLEN := hid (fun x => (show Calls Tryd.prog 21 #[.pointer (some ⟨b, 0, none⟩)] (w6.past x) (Gives (.int .i64 (nn : Int)) (w6.past x)) by rw [← enn]; exact HAS.out.len x))
            rw [enn] at q0
            clear enn eS' hrr e0 e1 e2 e3 h4 HST HASK
            go_wp2_with fail
            refine wp_region_past (by kernel_rfl) (by kernel_rfl) ?_
            repeat (go_big_quiet_step ((first | (go_at_call 18; first | with_reducible exact Calls.in_past (HAS.out.fl _) | with_reducible exact Calls.in_past2 (HAS.out.fl _)) | (go_at_call 19; first | with_reducible exact Calls.in_past (HAS.out.ac _) | with_reducible exact Calls.in_past2 (HAS.out.ac _)) | (go_at_call 20; first | with_reducible exact Calls.in_past (HAS.out.rac _) | with_reducible exact Calls.in_past2 (HAS.out.rac _)) | (go_at_call 21; first | with_reducible exact Calls.in_past (HLEN.out _) | with_reducible exact Calls.in_past2 (HLEN.out _)) | (go_at_call 10; first | with_reducible exact Calls.in_past (HAS.out.le _) | with_reducible exact Calls.in_past2 (HAS.out.le _)) | (go_at_call 22; first | with_reducible exact Calls.in_past (HAS.out.rle _) | with_reducible exact Calls.in_past2 (HAS.out.rle _)) | (go_at_call 9; first | with_reducible exact Calls.in_past (HAS.out.be _) | with_reducible exact Calls.in_past2 (HAS.out.be _)) | (go_at_call 23; first | with_reducible exact Calls.in_past (HAS.out.rbe _) | with_reducible exact Calls.in_past2 (HAS.out.rbe _)) | (go_at_call 18; first | exact Calls.in_past (HAS.out.fl _) | exact Calls.in_past2 (HAS.out.fl _)) | (go_at_call 19; first | exact Calls.in_past (HAS.out.ac _) | exact Calls.in_past2 (HAS.out.ac _)) | (go_at_call 20; first | exact Calls.in_past (HAS.out.rac _) | exact Calls.in_past2 (HAS.out.rac _)) | (go_at_call 21; first | exact Calls.in_past (HLEN.out _) | exact Calls.in_past2 (HLEN.out _)) | (go_at_call 10; first | exact Calls.in_past (HAS.out.le _) | exact Calls.in_past2 (HAS.out.le _)) | (go_at_call 22; first | exact Calls.in_past (HAS.out.rle _) | exact Calls.in_past2 (HAS.out.rle _)) | (go_at_call 9; first | exact Calls.in_past (HAS.out.be _) | exact Calls.in_past2 (HAS.out.be _)) | (go_at_call 23; first | exact Calls.in_past (HAS.out.rbe _) | exact Calls.in_past2 (HAS.out.rbe _)))))
            refine wpQuiet_nil ?_
            rintro _ ⟨_, rfl⟩
            go_wp2_with fail
            go_loopw [12, 13, 14, 15] (fun i _ _ _ wq => ∃ (p : Int) (x : Past), i = .int .i64 p ∧ -1 ≤ p ∧ p ≤ nn + 1 ∧ wq = w6.past x) (fun i _ _ _ _ => (nn + 1 - intOf i).toNat)
            case atStart => exact ⟨-1, _, rfl, by omega, by omega, rfl⟩
            case round =>
              clear HAS HLEN
              obtain ⟨p, x, rfl, hp0, hp1, rfl⟩ := hrel
              by_cases hpn : p ≤ nn
              · have HIS := hid (RIs_any (HST2.out.both.past x).r p)
                have HV := hid (fun x => V_any (HST2.out.both.past x).a p)
                have HH := hid (fun x => Held_any (HST2.out.both.past x).a p)
                have HWT := hid (fun x => Weight_any (HST2.out.both.past x).a p)
                have hnn8 : nn ≤ 8 := by rw [← ENN.out]; exact HOK2.out.len
                have hw : IntKind.i64.wrap (p + 1) = p + 1 := by rw [IntKind.wrap_i64]; omega
                unfold vF at HV
                unfold heldF at HH
                unfold weightF at HWT
                cases ei : isP S'.l p with
                | false =>
                  rw [ei] at HIS HV HH HWT
                  simp only [Bool.false_eq_true, if_false] at HV HH HWT
                  clear ei
                  go_wp2_with fail
                  refine HIS.out.mono ?_
                  rintro _ _ ⟨rfl, x1, rfl⟩
                  go_wp2_with (first | (go_at_call 11; refine (HV.out _).mono ?_; rintro _ _ ⟨rfl, _, rfl⟩) | (go_at_call 25; refine (HH.out _).mono ?_; rintro _ _ ⟨rfl, _, rfl⟩) | (go_at_call 26; refine (HWT.out _).mono ?_; rintro _ _ ⟨rfl, _, rfl⟩))
                  go_roundw
                  case rel => exact ⟨p + 1, _, rfl, by omega, by omega, rfl⟩
                  case measure => simp [intOf]; omega
                | true =>
                  obtain ⟨hp2, hp3⟩ := isP_iff.1 ei
                  obtain ⟨y, ey⟩ := Int.eq_ofNat_of_zero_le hp2
                  subst ey
                  obtain ⟨g3, cap3, d0, d1, d2, d3, -⟩ := HST2.out.both.r.party (k := y) (by omega)
                  rw [q0] at d0
                  simp only [Option.some.injEq, Value.slice.injEq] at d0
                  obtain ⟨eA3, -, -⟩ := d0
                  subst eA3
                  have hyn : y < nn := by have := ENN.out; omega
                  rw [ei] at HIS HV HH HWT
                  simp only [if_true, Int.toNat_natCast] at HV HH HWT
                  clear ei
                  go_wp2_with fail
                  refine HIS.out.mono ?_
                  rintro _ _ ⟨rfl, x1, rfl⟩
                  go_wp2_with fail
                  refine wp_region_past (by kernel_rfl) (by kernel_rfl) ?_
                  repeat (go_big_quiet_step ((fail)))
                  refine wpQuiet_nil ?_
                  rintro _ ⟨_, rfl⟩
                  go_wp2_with (first | (go_at_call 11; refine (HV.out _).mono ?_; rintro _ _ ⟨rfl, _, rfl⟩) | (go_at_call 25; refine (HH.out _).mono ?_; rintro _ _ ⟨rfl, _, rfl⟩) | (go_at_call 26; refine (HWT.out _).mono ?_; rintro _ _ ⟨rfl, _, rfl⟩))
                  go_roundw
                  case rel => exact ⟨(y : Int) + 1, _, rfl, by omega, by omega, rfl⟩
                  case measure =>
                    show ((nn : Int) + 1 - ((y : Int) + 1)).toNat < ((nn : Int) + 1 - (y : Int)).toNat
                    omega
              · go_wp2_with fail
                go_roundw
                case rel => exact ⟨k + 1, S', by go_num, by omega, HOK2.out, HST2.out.both.past x, HST2.out.bel.trans ((w6.below_past x).mono HST2.out.bel.size)⟩
                case measure => simp [natI]; omega
          · have hst : St w1.heap.size w1 b b2 S X d w3.drew := HST.out.far hB0 (Below.refl _ _).drew
            have K1 := hid (SWeigh HOKS.out hB0 hst)
            have K2 := hid (fun W (h : Md w1.heap.size w1 b b2 S (weighF S d.p d.w) X d W) => SRWeigh HOKS.out hB0 h)
            have HOK2 := hid (show OkG (weighF S d.p d.w) from HOKS.out.weigh d.p d.w)
            clear hst
            go_wp2_with fail
            rw [← EW3.out, ← EX.out]
            go_region_held3 (fun w' => w'.cell? ⟨X, 1, none⟩ = some (.int .i64 d.p) ∧ w'.cell? ⟨X, 2, none⟩ = some (.int .i64 d.w)) (simp [go_sem, *]) (first | (go_at_call 16; refine K1.out.mono ?_; rintro _ w5 ⟨rfl, M5, c50, c51⟩) | (go_at_call 17; refine (K2.out _ M5).mono ?_; rintro _ w6 ⟨rfl, M6, c60, c61⟩))
            have HST2 := hid M6
            clear M5 M6 c50 c51 c60 c61
            have HAS := hid (HASK.out (weighF S d.p d.w) w6 HOK2.out HST2.out)
            have hrr := HST2.out.both.r
            obtain ⟨A3, cp3, q0⟩ := hrr.len
            obtain ⟨-, -, q3⟩ := hrr.rest
            obtain ⟨z1, z2, z3⟩ := box_cells HST2.out.box
            obtain ⟨S', eS'⟩ : ∃ S', weighF S d.p d.w = S' := ⟨_, rfl⟩
            rw [eS'] at HAS q0 q3 HOK2 HST2
            obtain ⟨nn, enn⟩ : ∃ nn, S'.l.length = nn := ⟨_, rfl⟩
            have ENN := hid enn
            have HLEN := hid (fun x => (show Calls Tryd.prog 21 #[.pointer (some ⟨b, 0, none⟩)] (w6.past x) (Gives (.int .i64 (nn : Int)) (w6.past x)) by rw [← enn]; exact HAS.out.len x))
            rw [enn] at q0
            clear enn eS' hrr e0 e1 e2 e3 h4 HST HASK
            go_wp2_with fail
            refine wp_region_past (by kernel_rfl) (by kernel_rfl) ?_
            repeat (go_big_quiet_step ((first | (go_at_call 18; first | with_reducible exact Calls.in_past (HAS.out.fl _) | with_reducible exact Calls.in_past2 (HAS.out.fl _)) | (go_at_call 19; first | with_reducible exact Calls.in_past (HAS.out.ac _) | with_reducible exact Calls.in_past2 (HAS.out.ac _)) | (go_at_call 20; first | with_reducible exact Calls.in_past (HAS.out.rac _) | with_reducible exact Calls.in_past2 (HAS.out.rac _)) | (go_at_call 21; first | with_reducible exact Calls.in_past (HLEN.out _) | with_reducible exact Calls.in_past2 (HLEN.out _)) | (go_at_call 10; first | with_reducible exact Calls.in_past (HAS.out.le _) | with_reducible exact Calls.in_past2 (HAS.out.le _)) | (go_at_call 22; first | with_reducible exact Calls.in_past (HAS.out.rle _) | with_reducible exact Calls.in_past2 (HAS.out.rle _)) | (go_at_call 9; first | with_reducible exact Calls.in_past (HAS.out.be _) | with_reducible exact Calls.in_past2 (HAS.out.be _)) | (go_at_call 23; first | with_reducible exact Calls.in_past (HAS.out.rbe _) | with_reducible exact Calls.in_past2 (HAS.out.rbe _)) | (go_at_call 18; first | exact Calls.in_past (HAS.out.fl _) | exact Calls.in_past2 (HAS.out.fl _)) | (go_at_call 19; first | exact Calls.in_past (HAS.out.ac _) | exact Calls.in_past2 (HAS.out.ac _)) | (go_at_call 20; first | exact Calls.in_past (HAS.out.rac _) | exact Calls.in_past2 (HAS.out.rac _)) | (go_at_call 21; first | exact Calls.in_past (HLEN.out _) | exact Calls.in_past2 (HLEN.out _)) | (go_at_call 10; first | exact Calls.in_past (HAS.out.le _) | exact Calls.in_past2 (HAS.out.le _)) | (go_at_call 22; first | exact Calls.in_past (HAS.out.rle _) | exact Calls.in_past2 (HAS.out.rle _)) | (go_at_call 9; first | exact Calls.in_past (HAS.out.be _) | exact Calls.in_past2 (HAS.out.be _)) | (go_at_call 23; first | exact Calls.in_past (HAS.out.rbe _) | exact Calls.in_past2 (HAS.out.rbe _)))))
            refine wpQuiet_nil ?_
            rintro _ ⟨_, rfl⟩
            go_wp2_with fail
            go_loopw [12, 13, 14, 15] (fun i _ _ _ wq => ∃ (p : Int) (x : Past), i = .int .i64 p ∧ -1 ≤ p ∧ p ≤ nn + 1 ∧ wq = w6.past x) (fun i _ _ _ _ => (nn + 1 - intOf i).toNat)
            case atStart => exact ⟨-1, _, rfl, by omega, by omega, rfl⟩
            case round =>
              clear HAS HLEN
              obtain ⟨p, x, rfl, hp0, hp1, rfl⟩ := hrel
              by_cases hpn : p ≤ nn
              · have HIS := hid (RIs_any (HST2.out.both.past x).r p)
                have HV := hid (fun x => V_any (HST2.out.both.past x).a p)
                have HH := hid (fun x => Held_any (HST2.out.both.past x).a p)
                have HWT := hid (fun x => Weight_any (HST2.out.both.past x).a p)
                have hnn8 : nn ≤ 8 := by rw [← ENN.out]; exact HOK2.out.len
                have hw : IntKind.i64.wrap (p + 1) = p + 1 := by rw [IntKind.wrap_i64]; omega
                unfold vF at HV
                unfold heldF at HH
                unfold weightF at HWT
                cases ei : isP S'.l p with
                | false =>
                  rw [ei] at HIS HV HH HWT
                  simp only [Bool.false_eq_true, if_false] at HV HH HWT
                  clear ei
                  go_wp2_with fail
                  refine HIS.out.mono ?_
                  rintro _ _ ⟨rfl, x1, rfl⟩
                  go_wp2_with (first | (go_at_call 11; refine (HV.out _).mono ?_; rintro _ _ ⟨rfl, _, rfl⟩) | (go_at_call 25; refine (HH.out _).mono ?_; rintro _ _ ⟨rfl, _, rfl⟩) | (go_at_call 26; refine (HWT.out _).mono ?_; rintro _ _ ⟨rfl, _, rfl⟩))
                  go_roundw
                  case rel => exact ⟨p + 1, _, rfl, by omega, by omega, rfl⟩
                  case measure => simp [intOf]; omega
                | true =>
                  obtain ⟨hp2, hp3⟩ := isP_iff.1 ei
                  obtain ⟨y, ey⟩ := Int.eq_ofNat_of_zero_le hp2
                  subst ey
                  obtain ⟨g3, cap3, d0, d1, d2, d3, -⟩ := HST2.out.both.r.party (k := y) (by omega)
                  rw [q0] at d0
                  simp only [Option.some.injEq, Value.slice.injEq] at d0
                  obtain ⟨eA3, -, -⟩ := d0
                  subst eA3
                  have hyn : y < nn := by have := ENN.out; omega
                  rw [ei] at HIS HV HH HWT
                  simp only [if_true, Int.toNat_natCast] at HV HH HWT
                  clear ei
                  go_wp2_with fail
                  refine HIS.out.mono ?_
                  rintro _ _ ⟨rfl, x1, rfl⟩
                  go_wp2_with fail
                  refine wp_region_past (by kernel_rfl) (by kernel_rfl) ?_
                  repeat (go_big_quiet_step ((fail)))
                  refine wpQuiet_nil ?_
                  rintro _ ⟨_, rfl⟩
                  go_wp2_with (first | (go_at_call 11; refine (HV.out _).mono ?_; rintro _ _ ⟨rfl, _, rfl⟩) | (go_at_call 25; refine (HH.out _).mono ?_; rintro _ _ ⟨rfl, _, rfl⟩) | (go_at_call 26; refine (HWT.out _).mono ?_; rintro _ _ ⟨rfl, _, rfl⟩))
                  go_roundw
                  case rel => exact ⟨(y : Int) + 1, _, rfl, by omega, by omega, rfl⟩
                  case measure =>
                    show ((nn : Int) + 1 - ((y : Int) + 1)).toNat < ((nn : Int) + 1 - (y : Int)).toNat
                    omega
              · go_wp2_with fail
                go_roundw
                case rel => exact ⟨k + 1, S', by go_num, by omega, HOK2.out, HST2.out.both.past x, HST2.out.bel.trans ((w6.below_past x).mono HST2.out.bel.size)⟩
                case measure => simp [natI]; omega
        · obtain rfl : k = m := by omega
          have HBR := hid (HW1.out.trans (hb.mono HW1.out.size))
          clear hL hI hb
          go_wp2_with fail
          go_ret
          exact Gives.mk rfl HBR.out
theorem ledgerRuns_own : ownKnob Tryd.prog.godebug = none := by kernel_rfl
theorem ledgerRuns_laidOut : laidOutB Tryd.prog = true := by kernel_rfl
theorem ledgerRuns_types : ∀ t ∈ Tryd.f4.params.toList, Tryd.prog.readableRec t = true ∧ t < Tryd.prog.types.size := by
  rw [Tryd.params4]
  intro t ht
  simp only [List.mem_cons, List.not_mem_nil, or_false] at ht
  rcases ht with rfl | rfl | rfl
  · exact ⟨by kernel_rfl, of_decide_eq_true (by kernel_rfl)⟩
  · exact ⟨by kernel_rfl, of_decide_eq_true (by kernel_rfl)⟩
  · exact ⟨by kernel_rfl, of_decide_eq_true (by kernel_rfl)⟩
set_option maxRecDepth 100000 in
theorem ledgerRuns_lifted (os : Os) (started : os.Started) (H : Type) (enc : TypeId × Value → H) :
    ReturnsInHanded {} Tryd.checked os 4 .any (fun w args => (Rows.ledgerRunsSpec.pre enc Tryd.prog Tryd.f4 [] false w args ∧ laidMetH Tryd.prog laidT w) ∧ sizedMet enc Tryd.prog Tryd.f4 (OpenSpec.ofChange Rows.ledgerRunsSpec) false w args) (Rows.ledgerRunsSpec.post enc Tryd.prog Tryd.f4 false true false false) := by
  refine returnsInHanded_of_change_and (C := Tryd.checked) (X := fun w _ => laidMetH Tryd.prog laidT w) (fun _ _ _ hh h => h.of_heap hh) ledgerRuns_own started (by kernel_rfl) Tryd.func4
    (ChangeSpec.witness_shaped (enc := enc) (C := Tryd.checked) (os := os) (X := fun w _ => laidMetH Tryd.prog laidT w) false (World.doorLaid Tryd.prog 14 os) #[.slice none 0 0, .agg #[.int .i64 0, .int .i64 0], .slice none 0 0] 8 rfl (World.shaped_of_RefB (by kernel_rfl) (by kernel_rfl)) (by kernel_rfl) (by kernel_rfl) (by kernel_rfl) (door_met os _)) ?_
  intro W base args ds gs before hval0 hW hcnd _ hLaid _
  have hZ : Tz W := tz_of_laid hLaid
  clear hLaid
  have hval : ∀ (j : Nat) t v, Tryd.f4.params[j]? = some t → args[j]? = some v → Value.okWide Tryd.prog W .any base t v := hval0
  have hW' := hW
  obtain ⟨p, q, hA0, hV, hpq, hfz, hnd⟩ := hW
  have hA : DataW.TrodAll enc Tryd.prog W 0 (fun _ => true) true Tryd.f4.params.toList args.toList ds p := hA0
  rw [Tryd.params4] at hA hval
  obtain ⟨v0, vs0, d0, ds0, p0, q0, hargs, rfl, rfl, h0, r0⟩ := trodAll_cons hA
  obtain ⟨v1, vs1, d1, ds1, p1, q1, rfl, rfl, rfl, h1, r1⟩ := trodAll_cons r0
  obtain ⟨v2, vs2, d2, ds2, p2, q2, rfl, rfl, rfl, h2, r2⟩ := trodAll_cons r1
  obtain ⟨rfl, rfl, rfl⟩ := trodAll_nil r2
  obtain rfl : args = #[v0, v1, v2] := by cases args; simp_all
  have k0 := hval 0 22 v0 rfl rfl
  have k1 := hval 1 35 v1 rfl rfl
  have k2 := hval 2 23 v2 rfl rfl
  clear hA0 hval0 hval hcnd hfz hnd hpq hV hargs r2
  suffices hs : Calls Tryd.prog 4 #[v0, v1, v2] W (Gives (.bool true) W) from hs.mono fun e W' ⟨he, x, hx⟩ => ⟨_, he, law_post ledgerRuns_laidOut hW' rfl rfl (by kernel_rfl) (by first | exact Tryd.underlying4 | rfl) ledgerRuns_types (hx ▸ W.below_past x)⟩
  clear hW'
  obtain ⟨A, ca, ws, rfl, ha, _, hl, hcap⟩ := rd_tabC (f := fun x : Int => [Value.int .i64 x]) (c := 1) (K := fun _ => True) (fun _ => rfl) (by omega) (rd_slice Tryd.underlying22 k0 h0) Tryd.underlying22 c_int1 (fun _ h => rd_one h)
  obtain ⟨cs, rfl, hr⟩ := rd_agg (.inr ⟨_, _, Tryd.underlying35⟩) k1 h1
  obtain ⟨s, c, rfl, _⟩ := rd_pair hr
  obtain ⟨A2, ca2, l, rfl, ha2, hok, hl2, _⟩ := rd_tabC (f := dV) (c := 4) (K := DeedOk) dV_length (by omega) (rd_slice Tryd.underlying23 k2 h2) Tryd.underlying23 c_deed4 (fun _ h => rd_deed2 h)
  exact LedgerRuns_any A ca _ ws rfl hcap hl s c A2 ca2 _ l rfl hok hl2 W (by rw [tab_one] at ha; exact ha) ha2 hZ
theorem ledgerRuns_row : Rows.LedgerRunsSaid :=
  OpenClaim.holds_of_wide 4 Tryd.f4 rfl rfl rfl rfl rfl rfl rfl ⟨rfl, rfl, rfl, rfl, rfl⟩ rfl rfl rfl rfl rfl (by kernel_rfl) Tryd.func4 (by kernel_rfl)
    (of_decide_eq_true (by kernel_rfl)) (by unfold Func.isWrapper; first | (rw [if_pos (by decide +kernel)]; kernel_rfl) | (rw [if_neg (by decide +kernel)]; exact ⟨rfl, rfl⟩))
    (fun os started H enc _ => ledgerRuns_lifted os started H enc)
theorem ledgerRuns_holds : Rows.LedgerRunsCardSaid :=
  Claim7.holds_tied_plain_at .later [] [.data] true _ false
    ledgerRuns_row (fun _ h => by cases h) (by kernel_rfl) (fun _ h => by cases h) ledgerRuns_row_tie rfl ⟨rfl, rfl⟩ (by kernel_rfl) rfl
    (fun f fn hf hfn => by
      obtain rfl : f = 4 := Option.some.inj ((show Tryd.prog.funcNamed "forelock/forelocklaw18.LedgerRuns" = some 4 by kernel_rfl).symm.trans hf) |>.symm
      obtain rfl : fn = Tryd.f4 := (Option.some.inj (Tryd.func4.symm.trans hfn)).symm
      exact ⟨by kernel_rfl, fun j t ht => by
        rw [Tryd.params4] at ht
        have hm : t ∈ [22, 35, 23] := by simpa using Array.mem_of_getElem? ht
        have hall : ([22, 35, 23].all fun u => !Tryd.prog.wantsStandIn u) = true := by kernel_rfl
        exact (show Tryd.prog.wantsStandIn t = false by simpa using List.all_eq_true.1 hall t hm)⟩)
    (by kernel_rfl)
end Go.Proofs.YtookaodcdglhfaaDoor
