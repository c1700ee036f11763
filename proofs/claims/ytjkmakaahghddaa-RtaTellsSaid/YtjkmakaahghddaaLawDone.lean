/-
  Layer 43's RtaDone: the answer time without a block is just when the work is done for the first time, by levels; and no other time is. No condition.
-/
import Derived.Test.YtjkmakaahghddaaRtaK
namespace Go.Proofs.Ytjkmakaahghddaa
open Go.RowKit Go.ChangeShapes Go.WideShapes Go.ChangeAt
theorem time_in {l : List Wk} (h : ∀ x ∈ l, WkOk x) (k : Nat) {B : Int} (hB : 0 ≤ B) : timeF l k B = -1 ∨ (1 ≤ timeF l k B ∧ timeF l k B ≤ 10000) := by
  have hok := (wk_ok h k).1
  unfold timeF
  rcases search_spec (needF l k B) (10001 - ((wk l k).c + B)).toNat ((wk l k).c + B) with ⟨x, h1, h2, h3, _⟩ | ⟨h1, _⟩
  · rw [h1]; omega
  · exact .inl h1
theorem may_few {l : List Wk} (h : 6 < l.length) : mayF l = false := by
  unfold mayF; simp [show ¬ l.length ≤ 6 by omega]
/-- What the law's row of works is. -/
theorem rd_works {H : Type} {enc : TypeId × Value → H} {W : World} {v : Value} (cw : Try.prog.cellsOf 32 = 3) (rdw : ∀ cs : List Value, Rd enc Try.prog W 32 cs → ∃ x, cs = wkV x ∧ (I64 x.c ∧ I64 x.p ∧ I64 x.d)) (h : Rd enc Try.prog W 22 [v]) :
    ∃ (A : Option Addr) (c : Nat) (l : List Wk), v = .slice A l.length c ∧ Cells W A (tab wkV l) ∧ (∀ x ∈ l, I64 x.c ∧ I64 x.p ∧ I64 x.d) ∧ l.length ≤ maxLen ∧ l.length ≤ c :=
  rd_tabC wkV_length (by omega) h Try.underlying22 cw rdw
theorem c_int : Try.prog.cellsOf 3 = 1 := by kernel_rfl
theorem c_work_3 : Try.prog.cellsOf 3 = 1 := by kernel_rfl
theorem c_work : Try.prog.cellsOf 32 = 3 := by kernel_rfl
theorem rd_work {H : Type} {enc : TypeId × Value → H} {W : World} {cs : Array Value} (h : Rd enc Try.prog W 32 cs.toList) : ∃ x0 x1 x2 : Int, cs = #[.int .i64 x0, .int .i64 x1, .int .i64 x2] ∧ I64 x0 ∧ I64 x1 ∧ I64 x2 := by
  obtain ⟨c0, c1, c2, e⟩ := cs_three (h.len_struct Try.underlying32 c_work)
  rw [e] at h
  obtain ⟨x0, e0, w0⟩ := Rd.int (h.field Try.underlying32 0 3 0 1 rfl c_work_3) Try.underlying3
  obtain ⟨x1, e1, w1⟩ := Rd.int (h.field Try.underlying32 1 3 1 1 rfl c_work_3) Try.underlying3
  obtain ⟨x2, e2, w2⟩ := Rd.int (h.field Try.underlying32 2 3 2 1 rfl c_work_3) Try.underlying3
  simp at e0 e1 e2
  subst e0 e1 e2
  exact ⟨x0, x1, x2, arr_of e, i64_of w0, i64_of w1, i64_of w2⟩
theorem rd_wk {H : Type} {enc : TypeId × Value → H} {W : World} : ∀ cs : List Value, Rd enc Try.prog W 32 cs → ∃ x, cs = wkV x ∧ (I64 x.c ∧ I64 x.p ∧ I64 x.d) := fun cs hcs => by
  obtain ⟨x0, x1, x2, e, h0, h1, h2⟩ := rd_work (cs := cs.toArray) hcs
  exact ⟨⟨x0, x1, x2⟩, by simpa [wkV] using congrArg Array.toList e, h0, h1, h2⟩
set_option maxHeartbeats 2000000 in
theorem RtaDone_any (A : Option Addr) (ca n : Nat) (l : List Wk) (en : l.length = n) (hn : n ≤ maxLen) (hca : n ≤ ca) (w : World) (ha : Cells w A (tab wkV l)) :
    Calls Try.prog 4 #[.slice A n ca] w (Gives (.bool true) w) := by
  have hM := fun x => RMay_any A ca n l en hn (w.past x) (ha.past x)
  cases hm : mayF l with
  | false =>
    rw [hm] at hM
    have HM := hid hM
    clear hM hm ha en
    go_enter Try.func4, Try.ntmps4
    go_wp2_with (first | (go_at_call 6; refine (awake_any _).mono ?_; rintro _ _ ⟨rfl, _, rfl⟩) | (go_at_call 11; refine (HM.out _).mono ?_; rintro _ _ ⟨rfl, _, rfl⟩))
    go_ret
    refine Gives.mk rfl ?_
    (repeat (first | exact Below.refl _ _ | refine RowKit.Below.past ?_ _ | refine RowKit.Below.alloc' ?_ _ | refine RowKit.Below.drew' ?_ | refine RowKit.Below.drewN' ?_ _ | refine RowKit.Below.setCell' ?_ (by simp [go_sem]) _))
  | true =>
    have hf := ((mayF_iff l).1 hm).1
    have hls : LsW l n ca A w := ⟨en, hca, by omega, ha⟩
    have hT := fun x => Times_any A ca n l 0 (w.past x) (hls.past x)
    have e0 : clampF 0 0 1000 = 0 := by decide
    have hf2 : timesF l 0 = timesK l 0 n := by simp [timesF, hm, en]
    have hl2 : (timesF l 0).length = n := by rw [hf2, timesK_length]
    rw [e0, hl2, hf2] at hT
    have hok := ((mayF_iff l).1 hm).2
    have HOK := hid hok
    have HMAY := hid hm
    rw [hm] at hM
    rw [en] at hf
    have HM := hid hM
    have HT := hid hT
    have HLS := hid hls
    clear hM hm ha hT e0 hf2 hl2 hls hok
    go_enter Try.func4, Try.ntmps4
    go_wp2_with (first | (go_at_call 6; refine (awake_any _).mono ?_; rintro _ _ ⟨rfl, _, rfl⟩) | (go_at_call 11; refine (HM.out _).mono ?_; rintro _ _ ⟨rfl, _, rfl⟩))
    refine (HT.out _).mono ?_
    rintro _ w1 ⟨T, ct, rfl, hb1, ho1⟩
    have HB1 := hid (show Below w.heap.size w w1 from below_trans' (by (repeat (first | exact Below.refl _ _ | refine RowKit.Below.past ?_ _ | refine RowKit.Below.alloc' ?_ _ | refine RowKit.Below.drew' ?_ | refine RowKit.Below.drewN' ?_ _ | refine RowKit.Below.setCell' ?_ (by simp [go_sem]) _))) hb1)
    have HC1 := hid (Cells.of_own ho1)
    have HL1 := hid (HLS.out.below HB1.out)
    have hT2 := hid (fun x => Times_any A ca n l 0 (w1.past x) (HL1.out.past x))
    clear hb1 ho1 HT HM
    go_wp2_with fail
    go_loopw [13] (fun i wr => ∃ (k : Nat) (x : Past), i = .int .i64 k ∧ k ≤ n ∧ wr = w1.past x) (fun i _ => n - (intOf i).toNat)
    case atStart => exact ⟨0, _, rfl, by omega, World.past_refl w1⟩
    case round =>
      obtain ⟨k, x, rfl, hk, rfl⟩ := hrel
      by_cases hlt : k < n
      · obtain ⟨b2, o2, rfl, hc2⟩ := i64_at HC1.out (show k < (timesK l 0 n).length by rw [timesK_length]; exact hlt)
        have et : atL (timesK l 0 n) k = timeF l k 0 := by simp [timesK, atL, hlt]
        rw [et] at hc2
        have hd := done_time HOK.out k
        have hin := time_in HOK.out k (show (0 : Int) ≤ 0 by omega)
        have q1 : DoneAll l k 10000 = timeF l k 0 := by
          rw [done_yes l k 10000 HMAY.out (by rw [HL1.out.len]; exact hlt)]
          exact hd.1
        have q2 : 0 < timeF l k 0 → DoneAll l k (timeF l k 0 - 1) = -1 := by
          intro h
          rw [done_yes l k _ HMAY.out (by rw [HL1.out.len]; exact hlt)]
          have : clampF (timeF l k 0 - 1) 0 10000 = timeF l k 0 - 1 := by unfold clampF; rw [if_neg (by omega), if_neg (by omega)]
          rw [this]
          exact hd.2 h
        obtain ⟨t, eT⟩ : ∃ t, timeF l k 0 = t := ⟨_, rfl⟩
        rw [eT] at hc2 hin q1 q2
        have d1 := fun x => Done_any _ ca n l k 10000 (w1.past x) (HL1.out.past x)
        have d2 := fun x => Done_any _ ca n l k (t - 1) (w1.past x) (HL1.out.past x)
        rw [q1] at d1
        have e1 : IntKind.i64.wrap (t - 1) = t - 1 := by rw [IntKind.wrap_i64]; omega
        have D1 := hid d1
        clear et eT q1 hd d1
        rcases dec_cases (0 < t) with hb | hb
        · have q3 := q2 (by simpa using hb)
          rw [q3] at d2
          have D2 := hid d2
          clear q2 q3 d2
          go_wp2_with (go_at_call 9; first | ((with_reducible refine (D1.out _).mono ?_); rintro _ _ ⟨rfl, _, rfl⟩) | ((with_reducible refine (D2.out _).mono ?_); rintro _ _ ⟨rfl, _, rfl⟩))
          go_roundw
          case rel => exact ⟨k + 1, _, by go_num, by omega, rfl⟩
          case measure => simp [intOf]; omega
        · clear q2 d2
          go_wp2_with (go_at_call 9; (with_reducible refine (D1.out _).mono ?_); rintro _ _ ⟨rfl, _, rfl⟩)
          go_roundw
          case rel => exact ⟨k + 1, _, by go_num, by omega, rfl⟩
          case measure => simp [intOf]; omega
      · obtain rfl : k = n := by omega
        have e0 : clampF 0 0 1000 = 0 := by decide
        have hf2 : timesF l 0 = timesK l 0 k := by simp [timesF, HMAY.out, HL1.out.len]
        have hl2 : (timesF l 0).length = k := by rw [hf2, timesK_length]
        have hT3 := hT2.out
        rw [e0, hl2, hf2] at hT3
        have HT3 := hid hT3
        clear hT3 hT2 e0 hf2 hl2
        go_wp2_with fail
        refine (HT3.out _).mono ?_
        rintro _ w5 ⟨T5, c5, rfl, hb5, _⟩
        have HB5 := hid (below_trans' (RowKit.Below.past HB1.out x) hb5)
        clear hb5
        go_wp2
        go_ret
        exact Gives.mk rfl HB5.out
theorem rtaDone_own : ownKnob Try.prog.godebug = none := by kernel_rfl
theorem rtaDone_laidOut : laidOutB Try.prog = true := by kernel_rfl
theorem rtaDone_types : ∀ t ∈ Try.f4.params.toList, Try.prog.readableRec t = true ∧ t < Try.prog.types.size := by
  rw [Try.params4]
  intro t ht
  simp only [List.mem_cons, List.not_mem_nil, or_false] at ht
  rcases ht with rfl
  · exact ⟨by kernel_rfl, of_decide_eq_true (by kernel_rfl)⟩
set_option maxRecDepth 100000 in
theorem rtaDone_lifted (os : Os) (started : os.Started) (H : Type) (enc : TypeId × Value → H) :
    ReturnsInHanded {} Try.checked os 4 .any (Rows.rtaDoneSpec.pre6 enc Try.prog Try.f4 Rows.rtaDoneRow.domain false) (Rows.rtaDoneSpec.post enc Try.prog Try.f4 false true false false) := by
  refine returnsInHanded_of_change (C := Try.checked) rtaDone_own started (by kernel_rfl) Try.func4
    (ChangeSpec.witness6 (enc := enc) (C := Try.checked) false ⟨#[], #[.slice none 0 0], []⟩ 8 (by kernel_rfl) (by kernel_rfl) (by kernel_rfl) (by kernel_rfl)) ?_
  intro W base args ds gs before hval0 hW hcnd _
  have hval : ∀ (j : Nat) t v, Try.f4.params[j]? = some t → args[j]? = some v → Value.okWide Try.prog W .any base t v := hval0
  have hW' := hW
  obtain ⟨p, q, hA0, hV, hpq, hfz, hnd⟩ := hW
  have hA : DataW.TrodAll enc Try.prog W 0 (fun _ => true) true Try.f4.params.toList args.toList ds p := hA0
  rw [Try.params4] at hA hval
  obtain ⟨v0, vs0, d0, ds0, p0, q0, hargs, rfl, rfl, h0, r0⟩ := trodAll_cons hA
  obtain ⟨rfl, rfl, rfl⟩ := trodAll_nil r0
  obtain rfl : args = #[v0] := by cases args; simp_all
  have k0 := hval 0 22 v0 rfl rfl
  clear hA0 hval0 hval hcnd hfz hnd hpq hV hargs r0
  suffices hs : Calls Try.prog 4 #[v0] W (Gives (.bool true) W) from hs.mono fun e W' ⟨he, x, hx⟩ => ⟨_, he, law_post rtaDone_laidOut hW' rfl rfl (by kernel_rfl) (by first | exact Try.underlying4 | rfl) rtaDone_types (hx ▸ W.below_past x)⟩
  clear hW'
  obtain ⟨A, ca, l, rfl, ha, hI, hl, hc⟩ := rd_works c_work rd_wk (rd_slice Try.underlying22 k0 h0)
  exact RtaDone_any A ca _ l rfl hl hc W ha
theorem rtaDone_holds : Rows.RtaDoneSaid :=
  OpenClaim.holds_of_wide 4 Try.f4 rfl rfl rfl rfl rfl rfl rfl ⟨rfl, rfl, rfl, rfl, rfl⟩ rfl rfl rfl rfl rfl (by kernel_rfl) Try.func4 (by kernel_rfl)
    (of_decide_eq_true (by kernel_rfl)) (by unfold Func.isWrapper; first | (rw [if_pos (by decide +kernel)]; kernel_rfl) | (rw [if_neg (by decide +kernel)]; exact ⟨rfl, rfl⟩))
    (fun os started H enc _ => rtaDone_lifted os started H enc)
end Go.Proofs.Ytjkmakaahghddaa
