/-
  Layer 42's EdfTells: what any works come to, who has the ticks, and what is missed, is the document's. No condition.
-/
import Derived.Test.YtolhbcgmlaodbaaEdT
import Derived.Test.YtolhbcgmlaodbaaEdU
namespace Go.Proofs.Ytolhbcgmlaodbaa
open Go Go.RowKit Go.ChangeShapes Go.WideShapes Go.ChangeAt
/-- The first time from some time on at which too much is needed. -/
def OV (l : List Wk) (U k f : Nat) : Prop := (f = 0 ∧ ∀ t : Nat, k < t → t ≤ U → demE l t ≤ t) ∨ (k < f ∧ f ≤ U ∧ (f : Int) < demE l f ∧ ∀ t : Nat, k < t → t < f → demE l t ≤ t)
theorem OV.start (l : List Wk) (U : Nat) : OV l U U 0 := .inl ⟨rfl, fun t h1 h2 => by omega⟩
theorem OV.hit {l : List Wk} {U k f : Nat} (_h : OV l U (k + 1) f) (hk : k + 1 ≤ U) (hd : ((k + 1 : Nat) : Int) < demE l ((k + 1 : Nat) : Int)) : OV l U k (k + 1) := .inr ⟨by omega, hk, hd, fun t h1 h2 => by omega⟩
theorem OV.miss {l : List Wk} {U k f : Nat} (h : OV l U (k + 1) f) (hd : ¬ ((k + 1 : Nat) : Int) < demE l ((k + 1 : Nat) : Int)) : OV l U k f := by
  have hs : ∀ t : Nat, k < t → ¬ k + 1 < t → demE l t ≤ t := fun t h1 h2 => by
    obtain rfl : t = k + 1 := by omega
    omega
  rcases h with ⟨e, h⟩ | ⟨h1, h2, h3, h4⟩
  · exact .inl ⟨e, fun t a b => by
      by_cases ht : k + 1 < t
      · exact h t ht b
      · exact hs t a ht⟩
  · exact .inr ⟨by omega, h2, h3, fun t a b => by
      by_cases ht : k + 1 < t
      · exact h4 t ht b
      · exact hs t a ht⟩
theorem OV.fin {l : List Wk} {U f : Nat} (h : OV l U 0 f) : f = fitsN l U := by
  rcases h with ⟨e, h⟩ | ⟨h1, h2, h3, h4⟩
  · rw [e]; exact (fitsN_zero (fun t a b => h t a b)).symm
  · exact (fitsN_at h1 h2 h3 (fun t a b => h4 t a b)).symm
set_option maxRecDepth 100000 in
set_option maxHeartbeats 4000000 in
theorem EdfTells_any (A : Option Addr) (ca n : Nat) (l : List Wk) (en : l.length = n) (hn : n ≤ maxLen) (t u : Int) (w : World) (hA : Cells w A (tab wkV l)) :
    Calls Try.prog 3 #[.slice A n ca, .int .i64 t, .int .i64 u] w (Gives (.bool true) w) := by
  have HAW := hid (awake_any w)
  have HMA := hid (fun x : Past => May_any A ca n l en (w.past x) (hA.past x))
  have HRM := hid (fun x : Past => RMay_any A ca n l en hn (w.past x) (hA.past x))
  have HA := hid hA
  have EN := hid en
  have hcase : 10 < n ∨ (¬ 10 < n ∧ 300 < u) ∨ (¬ 10 < n ∧ ¬ 300 < u) := by omega
  rcases hcase with h1 | ⟨h1, h2⟩ | ⟨h1, h2⟩
  · have h1' : (10 : Int) < n := by omega
    clear hA en HMA HRM
    go_enter Try.func3, Try.ntmps3
    go_wp2_with (go_at_call 7; refine HAW.out.mono ?_; rintro _ _ ⟨rfl, x0, rfl⟩)
    go_ret
    exact Gives.mk rfl (by (repeat (first | exact Below.refl _ _ | refine RowKit.Below.past ?_ _ | refine RowKit.Below.alloc' ?_ _ | refine RowKit.Below.drew' ?_ | refine RowKit.Below.drewN' ?_ _ | refine RowKit.Below.setCell' ?_ (by simp [go_sem]) _)))
  · have h1' : ¬ (10 : Int) < n := by omega
    clear hA en HMA HRM
    go_enter Try.func3, Try.ntmps3
    go_wp2_with (go_at_call 7; refine HAW.out.mono ?_; rintro _ _ ⟨rfl, x0, rfl⟩)
    go_ret
    exact Gives.mk rfl (by (repeat (first | exact Below.refl _ _ | refine RowKit.Below.past ?_ _ | refine RowKit.Below.alloc' ?_ _ | refine RowKit.Below.drew' ?_ | refine RowKit.Below.drewN' ?_ _ | refine RowKit.Below.setCell' ?_ (by simp [go_sem]) _)))
  · have h1' : ¬ (10 : Int) < n := by omega
    cases hm : mayF l
    · rw [hm] at HMA HRM
      have HRN := hid (fun x : Past => RunN_any A ca n l en hm u (w.past x) (hA.past x))
      have HFN := hid (fun x : Past => FitsN_any A ca n l en hm u (w.past x) (hA.past x))
      have HLN := hid (fun x : Past => LoadN_any A ca n l en hm (w.past x) (hA.past x))
      have HDN := hid (fun x : Past => DemandN_any A ca n l en hm t (w.past x) (hA.past x))
      clear hA en hm
      go_enter Try.func3, Try.ntmps3
      go_wp2_with (first | (go_at_call 7; refine HAW.out.mono ?_; rintro _ _ ⟨rfl, x0, rfl⟩) | (go_at_call 8; refine (HRN.out _).mono ?_; rintro _ _ ⟨rfl, x1, rfl⟩) | (go_at_call 9; refine (HFN.out _).mono ?_; rintro _ _ ⟨rfl, x2, rfl⟩) | (go_at_call 10; refine (HLN.out _).mono ?_; rintro _ _ ⟨rfl, x3, rfl⟩) | (go_at_call 11; refine (HMA.out _).mono ?_; rintro _ _ ⟨rfl, x4, rfl⟩) | (go_at_call 12; refine (HRM.out _).mono ?_; rintro _ _ ⟨rfl, x5, rfl⟩) | (go_at_call 13; refine (HDN.out _).mono ?_; rintro _ _ ⟨rfl, x6, rfl⟩))
      go_ret
      exact Gives.mk rfl (by (repeat (first | exact Below.refl _ _ | refine RowKit.Below.past ?_ _ | refine RowKit.Below.alloc' ?_ _ | refine RowKit.Below.drew' ?_ | refine RowKit.Below.drewN' ?_ _ | refine RowKit.Below.setCell' ?_ (by simp [go_sem]) _)))
    · rw [hm] at HMA HRM
      have HM := hid hm
      obtain ⟨U, eU⟩ : ∃ U, longE u = U := ⟨_, rfl⟩
      have hU : U ≤ 300 := by unfold longE at eU; omega
      have hmx : (if u < 0 then 0 else u) = (U : Int) := by unfold longE at eU; split <;> omega
      have HRU := hid (fun x : Past => Run_any A ca n l en hm u (w.past x) (hA.past x))
      rw [eU] at HRU
      have hfa : (farE u).toNat = U := by unfold longE at eU; unfold farE; omega
      have HFA := hid hfa
      obtain ⟨ms, ems⟩ : ∃ ms, missE l U = ms := ⟨_, rfl⟩
      rw [ems] at HRU
      have EMS := hid ems
      clear hA en hm eU hfa ems HMA HRM
      go_enter Try.func3, Try.ntmps3
      go_upto_region 6 with (first | (go_at_call 7; refine HAW.out.mono ?_; rintro _ _ ⟨rfl, x0, rfl⟩) | (go_at_call 8; refine (HRU.out _).mono ?_; rintro _ w2 ⟨R, c, rfl, hb2, ho2⟩))
      have HB2 := hid (show Below w.heap.size w w2 from (w.below_past _).trans (hb2.mono (w.below_past _).size))
      have HO2 := hid (own_base ho2 (w.below_past _).size)
      have ha2 := HA.out.below HB2.out
      have HFI := hid (Fits_any A ca n l EN.out HM.out u w2 ha2)
      rw [HFA.out] at HFI
      obtain ⟨F, eF⟩ : ∃ F, fitsN l U = F := ⟨_, rfl⟩
      rw [eF] at HFI
      have EF := hid eF
      have HLO := hid (fun x : Past => Load_any A ca n l EN.out HM.out (w2.past x) (ha2.past x))
      obtain ⟨la, ela⟩ : ∃ la, ((ldE l).1 : Int) = la := ⟨_, rfl⟩
      obtain ⟨lb, elb⟩ : ∃ lb, ((ldE l).2 : Int) = lb := ⟨_, rfl⟩
      rw [ela, elb] at HLO
      have HMA := hid (fun x : Past => May_any A ca n l EN.out (w2.past x) (ha2.past x))
      have HRM := hid (fun x : Past => RMay_any A ca n l EN.out hn (w2.past x) (ha2.past x))
      rw [HM.out] at HMA HRM
      have HRR := hid (fun x : Past => RRun_any A ca n l EN.out HM.out U hU (w2.past x) (ha2.past x))
      rw [EMS.out] at HRR
      have ELA := hid ela
      have ELB := hid elb
      clear hb2 ho2 HRU HAW ha2 eF ela elb
      go_upto_region 13 with (first | (go_at_call 9; refine HFI.out.mono ?_; rintro _ _ ⟨rfl, x2, rfl⟩) | (go_at_call 10; refine (HLO.out _).mono ?_; rintro _ _ ⟨rfl, x3, rfl⟩) | (go_at_call 11; refine (HMA.out _).mono ?_; rintro _ _ ⟨rfl, x4, rfl⟩) | (go_at_call 12; refine (HRM.out _).mono ?_; rintro _ _ ⟨rfl, x5, rfl⟩) | (go_at_call 14; refine (HRR.out _).mono ?_; rintro _ w3 ⟨R2, c2, rfl, hb3, ho3⟩))
      have hb23 : Below w2.heap.size w2 w3 := (w2.below_past _).trans (hb3.mono (w2.below_past _).size)
      have HB3 := hid (HB2.out.trans (hb23.mono HB2.out.size))
      have HO3 := hid (own_below HO2.out hb23 (Nat.le_refl _))
      have HP3 := hid ho3
      have ha3 := HA.out.below HB3.out
      have HDE := hid (Demand_any A ca n l EN.out HM.out t w3 ha3)
      have HBR := hid (fun x : Past => Bring_any t 0 100000 (w3.past x))
      rw [bring_far] at HBR
      have HRD := hid (fun (x : Past) (k : Int) (hk : k ≤ 100000) => RDemand_any A ca n l EN.out HM.out k hk (w3.past x) (ha3.past x))
      have hfr : farE t ≤ 100000 := by unfold farE; omega
      have HRL := hid (fun x : Past => RLoad_any A ca n l EN.out HM.out (w3.past x) (ha3.past x))
      rw [ELA.out, ELB.out] at HRL
      obtain ⟨de, ede⟩ : ∃ de, demE l (farE t) = de := ⟨_, rfl⟩
      have HRD1 := hid (fun x : Past => HRD.out x (farE t) hfr)
      rw [ede] at HDE HRD1
      obtain ⟨ft, eft⟩ : ∃ ft, farE t = ft := ⟨_, rfl⟩
      rw [eft] at HBR HRD1
      clear hb3 ho3 HFI HLO HMA HRM HRR ha3 hb23 ede eft hfr
      go_upto_region 15 with (first | (go_at_call 13; refine HDE.out.mono ?_; rintro _ _ ⟨rfl, x6, rfl⟩) | (go_at_call 16; refine (HBR.out _).mono ?_; rintro _ _ ⟨rfl, x7, rfl⟩) | (go_at_call 15; refine (HRD1.out _).mono ?_; rintro _ _ ⟨rfl, x8, rfl⟩))
      go_wp2_with fail
      go_loopw [15, 112] (fun _ v wr => ∃ (i : Nat) (x : Past), v = .int .i64 (i : Int) ∧ i ≤ U ∧ wr = w3.past x) (fun _ v _ => U - (intOf v).toNat)
      case atStart => exact ⟨0, _, rfl, Nat.zero_le _, rfl⟩
      case round =>
        obtain ⟨i, x, rfl, hi, rfl⟩ := hrel
        by_cases hlt : i < U
        · have hwl := who_length l U
          obtain ⟨g1, o1, rfl, q1⟩ := i64_at (Cells.of_own HO3.out) (k := i) (by rw [hwl]; exact hlt)
          obtain ⟨g2, o2, rfl, q2⟩ := i64_at (Cells.of_own HP3.out) (k := i) (by rw [hwl]; exact hlt)
          obtain ⟨v, ev⟩ : ∃ v, atL (whoE l U) i = v := ⟨_, rfl⟩
          rw [ev] at q1 q2
          have hiU : (i : Int) < U := by omega
          clear ev hwl
          go_wp2_with fail
          refine wp_region_past (by kernel_rfl) (by kernel_rfl) ?_
          repeat (go_big_quiet_step ((fail)))
          refine wpQuiet_nil ?_
          rintro _ ⟨_, rfl⟩
          go_wp2_with fail
          exact ⟨⟨i + 1, _, by go_num, by omega, (past_of (show Below w3.heap.size w3 _ from by (repeat (first | exact Below.refl _ _ | refine RowKit.Below.past ?_ _ | refine RowKit.Below.alloc' ?_ _ | refine RowKit.Below.drew' ?_ | refine RowKit.Below.drewN' ?_ _ | refine RowKit.Below.setCell' ?_ (by simp [go_sem]) _)))).choose_spec⟩, by simp [intOf]; omega⟩
        · obtain rfl : i = U := by omega
          clear HO3 HP3 hi hlt
          go_wp2_with fail
          go_loopw [16, 17] (fun f v wr => ∃ (k f' : Nat) (x : Past), f = .int .i64 (f' : Int) ∧ v = .int .i64 (k : Int) ∧ k ≤ i ∧ Hid (OV l i k f') ∧ wr = w3.past x) (fun _ v _ => (intOf v).toNat)
          case atStart => exact ⟨i, 0, _, rfl, rfl, Nat.le_refl _, hid (OV.start l i), rfl⟩
          case round =>
            obtain ⟨k, f, x, rfl, rfl, hk, HOV, rfl⟩ := hrel
            by_cases h0 : k = 0
            · subst h0
              obtain rfl : f = F := by rw [← EF.out]; exact HOV.out.fin
              rcases Nat.eq_zero_or_pos f with h0 | h0
              · subst h0
                go_wp2_with (go_at_call 17; refine (HRL.out _).mono ?_; rintro _ _ ⟨rfl, x8, rfl⟩)
                go_ret
                exact Gives.mk (by simp) (HB3.out.trans (RowKit.Below.mono (by (repeat (first | exact Below.refl _ _ | refine RowKit.Below.past ?_ _ | refine RowKit.Below.alloc' ?_ _ | refine RowKit.Below.drew' ?_ | refine RowKit.Below.drewN' ?_ _ | refine RowKit.Below.setCell' ?_ (by simp [go_sem]) _))) HB3.out.size))
              · have d1 : decide (f = 0) = false := by simp; omega
                have d2 : ((f : Int) == 0) = false := by simp; omega
                have hf0 : ¬ f = 0 := by omega
                go_wp2_with (go_at_call 17; refine (HRL.out _).mono ?_; rintro _ _ ⟨rfl, x8, rfl⟩)
                go_ret
                exact Gives.mk (by simp [d1, d2, hf0]) (HB3.out.trans (RowKit.Below.mono (by (repeat (first | exact Below.refl _ _ | refine RowKit.Below.past ?_ _ | refine RowKit.Below.alloc' ?_ _ | refine RowKit.Below.drew' ?_ | refine RowKit.Below.drewN' ?_ _ | refine RowKit.Below.setCell' ?_ (by simp [go_sem]) _))) HB3.out.size))
            · obtain ⟨k, rfl⟩ : ∃ m, k = m + 1 := ⟨k - 1, by omega⟩
              have hdec : (((k + 1 : Nat) : Int) < demE l ((k + 1 : Nat) : Int)) ∨ ¬ (((k + 1 : Nat) : Int) < demE l ((k + 1 : Nat) : Int)) := Classical.em _
              have HR1 := hid (fun x : Past => HRD.out x ((k + 1 : Nat) : Int) (by omega))
              obtain ⟨K, eK⟩ : ∃ K : Nat, k + 1 = K := ⟨_, rfl⟩
              have e5 : IntKind.i64.wrap ((K : Int) - 1) = (k : Int) := by rw [IntKind.wrap_i64]; omega
              have hK1 : (1 : Int) ≤ K := by omega
              have HOVh := hid (fun h => HOV.out.hit (k := k) hk h)
              have HOVm := hid (fun h => HOV.out.miss (k := k) h)
              rw [eK] at hk hdec HR1 HOVh HOVm
              obtain ⟨dk, edk⟩ : ∃ dk, demE l (K : Int) = dk := ⟨_, rfl⟩
              rw [edk] at hdec HR1 HOVh HOVm
              have EK := hid eK
              rw [eK]
              clear eK edk h0 HOV
              rcases hdec with hd | hd
              · have HOV := hid (HOVh.out hd)
                clear HOVh HOVm
                go_wp2_with (go_at_call 15; refine (HR1.out _).mono ?_; rintro _ _ ⟨rfl, x8, rfl⟩)
                have := EK.out
                exact ⟨⟨k, K, _, rfl, rfl, by omega, HOV, (past_of (show Below w3.heap.size w3 _ from by (repeat (first | exact Below.refl _ _ | refine RowKit.Below.past ?_ _ | refine RowKit.Below.alloc' ?_ _ | refine RowKit.Below.drew' ?_ | refine RowKit.Below.drewN' ?_ _ | refine RowKit.Below.setCell' ?_ (by simp [go_sem]) _)))).choose_spec⟩, by simp [intOf]; omega⟩
              · have HOV := hid (HOVm.out hd)
                clear HOVh HOVm
                go_wp2_with (go_at_call 15; refine (HR1.out _).mono ?_; rintro _ _ ⟨rfl, x8, rfl⟩)
                have := EK.out
                exact ⟨⟨k, f, _, rfl, rfl, by omega, HOV, (past_of (show Below w3.heap.size w3 _ from by (repeat (first | exact Below.refl _ _ | refine RowKit.Below.past ?_ _ | refine RowKit.Below.alloc' ?_ _ | refine RowKit.Below.drew' ?_ | refine RowKit.Below.drewN' ?_ _ | refine RowKit.Below.setCell' ?_ (by simp [go_sem]) _)))).choose_spec⟩, by simp [intOf]; omega⟩
theorem c_wk_3 : Try.prog.cellsOf 3 = 1 := by kernel_rfl
theorem c_wk : Try.prog.cellsOf 37 = 3 := by kernel_rfl
theorem rd_wk {H : Type} {enc : TypeId × Value → H} {W : World} {cs : Array Value} (h : Rd enc Try.prog W 37 cs.toList) : ∃ x0 x1 x2 : Int, cs = #[.int .i64 x0, .int .i64 x1, .int .i64 x2] ∧ I64 x0 ∧ I64 x1 ∧ I64 x2 := by
  obtain ⟨c0, c1, c2, e⟩ := cs_three (h.len_struct Try.underlying37 c_wk)
  rw [e] at h
  obtain ⟨x0, e0, w0⟩ := Rd.int (h.field Try.underlying37 0 3 0 1 rfl c_wk_3) Try.underlying3
  obtain ⟨x1, e1, w1⟩ := Rd.int (h.field Try.underlying37 1 3 1 1 rfl c_wk_3) Try.underlying3
  obtain ⟨x2, e2, w2⟩ := Rd.int (h.field Try.underlying37 2 3 2 1 rfl c_wk_3) Try.underlying3
  simp at e0 e1 e2
  subst e0 e1 e2
  exact ⟨x0, x1, x2, arr_of e, i64_of w0, i64_of w1, i64_of w2⟩
theorem rd_wks {H : Type} {enc : TypeId × Value → H} {W : World} {cs : List Value} (h : Rd enc Try.prog W 37 cs) : ∃ x : Wk, cs = wkV x ∧ True := by
  obtain ⟨y0, y1, y2, e, _⟩ := rd_wk (cs := cs.toArray) (by simpa using h)
  exact ⟨⟨y0, y1, y2⟩, by simpa [wkV] using congrArg Array.toList e, trivial⟩
theorem edfTells_own : ownKnob Try.prog.godebug = none := by kernel_rfl
theorem edfTells_laidOut : laidOutB Try.prog = true := by kernel_rfl
theorem edfTells_types : ∀ t ∈ Try.f3.params.toList, Try.prog.readableRec t = true ∧ t < Try.prog.types.size := by
  rw [Try.params3]
  intro t ht
  simp only [List.mem_cons, List.not_mem_nil, or_false] at ht
  rcases ht with rfl | rfl | rfl
  · exact ⟨by kernel_rfl, of_decide_eq_true (by kernel_rfl)⟩
  · exact ⟨by kernel_rfl, of_decide_eq_true (by kernel_rfl)⟩
  · exact ⟨by kernel_rfl, of_decide_eq_true (by kernel_rfl)⟩
set_option maxRecDepth 100000 in
theorem edfTells_lifted (os : Os) (started : os.Started) (H : Type) (enc : TypeId × Value → H) :
    ReturnsInHanded {} Try.checked os 3 .any (Rows.edfTellsSpec.pre6 enc Try.prog Try.f3 Rows.edfTellsRow.domain false) (Rows.edfTellsSpec.post enc Try.prog Try.f3 false true false false) := by
  refine returnsInHanded_of_change (C := Try.checked) edfTells_own started (by kernel_rfl) Try.func3
    (ChangeSpec.witness6 (enc := enc) (C := Try.checked) false ⟨#[], #[.slice none 0 0, .int .i64 0, .int .i64 0], []⟩ 8 (by kernel_rfl) (by kernel_rfl) (by kernel_rfl) (by kernel_rfl)) ?_
  intro W base args ds gs before hval0 hW hcnd _
  have hval : ∀ (j : Nat) t v, Try.f3.params[j]? = some t → args[j]? = some v → Value.okWide Try.prog W .any base t v := hval0
  have hW' := hW
  obtain ⟨p, q, hA0, hV, hpq, hfz, hnd⟩ := hW
  have hA : DataW.TrodAll enc Try.prog W 0 (fun _ => true) true Try.f3.params.toList args.toList ds p := hA0
  rw [Try.params3] at hA hval
  obtain ⟨v0, vs0, d0, ds0, p0, q0, hargs, rfl, rfl, h0, r0⟩ := trodAll_cons hA
  obtain ⟨v1, vs1, d1, ds1, p1, q1, rfl, rfl, rfl, h1, r1⟩ := trodAll_cons r0
  obtain ⟨v2, vs2, d2, ds2, p2, q2, rfl, rfl, rfl, h2, r2⟩ := trodAll_cons r1
  obtain ⟨rfl, rfl, rfl⟩ := trodAll_nil r2
  obtain rfl : args = #[v0, v1, v2] := by cases args; simp_all
  have k0 := hval 0 22 v0 rfl rfl
  have k1 := hval 1 3 v1 rfl rfl
  have k2 := hval 2 3 v2 rfl rfl
  clear hA0 hval0 hval hcnd hfz hnd hpq hV hargs r2
  suffices hs : Calls Try.prog 3 #[v0, v1, v2] W (Gives (.bool true) W) from hs.mono fun e W' ⟨he, x, hx⟩ => ⟨_, he, law_post edfTells_laidOut hW' rfl rfl (by kernel_rfl) (by first | exact Try.underlying4 | rfl) edfTells_types (hx ▸ W.below_past x)⟩
  clear hW'
  obtain ⟨A, ca, a, rfl, ha, _, hl, _⟩ := rd_tabC (f := wkV) (c := 3) (K := fun _ => True) wkV_length (by omega) (rd_slice Try.underlying22 k0 h0) Try.underlying22 c_wk (fun _ h => by obtain ⟨x, e, hk⟩ := rd_wks h; exact ⟨x, e, hk⟩)
  obtain ⟨x1, rfl, _, _, w1⟩ := open_int Try.underlying3 k1 h1
  obtain ⟨x2, rfl, _, _, w2⟩ := open_int Try.underlying3 k2 h2
  exact EdfTells_any A ca _ a rfl hl x1 x2 W ha
theorem edfTells_holds : Rows.EdfTellsSaid :=
  OpenClaim.holds_of_wide 3 Try.f3 rfl rfl rfl rfl rfl rfl rfl ⟨rfl, rfl, rfl, rfl, rfl⟩ rfl rfl rfl rfl rfl (by kernel_rfl) Try.func3 (by kernel_rfl)
    (of_decide_eq_true (by kernel_rfl)) (by unfold Func.isWrapper; first | (rw [if_pos (by decide +kernel)]; kernel_rfl) | (rw [if_neg (by decide +kernel)]; exact ⟨rfl, rfl⟩))
    (fun os started H enc _ => edfTells_lifted os started H enc)
end Go.Proofs.Ytolhbcgmlaodbaa
