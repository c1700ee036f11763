/-
  Layer 36's GanttTells: who ran when, by any events, and the rows of signs, are the document's. No condition.
-/
import Derived.Test.YtphlbomcnholhaaGanE
namespace Go.Proofs.Ytphlbomcnholhaa
open Go.RowKit Go.ChangeShapes Go.WideShapes Go.ChangeAt
def wantL (l : List Ev) (fr to : Int) : Nat → List UInt8 := rowsL l fr to
set_option maxHeartbeats 4000000 in
theorem GanttTells_any (A : Option Addr) (ca n : Nat) (l : List Ev) (en : l.length = n) (hmx : n ≤ maxLen) (core a b : Int) (hcore : I64 core) (hA : U64 a) (hB : U64 b) (w : World) (ha : Cells w A (tab evV l)) :
    Calls Try.prog 3 #[.slice A n ca, .int .i64 core, .agg #[.int .u64 a, .int .u64 b]] w (Gives (.bool true) w) := by
  by_cases h60 : 60 < n
  · clear en ha
    go_enter Try.func3, Try.ntmps3
    go_wp2_with ((go_at_call 5; refine (awake_any _).mono ?_; rintro _ _ ⟨rfl, _, rfl⟩))
    go_ret
    refine Gives.mk rfl ?_
    (repeat (first | exact Below.refl _ _ | refine RowKit.Below.past ?_ _ | refine RowKit.Below.alloc' ?_ _ | refine RowKit.Below.drew' ?_ | refine RowKit.Below.drewN' ?_ _ | refine RowKit.Below.setCell' ?_ (by simp [go_sem]) _))
  · have EN := hid en
    have HR1 := hid (fun core time w' (hb : Below w.heap.size w w') => Ran_any A ca n l en (by omega) core time w' (ha.below hb))
    have HR2 := hid (fun core time w' (hb : Below w.heap.size w w') => RRan_any A ca n l en (by omega) core time w' (ha.below hb))
    have HW1 := hid (fun core w' (hb : Below w.heap.size w w') => Row_any A ca n l en (by omega) core a b hA hB w' (ha.below hb))
    have HW2 := hid (fun core w' (hb : Below w.heap.size w w') => RRow_any A ca n l en (by omega) core a b hA hB w' (ha.below hb))
    have HRS := hid (fun w' (hb : Below w.heap.size w w') => Rows_any A ca n l en (by omega) core a b hA hB w' (ha.below hb))
    clear en ha
    obtain ⟨W, eW⟩ : ∃ W, W = w.alloc (.cells #[.int .u64 a, .int .u64 b] 24) := ⟨_, rfl⟩
    have hBW : Below w.heap.size w W := by rw [eW]; exact (Below.refl _ w).alloc (Nat.le_refl _) _
    have q1 : W.cell? ⟨w.heap.size, 0, none⟩ = some (.int .u64 a) := by rw [eW, World.cell?_alloc_new]; rfl
    have q2 : W.cell? ⟨w.heap.size, 1, none⟩ = some (.int .u64 b) := by rw [eW, World.cell?_alloc_new]; rfl
    have EW := hid eW
    clear eW
    go_enter Try.func3, Try.ntmps3
    go_wp2_with fail
    rw [← EW.out]
    refine (awake_any _).mono ?_
    rintro _ _ ⟨rfl, x1, rfl⟩
    go_wp2_with fail
    have P1 := hid (fun x => HR1.out core a (W.past x) (below_trans' hBW (W.below_past x)))
    have P2 := hid (fun x => HR2.out core a (W.past x) (below_trans' hBW (W.below_past x)))
    have P3 := hid (fun x => HW1.out core (W.past x) (below_trans' hBW (W.below_past x)))
    have P4 := hid (fun x => HW2.out core (W.past x) (below_trans' hBW (W.below_past x)))
    have P5 := hid (fun (i : Int) x => HW2.out i (W.past x) (below_trans' hBW (W.below_past x)))
    have P6 := hid (fun x => HRS.out (W.past x) (below_trans' hBW (W.below_past x)))
    have P6' := hid (fun (c : Nat) (h : coresN core = c) => (by rw [← h]; exact P6.out : ∀ x, Calls Try.prog 12 #[.slice A n ca, .int .i64 core, .int .u64 a, .int .u64 b] (W.past x) (Gives (.string ⟨(rowsL l a b c).toArray⟩) (W.past x))))
    clear HR1 HR2 HW1 HW2 HRS P6
    obtain ⟨r, er⟩ : ∃ r, ranF l core a = r := ⟨_, rfl⟩
    rw [er] at P1 P2
    obtain ⟨who, ok⟩ := r
    obtain ⟨R, eR⟩ : ∃ R, (⟨(rowF l core a b).toArray⟩ : ByteArray) = R := ⟨_, rfl⟩
    rw [eR] at P3 P4
    obtain ⟨S, eS⟩ : ∃ S, signS core = S := ⟨_, rfl⟩
    have P7 := fun w => Sign_any core w
    have P8 := fun w => RSign_any core w
    rw [eS] at P7 P8
    have P7 := hid P7
    have P8 := hid P8
    clear er eR eS
    refine (P1.out x1).mono ?_
    rintro _ _ ⟨rfl, x2, rfl⟩
    go_wp2_with (go_at_call 7; refine (P2.out _).mono ?_; rintro _ _ ⟨rfl, x3, rfl⟩)
    cases ok
    all_goals
      refine wp_region_past (by kernel_rfl) (by kernel_rfl) ?_
      repeat (go_big_quiet_step ((first | (go_at_call 8; first | with_reducible exact Calls.in_past (P3.out _) | with_reducible exact Calls.in_past2 (P3.out _)) | (go_at_call 9; first | with_reducible exact Calls.in_past (P4.out _) | with_reducible exact Calls.in_past2 (P4.out _)) | (go_at_call 10; first | with_reducible exact Calls.in_past (P7.out _) | with_reducible exact Calls.in_past2 (P7.out _)) | (go_at_call 11; first | with_reducible exact Calls.in_past (P8.out _) | with_reducible exact Calls.in_past2 (P8.out _)) | (go_at_call 8; first | exact Calls.in_past (P3.out _) | exact Calls.in_past2 (P3.out _)) | (go_at_call 9; first | exact Calls.in_past (P4.out _) | exact Calls.in_past2 (P4.out _)) | (go_at_call 10; first | exact Calls.in_past (P7.out _) | exact Calls.in_past2 (P7.out _)) | (go_at_call 11; first | exact Calls.in_past (P8.out _) | exact Calls.in_past2 (P8.out _)))))
      refine wpQuiet_nil ?_
      rintro _ ⟨_, rfl⟩
      go_wp2_with fail
      clear P1 P2 P3 P4 P7 P8
      go_loopw [11, 12] (fun s i wr => ∃ (k : Nat) (x : Past), i = .int .i64 k ∧ k ≤ coresN core ∧ wr = W.past x ∧ s = .string ⟨(rowsL l a b k).toArray⟩) (fun _ i _ => coresN core - numOf i)
      case atStart => exact ⟨0, _, rfl, by omega, World.past_past, rfl⟩
      case round =>
        obtain ⟨k, x, rfl, hk, rfl, rfl⟩ := hrel
        by_cases hlt : k < coresN core
        · have g1 : (k : Int) < core := by unfold coresN at hlt; omega
          have g2 : (k : Int) < 4 := by unfold coresN at hlt; omega
          have w4 : IntKind.i64.wrap ((k : Int) + 1) = (k : Int) + 1 := by rw [IntKind.wrap_i64]; omega
          have HRL := hid (show rowsL l a b (k + 1) = rowsL l a b k ++ (rowF l k a b ++ [10]) from rfl)
          have hp := P5.out k x
          have hlen := rows_length l a b k
          have hl2 := rowF_length l k a b
          generalize rowsL l a b k = L at HRL hlen
          generalize rowF l k a b = R at HRL hp hl2
          have hs1 := size_of_list L
          have hs2 := size_of_list R
          have HP := hid hp
          clear hp P5 P6'
          go_wp2_with (go_at_call 9; (with_reducible refine HP.out.mono ?_); rintro _ _ ⟨rfl, x5, rfl⟩)
          go_roundw
          case rel => exact ⟨k + 1, _, by go_num, by omega, rfl, by rw [HRL.out, row_nl, str_append]⟩
          case measure => simp [numOf]; omega
        · have hP := P6'.out k (by omega)
          have HP := hid hP
          have hkc : core ≤ k ∨ ((k : Int) < core ∧ (k : Int) = 4) := by unfold coresN at hlt hk; omega
          clear hP P5 P6' hlt hk
          rcases hkc with g | ⟨g, g2⟩
          all_goals
            go_wp2_with (go_at_call 12; (with_reducible refine (HP.out _).mono ?_); rintro _ _ ⟨rfl, x5, rfl⟩)
            go_ret
            exact Gives.mk rfl (RowKit.Below.past hBW _)
theorem c_event_3 : Try.prog.cellsOf 3 = 1 := by kernel_rfl
theorem c_event_23 : Try.prog.cellsOf 23 = 1 := by kernel_rfl
theorem c_event : Try.prog.cellsOf 34 = 5 := by kernel_rfl
theorem rd_event {H : Type} {enc : TypeId × Value → H} {W : World} {cs : Array Value} (h : Rd enc Try.prog W 34 cs.toList) : ∃ x0 x1 x2 x3 x4 : Int, cs = #[.int .u64 x0, .int .i64 x1, .int .i64 x2, .int .i64 x3, .int .i64 x4] ∧ U64 x0 ∧ I64 x1 ∧ I64 x2 ∧ I64 x3 ∧ I64 x4 := by
  obtain ⟨c0, c1, c2, c3, c4, e⟩ := cs_five (h.len_struct Try.underlying34 c_event)
  rw [e] at h
  obtain ⟨x0, e0, w0⟩ := Rd.int (h.field Try.underlying34 0 23 0 1 rfl c_event_23) Try.underlying23
  obtain ⟨x1, e1, w1⟩ := Rd.int (h.field Try.underlying34 1 3 1 1 rfl c_event_3) Try.underlying3
  obtain ⟨x2, e2, w2⟩ := Rd.int (h.field Try.underlying34 2 3 2 1 rfl c_event_3) Try.underlying3
  obtain ⟨x3, e3, w3⟩ := Rd.int (h.field Try.underlying34 3 3 3 1 rfl c_event_3) Try.underlying3
  obtain ⟨x4, e4, w4⟩ := Rd.int (h.field Try.underlying34 4 3 4 1 rfl c_event_3) Try.underlying3
  simp at e0 e1 e2 e3 e4
  subst e0 e1 e2 e3 e4
  exact ⟨x0, x1, x2, x3, x4, arr_of e, u64_of w0, i64_of w1, i64_of w2, i64_of w3, i64_of w4⟩
theorem rd_ev {H : Type} {enc : TypeId × Value → H} {W : World} : ∀ cs : List Value, Rd enc Try.prog W 34 cs → ∃ x, cs = evV x ∧ True := fun cs hcs => by
  have hcs' : Rd enc Try.prog W 34 (cs.toArray).toList := by simpa using hcs
  obtain ⟨x0, x1, x2, x3, x4, e, _⟩ := rd_event hcs'
  refine ⟨⟨x0, x1, x2, x3, x4⟩, ?_, trivial⟩
  have : cs.toArray.toList = _ := congrArg Array.toList e
  simpa [evV] using this
theorem c_two_23 : Try.prog.cellsOf 23 = 1 := by kernel_rfl
theorem c_two : Try.prog.cellsOf 24 = 2 := by kernel_rfl
theorem rd_two {H : Type} {enc : TypeId × Value → H} {W : World} {cs : Array Value} (h : Rd enc Try.prog W 24 cs.toList) : ∃ x0 x1 : Int, cs = #[.int .u64 x0, .int .u64 x1] ∧ U64 x0 ∧ U64 x1 := by
  obtain ⟨c0, c1, e⟩ := cs_two (h.len_array Try.underlying24 c_two)
  rw [e] at h
  obtain ⟨x0, e0, w0⟩ := Rd.int (h.elem Try.underlying24 0 (by decide) 1 c_two_23) Try.underlying23
  obtain ⟨x1, e1, w1⟩ := Rd.int (h.elem Try.underlying24 1 (by decide) 1 c_two_23) Try.underlying23
  simp at e0 e1
  subst e0 e1
  exact ⟨x0, x1, arr_of e, u64_of w0, u64_of w1⟩
theorem ganttTells_own : ownKnob Try.prog.godebug = none := by kernel_rfl
theorem ganttTells_laidOut : laidOutB Try.prog = true := by kernel_rfl
theorem ganttTells_types : ∀ t ∈ Try.f3.params.toList, Try.prog.readableRec t = true ∧ t < Try.prog.types.size := by
  rw [Try.params3]
  intro t ht
  simp only [List.mem_cons, List.not_mem_nil, or_false] at ht
  rcases ht with rfl | rfl | rfl
  · exact ⟨by kernel_rfl, of_decide_eq_true (by kernel_rfl)⟩
  · exact ⟨by kernel_rfl, of_decide_eq_true (by kernel_rfl)⟩
  · exact ⟨by kernel_rfl, of_decide_eq_true (by kernel_rfl)⟩
set_option maxRecDepth 100000 in
theorem ganttTells_lifted (os : Os) (started : os.Started) (H : Type) (enc : TypeId × Value → H) :
    ReturnsInHanded {} Try.checked os 3 .any (Rows.ganttTellsSpec.pre6 enc Try.prog Try.f3 Rows.ganttTellsRow.domain false) (Rows.ganttTellsSpec.post enc Try.prog Try.f3 false true false false) := by
  refine returnsInHanded_of_change (C := Try.checked) ganttTells_own started (by kernel_rfl) Try.func3
    (ChangeSpec.witness6 (enc := enc) (C := Try.checked) false ⟨#[], #[.slice none 0 0, .int .i64 0, .agg #[.int .u64 0, .int .u64 0]], []⟩ 8 (by kernel_rfl) (by kernel_rfl) (by kernel_rfl) (by kernel_rfl)) ?_
  intro W base args ds gs before hval0 hW hcnd _
  have hval : ∀ (j : Nat) t v, Try.f3.params[j]? = some t → args[j]? = some v → Value.okWide Try.prog W .any base t v := hval0
  have hW' := hW
  obtain ⟨p, q, hA0, hV, hpq, hfz, hnd⟩ := hW
  have hA : DataW.TrodAll enc Try.prog W 0 (fun _ => true) true Try.f3.params.toList args.toList ds p := hA0
  rw [Try.params3] at hA hval
  obtain ⟨v0, vs0, d0, ds0, p0, q0, hargs, rfl, rfl, h0, r0⟩ := trodAll_cons hA
  obtain ⟨v1, vs1, d1, ds1, p1, q1, rfl, rfl, rfl, h1, r1⟩ := trodAll_cons r0
  obtain ⟨v2, vs2, d2, ds2, p2, q2, rfl, rfl, rfl, h2, r2⟩ := trodAll_cons r1
  obtain ⟨rfl, rfl, rfl⟩ := trodAll_nil r2
  obtain rfl : args = #[v0, v1, v2] := by cases args; simp_all
  have k0 := hval 0 22 v0 rfl rfl
  have k1 := hval 1 3 v1 rfl rfl
  have k2 := hval 2 24 v2 rfl rfl
  clear hA0 hval0 hval hcnd hfz hnd hpq hV hargs r2
  suffices hs : Calls Try.prog 3 #[v0, v1, v2] W (Gives (.bool true) W) from hs.mono fun e W' ⟨he, x, hx⟩ => ⟨_, he, law_post ganttTells_laidOut hW' rfl rfl (by kernel_rfl) (by first | exact Try.underlying4 | rfl) ganttTells_types (hx ▸ W.below_past x)⟩
  clear hW'
  obtain ⟨A, ca, l, rfl, ha, _, hl⟩ := rd_tab evV_length (by omega) (rd_slice Try.underlying22 k0 h0) Try.underlying22 c_event rd_ev
  obtain ⟨x1, rfl, _, _, w1⟩ := open_int Try.underlying3 k1 h1
  obtain ⟨cs, rfl, hr⟩ := rd_agg (.inr ⟨_, _, Try.underlying24⟩) k2 h2
  obtain ⟨y0, y1, rfl, g0, g1⟩ := rd_two hr
  exact GanttTells_any A ca _ l rfl hl x1 y0 y1 (i64_of w1) g0 g1 W ha
theorem ganttTells_holds : Rows.GanttTellsSaid :=
  OpenClaim.holds_of_wide 3 Try.f3 rfl rfl rfl rfl rfl rfl rfl ⟨rfl, rfl, rfl, rfl, rfl⟩ rfl rfl rfl rfl rfl (by kernel_rfl) Try.func3 (by kernel_rfl)
    (of_decide_eq_true (by kernel_rfl)) (by unfold Func.isWrapper; first | (rw [if_pos (by decide +kernel)]; kernel_rfl) | (rw [if_neg (by decide +kernel)]; exact ⟨rfl, rfl⟩))
    (fun os started H enc _ => ganttTells_lifted os started H enc)
end Go.Proofs.Ytphlbomcnholhaa
