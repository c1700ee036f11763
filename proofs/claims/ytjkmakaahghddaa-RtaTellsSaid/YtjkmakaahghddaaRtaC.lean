/-
  Layer 43: the answer times of all works, and whether all are done in time. No condition but that they are ints.
-/
import Derived.Test.YtjkmakaahghddaaRtaB
namespace Go.Proofs.Ytjkmakaahghddaa
open Go.RowKit
/-- Works, and where they lie. -/
structure LsW (l : List Wk) (n ca : Nat) (A : Option Addr) (w : World) : Prop where
  len : l.length = n
  cap : n ≤ ca
  few : n ≤ 1000000
  cells : Cells w A (tab wkV l)
theorem LsW.past {l : List Wk} {n ca : Nat} {A : Option Addr} {w : World} (h : LsW l n ca A w) (x : Past) : LsW l n ca A (w.past x) := ⟨h.len, h.cap, h.few, h.cells.past x⟩
theorem LsW.below {l : List Wk} {n ca : Nat} {A : Option Addr} {w w' : World} (h : LsW l n ca A w) (hb : Below w.heap.size w w') : LsW l n ca A w' := ⟨h.len, h.cap, h.few, h.cells.below hb⟩
theorem LsW.wks {l : List Wk} {n ca : Nat} {A : Option Addr} {w : World} (h : LsW l n ca A w) (hm : mayF l = true) : WksW l n ca A w := by
  obtain ⟨h6, hok⟩ := (mayF_iff l).1 hm
  exact ⟨h.len, by rw [← h.len]; exact h6, h.cap, hok, h.cells⟩
theorem LsW.may {l : List Wk} {n ca : Nat} {A : Option Addr} {w : World} (h : LsW l n ca A w) : Calls Try.prog 15 #[.slice A n ca] w (Gives (.bool (mayF l)) w) := May_any A ca n l h.len w h.cells
theorem info_i64 : (Try.prog.info? 3).map (fun i => (i.zero, i.size, i.bytes)) = some (some (.int .i64 0), 1, 8) := by kernel_rfl
def timesK (l : List Wk) (B : Int) (k : Nat) : List Int := (List.range k).map fun i => timeF l i B
def timesF (l : List Wk) (B : Int) : List Int := if mayF l = true then timesK l B l.length else []
theorem timesK_succ (l : List Wk) (B : Int) (k : Nat) : timesK l B (k + 1) = timesK l B k ++ [timeF l k B] := by simp [timesK, List.range_succ]
theorem timesK_length (l : List Wk) (B : Int) (k : Nat) : (timesK l B k).length = k := by simp [timesK]
theorem answer_v (A : Option Addr) (ca n : Nat) (l : List Wk) (at' : Nat) (V B : Int) (hV : B = V) (w : World) (hw : WksW l n ca A w) (hat : at' < n) (hB : 0 ≤ B ∧ B ≤ 1000) :
    Calls Try.prog 16 #[.slice A n ca, .int .i64 at', .int .i64 V] w (Gives (.int .i64 (timeF l at' B)) w) := by subst hV; exact answer_any A ca n l at' B w hw hat hB
set_option maxHeartbeats 2000000 in
theorem times_core (A : Option Addr) (ca n : Nat) (l : List Wk) (block B : Int) (hb : (block < 0 ∧ B = 0) ∨ (0 ≤ block ∧ 1000 < block ∧ B = 1000) ∨ (0 ≤ block ∧ block ≤ 1000 ∧ B = block)) (w : World) (hw : LsW l n ca A w) :
    Calls Try.prog 7 #[.slice A n ca, .int .i64 block] w (GivesOwn 3 1 (timesF l B).length (i64s (timesF l B)) w) := by
  obtain ⟨i0, hi, hz0, hz1, hz2⟩ := info_parts info_i64
  have HW := hid hw
  have hM := hw.may
  cases hm : mayF l with
  | false =>
    have hf : timesF l B = [] := by simp [timesF, hm]
    rw [hm] at hM
    rw [hf]
    have HM := hid hM
    clear hM hm hf hw hb
    go_enter Try.func7, Try.ntmps7
    go_wp2_with ((go_at_call 15; refine (HM.out).mono ?_; rintro _ _ ⟨rfl, _, rfl⟩))
    go_ret
    exact ⟨none, 0, rfl, (by (repeat (first | exact Below.refl _ _ | refine RowKit.Below.past ?_ _ | refine RowKit.Below.alloc' ?_ _ | refine RowKit.Below.drew' ?_ | refine RowKit.Below.drewN' ?_ _ | refine RowKit.Below.setCell' ?_ (by simp [go_sem]) _))), World.ownsRow_nil _ _ _ _⟩
  | true =>
    have hf : timesF l B = timesK l B n := by simp [timesF, hm, hw.len]
    have hl : (timesF l B).length = n := by rw [hf, timesK_length]
    rw [hm] at hM
    rw [hl, hf]
    have HM := hid hM
    have WK := hid (hw.wks hm)
    have h6 := WK.out.six
    have hB : Hid (0 ≤ B ∧ B ≤ 1000) := hid (by omega)
    clear hM hm hf hl hw
    rcases hb with ⟨hb1, hV⟩ | ⟨hb1, hb2, hV⟩ | ⟨hb1, hb2, hV⟩
    all_goals
      have HV := hid hV
      clear hV
      go_enter Try.func7, Try.ntmps7
      go_wp2_with ((go_at_call 15; refine (HM.out).mono ?_; rintro _ _ ⟨rfl, _, rfl⟩))
      go_loopw [5, 12] (fun v i wr => ∃ (k : Nat) (x : Past), i = .int .i64 k ∧ k ≤ n ∧ wr = w.past x ∧ Hid ((w.past x).ownsRow w.heap.size 3 1 v k (i64s (timesK l B k)))) (fun _ i _ => n - (intOf i).toNat)
      case atStart => exact ⟨0, _, rfl, by omega, rfl, hid (World.ownsRow_nil _ _ _ _)⟩
      case round =>
        obtain ⟨k, x, rfl, hk, rfl, HO⟩ := hrel
        by_cases hlt : k < n
        · have hA := hid (answer_v A ca n l k _ B HV.out (w.past x) (WK.out.past x) hlt hB.out)
          obtain ⟨T, eT⟩ : ∃ T, timeF l k B = T := ⟨_, rfl⟩
          have ET := hid eT
          rw [eT] at hA
          clear eT
          go_wp2_with (first | (go_at_call 16; refine hA.out.mono ?_; rintro _ _ ⟨rfl, _, rfl⟩) | (at_builtin; refine wpList_push rfl (.tmp 15) (.tmp 22) 25 rfl 3 i0 (.int .i64 0) 1 8 Try.underlying25 hi hz0 hz1 hz2 rfl (by decide) (w0 := w) ?_ _ _ _ rfl (own_and HO.out _) _ (#[.int .i64 T]) ?_ rfl rfl ?_ ?_ ?_ ?_; (· (repeat (first | exact Below.refl _ _ | refine RowKit.Below.past ?_ _ | refine RowKit.Below.alloc' ?_ _ | refine RowKit.Below.drew' ?_ | refine RowKit.Below.drewN' ?_ _ | refine RowKit.Below.setCell' ?_ (by simp [go_sem]) _))); (· simp [go_sem]); (· simp [Value.oneCell']); (· omega); (· (unfold maxLen; omega)); intro x1 g1 cap1 hown1))
          all_goals
            go_roundw
            case rel =>
              refine ⟨k + 1, _, by go_num, by omega, rfl, hid ?_⟩
              rw [timesK_succ, ET.out, ← i64s_snoc]
              exact hown1
            case measure => simp [intOf]; omega
        · obtain rfl : k = n := by omega
          obtain ⟨A', cap', rfl⟩ := own_shape HO.out
          go_wp2
          go_ret
          exact ⟨A', cap', rfl, (by (repeat (first | exact Below.refl _ _ | refine RowKit.Below.past ?_ _ | refine RowKit.Below.alloc' ?_ _ | refine RowKit.Below.drew' ?_ | refine RowKit.Below.drewN' ?_ _ | refine RowKit.Below.setCell' ?_ (by simp [go_sem]) _))), HO.out⟩
theorem clamp_hb (block : Int) : (block < 0 ∧ clampF block 0 1000 = 0) ∨ (0 ≤ block ∧ 1000 < block ∧ clampF block 0 1000 = 1000) ∨ (0 ≤ block ∧ block ≤ 1000 ∧ clampF block 0 1000 = block) := by
  unfold clampF; split <;> (try split) <;> omega
theorem Times_any (A : Option Addr) (ca n : Nat) (l : List Wk) (block : Int) (w : World) (hw : LsW l n ca A w) :
    Calls Try.prog 7 #[.slice A n ca, .int .i64 block] w (GivesOwn 3 1 (timesF l (clampF block 0 1000)).length (i64s (timesF l (clampF block 0 1000))) w) :=
  times_core A ca n l block _ (clamp_hb block) w hw
def lateF (l : List Wk) (B : Int) (k : Nat) : Bool := decide (timeF l k B < 0) || decide ((wk l k).d < timeF l k B)
def meetF (l : List Wk) (B : Int) : Bool := mayF l && (List.range l.length).all fun k => !lateF l B k
set_option maxHeartbeats 2000000 in
theorem Meet_any (A : Option Addr) (ca n : Nat) (l : List Wk) (block : Int) (w : World) (hw : LsW l n ca A w) :
    Calls Try.prog 12 #[.slice A n ca, .int .i64 block] w (Gives (.bool (meetF l (clampF block 0 1000))) w) := by
  have HW := hid hw
  obtain ⟨B, eB⟩ : ∃ B, clampF block 0 1000 = B := ⟨_, rfl⟩
  have hT := fun x => Times_any A ca n l block (w.past x) (hw.past x)
  rw [eB] at hT ⊢
  have hM := hw.may
  cases hm : mayF l with
  | false =>
    have hf : meetF l B = false := by simp [meetF, hm]
    have HF := hid hf
    rw [hm] at hM
    have HM := hid hM
    clear hM hm hf hw eB hT
    go_enter Try.func12, Try.ntmps12
    go_wp2_with ((go_at_call 15; refine (HM.out).mono ?_; rintro _ _ ⟨rfl, _, rfl⟩))
    go_ret
    refine Gives.mk (by rw [HF.out]; rfl) ?_
    (repeat (first | exact Below.refl _ _ | refine RowKit.Below.past ?_ _ | refine RowKit.Below.alloc' ?_ _ | refine RowKit.Below.drew' ?_ | refine RowKit.Below.drewN' ?_ _ | refine RowKit.Below.setCell' ?_ (by simp [go_sem]) _))
  | true =>
    have hf : timesF l B = timesK l B n := by simp [timesF, hm, hw.len]
    have hl : (timesF l B).length = n := by rw [hf, timesK_length]
    rw [hl, hf] at hT
    rw [hm] at hM
    have HM := hid hM
    have WK := hid (hw.wks hm)
    have h6 := WK.out.six
    have HT := hid hT
    have hme : meetF l B = (List.range n).all fun k => !lateF l B k := by simp [meetF, hm, hw.len]
    have HME := hid hme
    clear hM hm hf hl hw hT hme eB
    go_enter Try.func12, Try.ntmps12
    go_wp2_with ((go_at_call 15; refine (HM.out).mono ?_; rintro _ _ ⟨rfl, _, rfl⟩))
    refine (HT.out _).mono ?_
    rintro _ w1 ⟨T, ct, rfl, hb1, ho1⟩
    have HB1 := hid (show Below w.heap.size w w1 from below_trans' (by (repeat (first | exact Below.refl _ _ | refine RowKit.Below.past ?_ _ | refine RowKit.Below.alloc' ?_ _ | refine RowKit.Below.drew' ?_ | refine RowKit.Below.drewN' ?_ _ | refine RowKit.Below.setCell' ?_ (by simp [go_sem]) _))) hb1)
    have HC1 := hid (Cells.of_own ho1)
    clear hb1 ho1 HT HM
    go_wp2_with fail
    go_loopw [14] (fun i wr => ∃ (k : Nat) (x : Past), i = .int .i64 k ∧ k ≤ n ∧ wr = w1.past x ∧ Hid (∀ j, j < k → lateF l B j = false)) (fun i _ => n - (intOf i).toNat)
    case atStart => exact ⟨0, _, rfl, by omega, World.past_refl w1, hid (fun j h => by omega)⟩
    case round =>
      obtain ⟨k, x, rfl, hk, rfl, HJ⟩ := hrel
      by_cases hlt : k < n
      · obtain ⟨b2, o2, rfl, hc2⟩ := i64_at HC1.out (show k < (timesK l B n).length by rw [timesK_length]; exact hlt)
        obtain ⟨b1, o1, rfl, hd1, hd2, hd3⟩ := wk_at (WK.out.below HB1.out).cells (show k < l.length by rw [WK.out.len]; exact hlt)
        have et : atL (timesK l B n) k = timeF l k B := by simp [timesK, atL, hlt]
        rw [et] at hc2
        obtain ⟨D, eD⟩ : ∃ D, (wk l k).d = D := ⟨_, rfl⟩
        obtain ⟨t, eT⟩ : ∃ t, timeF l k B = t := ⟨_, rfl⟩
        rw [eD] at hd3
        rw [eT] at hc2
        have hlate : lateF l B k = (decide (t < 0) || decide (D < t)) := by unfold lateF; rw [eT, eD]
        have HL := hid hlate
        clear et eD eT hlate hd1 hd2
        have stop : lateF l B k = true → meetF l B = false := fun h => by
          rw [HME.out, List.all_eq_false]
          exact ⟨k, by simpa using hlt, by rw [h]; simp⟩
        have STOP := hid stop
        clear stop
        rcases dec_cases (t < 0) with f1 | f1
        · have hme := STOP.out (by rw [HL.out, f1]; rfl)
          have HME2 := hid hme
          clear hme
          go_wp2
          go_ret
          refine Gives.mk (by rw [HME2.out]; rfl) ?_
          exact RowKit.Below.past HB1.out _
        · rcases dec_cases (D < t) with f2 | f2
          · have hme := STOP.out (by rw [HL.out, f1, f2]; rfl)
            have HME2 := hid hme
            clear hme
            go_wp2
            go_ret
            refine Gives.mk (by rw [HME2.out]; rfl) ?_
            exact RowKit.Below.past HB1.out _
          · have hno : lateF l B k = false := by rw [HL.out, f1, f2]; rfl
            have HNO := hid hno
            clear hno
            go_wp2_with fail
            go_roundw
            case rel => exact ⟨k + 1, _, by go_num, by omega, rfl, hid (fun j hj => by
              by_cases e : j = k
              · subst e; exact HNO.out
              · exact HJ.out j (by omega))⟩
            case measure => simp [intOf]; omega
      · obtain rfl : k = n := by omega
        have hme : meetF l B = true := by
          rw [HME.out, List.all_eq_true]
          intro j hj
          rw [HJ.out j (by simpa using hj)]
          rfl
        have HME2 := hid hme
        clear hme
        go_wp2
        go_ret
        refine Gives.mk (by rw [HME2.out]; rfl) ?_
        exact RowKit.Below.past HB1.out _
end Go.Proofs.Ytjkmakaahghddaa
