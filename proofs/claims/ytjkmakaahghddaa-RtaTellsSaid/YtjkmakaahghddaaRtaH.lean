/-
  Layer 43: the library's sort of few elements, by deadlines. No condition but on how many.
-/
import Derived.Test.YtjkmakaahghddaaRtaG
namespace Go.Proofs.Ytjkmakaahghddaa
open Go.RowKit
def insR (d : Int → Int) (out : List Int) (x : Int) : List Int := out.takeWhile (fun y => decide (d y ≤ d x)) ++ x :: out.dropWhile (fun y => decide (d y ≤ d x))
def riseK (d : Int → Int) : Nat → List Int
  | 0 => []
  | k + 1 => insR d (riseK d k) k
theorem while_at {p : Int → Bool} : ∀ (R : List Int) (j : Nat), j ≤ R.length → (∀ i, i < j → p (atL R i) = true) → (j < R.length → p (atL R j) = false) → R.takeWhile p = R.take j ∧ R.dropWhile p = R.drop j := by
  intro R
  induction R with
  | nil => intro j hj _ _; simp
  | cons x R ih =>
    intro j hj h1 h2
    cases j with
    | zero =>
      have := h2 (by simp)
      simp [atL] at this
      simp [this]
    | succ j =>
      have h0 := h1 0 (by omega)
      simp [atL] at h0
      have := ih j (by simp at hj; omega) (fun i hi => by have := h1 (i + 1) (by omega); simpa [atL] using this) (fun hj2 => by have := h2 (by simp; omega); simpa [atL] using this)
      simp [h0, this]
theorem insR_length (d : Int → Int) (R : List Int) (x : Int) : (insR d R x).length = R.length + 1 := by
  unfold insR
  rw [List.length_append, List.length_cons]
  have := congrArg List.length (List.takeWhile_append_dropWhile (p := fun y => decide (d y ≤ d x)) (l := R))
  rw [List.length_append] at this
  omega
theorem riseK_length (d : Int → Int) : ∀ k, (riseK d k).length = k := by
  intro k
  induction k with
  | zero => rfl
  | succ k ih => rw [riseK, insR_length, ih]
theorem insR_at {d : Int → Int} {R : List Int} {x : Int} {j : Nat} (hj : j ≤ R.length) (h1 : ∀ i, i < j → d (atL R i) ≤ d x) (h2 : j < R.length → d x < d (atL R j)) :
    insR d R x = R.take j ++ x :: R.drop j := by
  have := while_at (p := fun y => decide (d y ≤ d x)) R j hj (fun i hi => by simpa using h1 i hi) (fun h => by have := h2 h; simp; omega)
  unfold insR
  rw [this.1, this.2]
theorem insAt_at (R : List Int) (x : Int) {j : Nat} (hj : j ≤ R.length) (i : Nat) : atL (R.take j ++ x :: R.drop j) i = if i < j then atL R i else if i = j then x else atL R (i - 1) := by
  unfold atL
  rw [List.getElem?_append]
  have hl : (R.take j).length = j := by simp; omega
  rw [hl]
  by_cases h : i < j
  · rw [if_pos h, if_pos h, List.getElem?_take, if_pos h]
  · rw [if_neg h, if_neg h]
    by_cases e : i = j
    · subst e; simp
    · rw [if_neg e]
      obtain ⟨m, rfl⟩ : ∃ m, i = j + 1 + m := ⟨i - j - 1, by omega⟩
      rw [show j + 1 + m - j = m + 1 by omega, List.getElem?_cons_succ, List.getElem?_drop, show j + 1 + m - 1 = j + m by omega]
/-- How many are ahead of it, and no more. -/
theorem rise_split (d : Int → Int) (R : List Int) (x : Int) : ∃ j, j ≤ R.length ∧ insR d R x = R.take j ++ x :: R.drop j ∧ (∀ i, i < j → d (atL R i) ≤ d x) ∧ (j < R.length → d x < d (atL R j)) := by
  induction R with
  | nil => exact ⟨0, Nat.le_refl _, rfl, fun i h => by omega, fun h => by simp at h⟩
  | cons y R ih =>
    by_cases h : d y ≤ d x
    · obtain ⟨j, h1, h2, h3, h4⟩ := ih
      refine ⟨j + 1, by simp; omega, ?_, fun i hi => ?_, fun hj => ?_⟩
      · have : insR d (y :: R) x = y :: insR d R x := by simp [insR, h]
        rw [this, h2]
        rfl
      · cases i with
        | zero => simpa [atL] using h
        | succ i => have := h3 i (by omega); simpa [atL] using this
      · have := h4 (by simp at hj; omega)
        simpa [atL] using this
    · refine ⟨0, by simp, ?_, fun i hi => by omega, fun _ => by simp [atL]; omega⟩
      simp [insR, h]
theorem rise_sorted (d : Int → Int) : ∀ k, ∀ a b, a ≤ b → b < k → d (atL (riseK d k) a) ≤ d (atL (riseK d k) b) := by
  intro k
  induction k with
  | zero => intro a b _ h; omega
  | succ k ih =>
    intro a b hab hb
    obtain ⟨j, h1, h2, h3, h4⟩ := rise_split d (riseK d k) k
    have hl := riseK_length d k
    rw [riseK, h2, insAt_at _ _ h1, insAt_at _ _ h1]
    rw [hl] at h1 h4
    by_cases e1 : b < j
    · rw [if_pos (by omega), if_pos e1]; exact ih a b hab (by omega)
    · rw [if_neg e1]
      by_cases e2 : b = j
      · rw [if_pos e2]
        by_cases e3 : a < j
        · rw [if_pos e3]; exact h3 a e3
        · rw [if_neg e3, if_pos (by omega)]; exact Int.le_refl _
      · rw [if_neg e2]
        have hjb : d (atL (riseK d k) j) ≤ d (atL (riseK d k) (b - 1)) := ih j (b - 1) (by omega) (by omega)
        by_cases e3 : a < j
        · rw [if_pos e3]
          have := h3 a e3
          have := h4 (by omega)
          omega
        · rw [if_neg e3]
          by_cases e4 : a = j
          · rw [if_pos e4]
            have := h4 (by omega)
            omega
          · rw [if_neg e4]
            exact ih (a - 1) (b - 1) (by omega) (by omega)
theorem rise_in (d : Int → Int) : ∀ k i, i < k → 0 ≤ atL (riseK d k) i ∧ atL (riseK d k) i < k := by
  intro k
  induction k with
  | zero => intro i h; omega
  | succ k ih =>
    intro i hi
    obtain ⟨j, h1, h2, _, _⟩ := rise_split d (riseK d k) k
    have hl := riseK_length d k
    rw [riseK, h2, insAt_at _ _ h1]
    rw [hl] at h1
    by_cases e1 : i < j
    · rw [if_pos e1]; have := ih i (by omega); omega
    · rw [if_neg e1]
      by_cases e2 : i = j
      · rw [if_pos e2]; omega
      · rw [if_neg e2]; have := ih (i - 1) (by omega); omega
/-- The row while k is on its way down to the place j. -/
def dat (R : List Int) (k j i : Nat) : Int := if i < j then atL R i else if i = j then (k : Int) else if i ≤ k then atL R (i - 1) else (i : Int)
/-- A row of the call's own, behind a world that is kept. -/
structure RowW (w wr : World) (g n c : Nat) (L : List Int) : Prop where
  below : Below w.heap.size w wr
  own : wr.ownsRow w.heap.size 3 1 (.slice (some ⟨g, 0, none⟩) n c) n (i64s L)
theorem RowW.past {w wr : World} {g n c : Nat} {L : List Int} (h : RowW w wr g n c L) (x : Past) : RowW w (wr.past x) g n c L := ⟨RowKit.Below.past h.below x, own_past h.own x⟩
theorem RowW.drew {w wr : World} {g n c : Nat} {L : List Int} (h : RowW w wr g n c L) : RowW w wr.drew g n c L := ⟨h.below.drew, h.own.drew⟩
theorem RowW.len {w wr : World} {g n c : Nat} {L : List Int} (h : RowW w wr g n c L) : L.length = n := by have := h.own.1; simpa [i64s] using this
theorem RowW.lt {w wr : World} {g n c : Nat} {L : List Int} (h : RowW w wr g n c L) : w.heap.size ≤ g ∧ g < wr.heap.size := h.own.lt g rfl
theorem RowW.cell {w wr : World} {g n c : Nat} {L : List Int} (h : RowW w wr g n c L) {k : Nat} (hk : k < n) : wr.cell? ⟨g, k, none⟩ = some (.int .i64 (atL L k)) := by
  rw [h.own.cellAt k (by omega)]
  have := h.len
  simp [i64s, atL, show k < L.length by omega]
theorem RowW.frozen {w wr : World} {g n c : Nat} {L : List Int} (h : RowW w wr g n c L) (k : Nat) : wr.frozen? ⟨g, k, none⟩ = false := h.own.frozenAt k
theorem RowW.set {w wr : World} {g n c : Nat} {L : List Int} (h : RowW w wr g n c L) (k : Nat) (x : Int) : RowW w (wr.setCell ⟨g, k, none⟩ (.int .i64 x)) g n c (L.set k x) := by
  refine ⟨h.below.setCell (p := ⟨g, k, none⟩) h.lt.1 _, ?_⟩
  have := (h.own.stored k (.int .i64 x)).1
  have e : i64s (L.set k x) = (i64s L).set k (.int .i64 x) := by simp [i64s, List.map_set]
  rw [e]
  exact this
theorem cmp_neg (a b : Int) : decide (cmpF a b < 0) = decide (a < b) := by
  unfold cmpF
  by_cases h : a < b
  · simp [h]
  · by_cases h2 : b < a <;> simp [h, h2]
set_option maxHeartbeats 4000000 in
theorem insSort_any (A : Option Addr) (ca n : Nat) (l : List Wk) (bx : Nat) (w0 : World) (hw : LsW l n ca A w0) (hbx : w0.cell? ⟨bx, 0, none⟩ = some (.slice A n ca)) (g c : Nat) (L : List Int) (w : World) (h0 : 0 < n) (hL : ∀ i, i < n → atL L i = i) (hr : RowW w0 w g n c L) :
    Calls Try.prog 30 #[.slice (some ⟨g, 0, none⟩) n c, .int .i64 0, .int .i64 n, .func (.func 18) #[] #[.pointer (some ⟨bx, 0, none⟩)]] w (fun e w' => e = .returned (.tuple #[]) ∧ RowW w0 w' g n c (riseK (dlF l) n)) := by
  have HW := hid hw
  have HBX := hid hbx
  have HR := hid hr
  have HL := hid hL
  have hfew := hw.few
  clear hw hbx hr hL
  go_enter Try.func30, Try.ntmps30
  go_wp2
  go_loopw [8] (fun i wr => ∃ (k : Nat) (L : List Int), i = .int .i64 k ∧ 1 ≤ k ∧ k ≤ n ∧ Hid (RowW w0 wr g n c L) ∧ Hid (∀ i, i < n → atL L i = if i < k then atL (riseK (dlF l) k) i else (i : Int))) (fun i _ => n - (intOf i).toNat)
  case atStart =>
    refine ⟨1, L, rfl, by omega, by omega, HR, hid (fun i hi => ?_)⟩
    rw [HL.out i hi]
    by_cases e : i < 1
    · obtain rfl : i = 0 := by omega
      rfl
    · rw [if_neg e]
  case round =>
    clear HR HL
    obtain ⟨k, L, rfl, hk1, hk, HR, HL⟩ := hrel
    by_cases hlt : k < n
    · obtain ⟨R, eR⟩ : ∃ R, riseK (dlF l) k = R := ⟨_, rfl⟩
      have hRl : R.length = k := by rw [← eR]; exact riseK_length _ _
      have hRs : ∀ a b, a ≤ b → b < k → dlF l (atL R a) ≤ dlF l (atL R b) := by rw [← eR]; exact rise_sorted _ k
      have hRi : ∀ i, i < k → 0 ≤ atL R i ∧ atL R i < k := by rw [← eR]; exact rise_in _ k
      have ER := hid eR
      rw [eR] at HL
      have HRL := hid hRl
      have HRS := hid hRs
      have HRI := hid hRi
      have HL0 := hid (show ∀ i, i < n → atL L i = dat R k k i by
        intro i hi
        rw [HL.out i hi]
        unfold dat
        by_cases e1 : i < k
        · simp [e1]
        · by_cases e2 : i = k
          · subst e2; simp
          · simp [e1, e2, show ¬ i ≤ k by omega])
      clear eR hRl hRs hRi HL
      go_wp2_with fail
      go_loopw [9] (fun i wr => ∃ (j : Nat) (L : List Int), i = .int .i64 j ∧ j ≤ k ∧ Hid (RowW w0 wr g n c L) ∧ Hid (∀ i, i < n → atL L i = dat R k j i) ∧ Hid (∀ i, j ≤ i → i < k → dlF l k < dlF l (atL R i))) (fun i _ => (intOf i).toNat)
      case atStart => exact ⟨k, L, rfl, Nat.le_refl _, HR, HL0, hid (fun i h1 h2 => by omega)⟩
      case round =>
        clear HR HL0
        obtain ⟨j, L, rfl, hj, HR, HL, HJ⟩ := hrel
        have fin : (∀ i, i < j → dlF l (atL R i) ≤ dlF l k) → ∀ i, i < n → atL L i = if i < k + 1 then atL (riseK (dlF l) (k + 1)) i else (i : Int) := by
          intro hle i hi
          rw [HL.out i hi, riseK, ER.out, insR_at (by rw [HRL.out]; exact hj) hle (fun h => HJ.out j (Nat.le_refl _) (by rw [HRL.out] at h; exact h)), insAt_at _ _ (by rw [HRL.out]; exact hj)]
          unfold dat
          by_cases e1 : i < j
          · simp [e1, show i < k + 1 by omega]
          · by_cases e2 : i = j
            · subst e2; simp [show i < k + 1 by omega]
            · by_cases e3 : i ≤ k
              · simp [e1, e2, e3, show i < k + 1 by omega]
              · simp [e1, e2, e3, show ¬ i < k + 1 by omega]
        have FIN := hid fin
        clear fin
        cases j with
        | zero =>
          have HF := hid (FIN.out (fun i hi => by omega))
          clear FIN
          go_wp2_with fail
          refine wp_region_past (by kernel_rfl) (by kernel_rfl) ?_
          repeat (go_big_quiet_step ((fail)))
          refine wpQuiet_nil ?_
          rintro _ ⟨_, rfl⟩
          go_wp2_with fail
          go_roundw
          case rel => exact ⟨k + 1, L, by go_num, by omega, by omega, hid (HR.out.past _), HF⟩
          case measure => simp [intOf]; omega
        | succ j =>
          have hcj := HR.out.cell (k := j) (by omega)
          have hcj1 := HR.out.cell (k := j + 1) (by omega)
          have hfj := HR.out.frozen j
          have hfj1 := HR.out.frozen (j + 1)
          have hlk := HR.out.lt
          have v1 : atL L j = atL R j := by rw [HL.out j (by omega)]; simp [dat]
          have v2 : atL L (j + 1) = (k : Int) := by rw [HL.out (j + 1) (by omega)]; simp [dat]
          rw [v1] at hcj
          rw [v2] at hcj1
          have hri := HRI.out j (by omega)
          obtain ⟨y, ey⟩ : ∃ y, atL R j = y := ⟨_, rfl⟩
          rw [ey] at hcj hri
          have HV1 := hid v1
          have HV2 := hid v2
          have EY := hid ey
          have hless := fun x => less_any A ca n l bx (k : Int) y (wr.past x) ((HW.out.below HR.out.below).past x) (((wr.below_past x).cell (World.block_lt_of_cell? wr _ (below_cell HR.out.below (Nat.le_refl _) _ _ HBX.out))).trans (below_cell HR.out.below (Nat.le_refl _) _ _ HBX.out)) ⟨by omega, by omega⟩ ⟨by omega, by omega⟩
          obtain ⟨r, er⟩ : ∃ r, cmpF (dlF l k) (dlF l y) = r := ⟨_, rfl⟩
          have hdec := cmp_neg (dlF l k) (dlF l y)
          rw [er] at hless hdec
          have HLESS := hid hless
          have HDEC := hid hdec
          have e1 : IntKind.i64.wrap ((j : Int) + 1 - 1) = (j : Int) := by rw [IntKind.wrap_i64]; omega
          have e2 : ((j + 1 : Nat) : Int) = (j : Int) + 1 := by omega
          clear v1 v2 ey hless er hdec
          rcases dec_cases (r < 0) with hb | hb
          · have hlt2 : dlF l k < dlF l y := by
              have := HDEC.out
              rw [hb] at this
              simpa using this.symm
            have HK2 : Hid (RowW w0 ((wr.setCell ⟨g, j + 1, none⟩ (.int .i64 y)).setCell ⟨g, j, none⟩ (.int .i64 k)) g n c ((L.set (j + 1) y).set j k)) := hid ((HR.out.set _ _).set _ _)
            have HL2 : Hid (∀ i, i < n → atL ((L.set (j + 1) y).set j k) i = dat R k j i) := hid (by
              intro i hi
              have hln := HR.out.len
              rw [atL_set (by simp; omega), atL_set (by omega), HL.out i hi]
              unfold dat
              by_cases q1 : i = j
              · subst q1; simp
              · by_cases q2 : i = j + 1
                · subst q2
                  rw [if_neg (by omega), if_pos rfl, if_neg (by omega), if_neg (by omega), if_pos (by omega)]
                  exact EY.out.symm
                · by_cases q3 : i < j
                  · simp [q1, q2, q3, show i < j + 1 by omega]
                  · simp [q1, q2, q3, show ¬ i < j + 1 by omega])
            have HLT := hid hlt2
            clear hlt2
            go_wp2_with fail
            refine wp_region_past (by kernel_rfl) (by kernel_rfl) ?_
            repeat (go_big_quiet_step ((first | (go_at_call 18; first | with_reducible exact Calls.in_past (HLESS.out _) | with_reducible exact Calls.in_past2 (HLESS.out _)) | (go_at_call 18; first | exact Calls.in_past (HLESS.out _) | exact Calls.in_past2 (HLESS.out _)))))
            refine wpQuiet_nil ?_
            rintro _ ⟨_, rfl⟩
            go_wp2_with fail
            go_region
            go_wp2_with fail
            go_roundw
            case rel => exact ⟨j, (L.set (j + 1) y).set j k, by go_num, by omega, hid (HK2.out.past _), HL2, hid (fun i h1 h2 => by
              by_cases q : i = j
              · subst q; rw [EY.out]; exact HLT.out
              · exact HJ.out i (by omega) h2)⟩
            case measure => simp [intOf]
          · have hge : ¬ dlF l k < dlF l y := by
              have := HDEC.out
              rw [hb] at this
              simpa using this.symm
            have HF := hid (FIN.out (fun i hi => by
              have := HRS.out i j (by omega) (by omega)
              rw [EY.out] at this
              omega))
            clear FIN hge
            go_wp2_with fail
            refine wp_region_past (by kernel_rfl) (by kernel_rfl) ?_
            repeat (go_big_quiet_step ((first | (go_at_call 18; first | with_reducible exact Calls.in_past (HLESS.out _) | with_reducible exact Calls.in_past2 (HLESS.out _)) | (go_at_call 18; first | exact Calls.in_past (HLESS.out _) | exact Calls.in_past2 (HLESS.out _)))))
            refine wpQuiet_nil ?_
            rintro _ ⟨_, rfl⟩
            go_wp2_with fail
            go_roundw
            case rel => exact ⟨k + 1, L, by go_num, by omega, by omega, hid (HR.out.past _), HF⟩
            case measure => simp [intOf]; omega
    · obtain rfl : k = n := by omega
      have he : L = riseK (dlF l) k := by
        apply list_ext (by rw [HR.out.len, riseK_length])
        intro i hi
        rw [HR.out.len] at hi
        rw [HL.out i hi, if_pos hi]
      rw [he] at HR
      go_wp2
      go_end0
      exact ⟨rfl, HR.out⟩
end Go.Proofs.Ytjkmakaahghddaa
