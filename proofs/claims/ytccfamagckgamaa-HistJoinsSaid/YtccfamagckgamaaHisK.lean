/-
  Layer 34: what came to one comes to another. No condition.
-/
import Derived.Test.YtccfamagckgamaaHisU
import Derived.Deep.RegionWith
namespace Go.Proofs.Ytccfamagckgamaa
open Go.RowKit
theorem at_append (L M : List Cm) (k : Nat) : atF (L ++ M) k = atF L k + atF M k := by
  unfold atF
  rw [List.filter_append, List.map_append, List.sum_append]
theorem addF_min {a b : Int} (ha : U64 a) (hb : U64 b) : addF a b = min (a + b) 18446744073709551615 := by
  rw [(add_val ha hb).1]
  split <;> omega
theorem mulF_w (a b : Int) : U64 (mulF a b) := by unfold mulF loF top64; split <;> (unfold U64; omega)
theorem fold_add (M : List Cm) : ∀ s, U64 s → M.foldl sumStep s = addF s (M.foldl sumStep 0) := by
  have key : ∀ (M : List Cm) (s : Int), U64 s → U64 (M.foldl sumStep s) := by
    intro M
    induction M with
    | nil => intro s h; exact h
    | cons x M ih => intro s _; exact ih _ (addF_w _ _)
  have z0 : U64 0 := by unfold U64; omega
  induction M with
  | nil =>
    intro s hs
    rw [List.foldl_nil, List.foldl_nil, addF_min hs z0]
    unfold U64 at hs
    omega
  | cons x M ih =>
    intro s hs
    rw [List.foldl_cons, List.foldl_cons, ih (sumStep s x) (addF_w _ _), ih (sumStep 0 x) (addF_w _ _)]
    have hf := key M 0 z0
    have hm := mulF_w x.1 x.2
    generalize M.foldl sumStep 0 = f at hf ⊢
    simp only [sumStep]
    generalize mulF x.1 x.2 = m at hm ⊢
    have h1 := addF_w s m
    have h2 := addF_w 0 m
    have h3 := addF_w (addF 0 m) f
    rw [addF_min h1 hf, addF_min hs h3, addF_min h2 hf, addF_min hs hm, addF_min z0 hm]
    unfold U64 at hs hf hm
    omega
theorem tot_append (L M : List Cm) : totF (L ++ M) = addF (totF L) (totF M) := by
  unfold totF
  rw [List.foldl_append]
  exact fold_add M _ (sum_u64 L)
theorem most_append {L M : List Cm} (hL : ∀ x ∈ L, U64 x.1 ∧ 1 ≤ x.2) : mostF (L ++ M) = max (mostF L) (mostF M) := by
  have key : ∀ (M : List Cm) (s : Int), 0 ≤ s → M.foldl (fun m x => max m x.1) s = max s (M.foldl (fun m x => max m x.1) 0) := by
    intro M
    induction M with
    | nil => intro s hs; simp; omega
    | cons x M ih =>
      intro s hs
      rw [List.foldl_cons, List.foldl_cons, ih _ (by omega), ih (max 0 x.1) (by omega)]
      omega
  unfold mostF
  rw [List.foldl_append]
  exact key M _ (most_range hL).1
theorem ok_append {L M : List Cm} (hL : OkL L) (hM : OkL M) (h : cntF L + cntF M ≤ 1099511627776) : OkL (L ++ M) :=
  ⟨fun x hx => by rcases List.mem_append.1 hx with hx | hx; exact hL.each x hx; exact hM.each x hx, by rw [cnt_append]; exact h⟩
/-- Up to a place all is added. -/
def ctsJ (L M : List Cm) (k : Nat) : List Value := (List.range 65).map fun i => .int .i64 (if i < k then atF L i + atF M i else atF L i)
def cellsJ (L M : List Cm) (k : Nat) : List Value := ctsJ L M k ++ [.int .i64 (cntF L), .int .u64 (totF L), .int .u64 (mostF L)]
theorem ctsJ_length (L M : List Cm) (k : Nat) : (ctsJ L M k).length = 65 := by simp [ctsJ]
theorem cellsJ_length (L M : List Cm) (k : Nat) : (cellsJ L M k).length = 68 := by simp [cellsJ, ctsJ_length]
theorem cellsJ_zero (L M : List Cm) : cellsJ L M 0 = cellsF L := by simp [cellsJ, cellsF, ctsJ, cts]
theorem cellsJ_at (L M : List Cm) (k : Nat) {i : Nat} (h : i < 65) : (cellsJ L M k)[i]? = some (.int .i64 (if i < k then atF L i + atF M i else atF L i)) := by
  rw [cellsJ, List.getElem?_append_left (by rw [ctsJ_length]; exact h)]
  simp [ctsJ, h]
theorem cellsJ_hi (L M : List Cm) (k : Nat) {i : Nat} (h : 65 ≤ i) : (cellsJ L M k)[i]? = (cellsF L)[i]? := by
  rw [cellsJ, cellsF, List.getElem?_append_right (by rw [ctsJ_length]; exact h), List.getElem?_append_right (by rw [cts_length]; exact h), ctsJ_length, cts_length]
theorem cellsJ_set (L M : List Cm) {k : Nat} (h : k < 65) : (cellsJ L M k).set k (.int .i64 (atF L k + atF M k)) = cellsJ L M (k + 1) := by
  apply List.ext_getElem?
  intro i
  by_cases h0 : i < 65
  · by_cases e : k = i
    · subst e
      rw [List.getElem?_set_self (by rw [cellsJ_length]; omega), cellsJ_at _ _ _ h, if_pos (by omega)]
    · rw [List.getElem?_set_ne e, cellsJ_at _ _ _ h0, cellsJ_at _ _ _ h0]
      by_cases c : i < k
      · rw [if_pos c, if_pos (by omega)]
      · rw [if_neg c, if_neg (by omega)]
  · rw [List.getElem?_set_ne (by omega), cellsJ_hi _ _ _ (by omega), cellsJ_hi _ _ _ (by omega)]
theorem cellsJ_end {L M : List Cm} (hL : ∀ x ∈ L, U64 x.1 ∧ 1 ≤ x.2) : (((cellsJ L M 65).set 67 (.int .u64 (max (mostF L) (mostF M)))).set 66 (.int .u64 (addF (totF L) (totF M)))).set 65 (.int .i64 (cntF L + cntF M)) = cellsF (L ++ M) := by
  apply List.ext_getElem?
  intro i
  by_cases h0 : i < 65
  · rw [List.getElem?_set_ne (by omega), List.getElem?_set_ne (by omega), List.getElem?_set_ne (by omega), cellsJ_at _ _ _ h0, cells_ct _ h0, if_pos h0, at_append]
  · by_cases h1 : i = 65
    · subst h1
      rw [List.getElem?_set_self (by simp [cellsJ_length]), cells_cnt, cnt_append]
    · by_cases h2 : i = 66
      · subst h2
        rw [List.getElem?_set_ne (by omega), List.getElem?_set_self (by simp [cellsJ_length]), cells_sum, tot_append]
      · by_cases h3 : i = 67
        · subst h3
          rw [List.getElem?_set_ne (by omega), List.getElem?_set_ne (by omega), List.getElem?_set_self (by simp [cellsJ_length]), cells_most, most_append hL]
        · rw [List.getElem?_eq_none (by simp [cellsJ_length]; omega), List.getElem?_eq_none (by rw [cells_length]; omega)]
theorem keep_hi {w : World} {bh bk k i : Nat} {v u : Value} (x : Past) (h : w.cell? ⟨bk, i, none⟩ = some v) (hne : i ≠ k) : ((w.setCell ⟨bh, k, none⟩ u).past x).cell? ⟨bk, i, none⟩ = some v := by
  refine below_cell (World.below_past _ x) (Nat.le_refl _) _ _ ?_
  rw [World.cell?_setCell_other w _ _ u (by intro e; injection e with e1 e2; omega)]
  exact h
set_option maxRecDepth 20000 in
set_option maxHeartbeats 1000000 in
theorem Join_any (bh bk : Nat) (L M : List Cm) (hL : OkL L) (hM : OkL M) (w : World) (h : HisAt w bh L) (hk : HisAt w bk M) :
    Calls Try.prog 16 #[.pointer (some ⟨bh, 0, none⟩), .pointer (some ⟨bk, 0, none⟩)] w (fun e W' => e = .returned (.bool (decide (cntF L + cntF M ≤ 1099511627776))) ∧ HisAt W' bh (if cntF L + cntF M ≤ 1099511627776 then L ++ M else L) ∧ Kept (· = bh) w W') := by
  have c0 := cnt_nonneg hL.each
  have c1 := hL.most
  have d0 := cnt_nonneg hM.each
  have d1 := hM.most
  have q1 := h.cnt
  have q2 := hk.cnt
  have e1 : IntKind.i64.wrap (1099511627776 - cntF L) = 1099511627776 - cntF L := by rw [IntKind.wrap_i64]; omega
  by_cases hfull : cntF L + cntF M ≤ 1099511627776
  · rw [if_pos hfull, decide_eq_true hfull]
    have g : decide (1099511627776 - cntF L < cntF M) = false := by rw [decide_eq_false_iff_not]; omega
    have hrow : ∀ x, (w.past x).rangeAt bk 0 (cts M) := fun x j v hj => by
      have hlt : j < 65 := by rw [← cts_length M]; exact (List.getElem?_eq_some_iff.1 hj).1
      have := HisAt.ct (Rec.past hk x) hlt
      simp [cts, hlt] at hj
      rw [Nat.zero_add, this, hj]
    have HROW := hid hrow
    have HL := hid hL
    have HM := hid hM
    have HH := hid h
    have HK := hid hk
    clear h hk hL hM hrow
    go_enter Try.func16, Try.ntmps16
    go_wp2_with fail
    refine wp_region_past (by kernel_rfl) (by kernel_rfl) ?_
    repeat (go_big_quiet_step ((fail)))
    refine wpQuiet_nil ?_
    rintro _ ⟨_, rfl⟩
    go_wp2_with (refine wpList_load_mid rfl 52 _ rfl bk 0 rfl (cts M) _ (HROW.out _) Try.underlying52 rfl (by rw [cts_length]; kernel_rfl) ?_)
    obtain ⟨arr, earr⟩ : ∃ arr, cts M = arr := ⟨_, rfl⟩
    have HARR := hid (fun k (hk : k < 65) => (by rw [← earr]; simp [cts, hk] : arr[k]? = some (.int .i64 (atF M k))))
    rw [earr]
    clear earr HROW q1 q2 e1 g
    go_loopw [29] (fun i wr => ∃ (k : Nat), i = .int .i64 k ∧ k ≤ 65 ∧ Hid (Rec wr bh 54 (cellsJ L M k).toArray) ∧ Hid (wr.cell? ⟨bk, 65, none⟩ = some (.int .i64 (cntF M)) ∧ wr.cell? ⟨bk, 66, none⟩ = some (.int .u64 (totF M)) ∧ wr.cell? ⟨bk, 67, none⟩ = some (.int .u64 (mostF M))) ∧ Hid (Kept (· = bh) w wr)) (fun i _ => 65 - numOf i)
    case atStart =>
      refine ⟨0, rfl, by omega, hid ?_, hid ⟨?_, ?_, ?_⟩, hid (Kept.past (Kept.refl _ _) _)⟩
      · rw [cellsJ_zero]; exact Rec.past HH.out _
      · exact HisAt.cnt (Rec.past HK.out _)
      · exact HisAt.tot (Rec.past HK.out _)
      · exact HisAt.most (Rec.past HK.out _)
    case round =>
      obtain ⟨k, rfl, hk, HR, HQ, HKE⟩ := hrel
      have hlt := Rec.lt HR.out
      by_cases hl : k < 65
      · have hix := fun w => index_run arr k hl _ (HARR.out k hl) w
        have qk : wr.cell? ⟨bh, k, none⟩ = some (.int .i64 (atF L k)) := by
          rw [Rec.cell HR.out]
          have := cellsJ_at L M k hl
          rw [if_neg (by omega)] at this
          simpa using this
        have fk := Rec.frozen HR.out k
        have a1 := at_range HL.out.each k
        have a2 := at_range HM.out.each k
        have e2 : IntKind.i64.wrap (atF L k + atF M k) = atF L k + atF M k := by rw [IntKind.wrap_i64]; omega
        have HSET := hid (cellsJ_set L M hl)
        have hR2 := hid (Rec.set HR.out k (.int .i64 (atF L k + atF M k)))
        have HQ2 := hid (fun x => (⟨keep_hi (bh := bh) (k := k) (u := .int .i64 (atF L k + atF M k)) x HQ.out.1 (by omega), keep_hi (bh := bh) (k := k) (u := .int .i64 (atF L k + atF M k)) x HQ.out.2.1 (by omega), keep_hi (bh := bh) (k := k) (u := .int .i64 (atF L k + atF M k)) x HQ.out.2.2 (by omega)⟩ : _ ∧ _ ∧ _))
        clear a1 a2 HARR c0 c1 d0 d1 hfull
        go_wp2_with fail
        refine wp_region_to (C := fun w' => ∃ x : Past, w' = (wr).past x) 11 1 (by kernel_rfl) (by kernel_rfl) rfl (by kernel_rfl) (past_of ⟨rfl, rfl, rfl, Nat.le_refl _, fun _ _ => rfl⟩) ?_
        simp only [List.take_succ_cons, List.take_zero]
        repeat (go_big_quiet_step ((fail)))
        refine wpQuiet_nil ?_
        rintro _ ⟨x9, rfl⟩
        refine wpAny_ready (rs := [11]) (by kernel_rfl) (by simp) ?_
        refine AllReady.cons rfl (fun K hK => ?_) AllReady.nil
        go_simp
        refine hK _ _ ?_
        clear hK K
        refine wpAny_done (by kernel_rfl) ?_ _
        go_wp2
        go_roundw
        case rel =>
          refine ⟨k + 1, by go_num, by omega, hid ?_, hid (HQ2.out _), hid (Kept.past ?_ _)⟩
          · have := hR2.out
            simp only [List.setIfInBounds_toArray] at this
            rw [HSET.out] at this
            exact this.past _
          · exact (show Kept (· = bh) w (wr.setCell ⟨bh, k, none⟩ (.int .i64 (atF L k + atF M k))) from HKE.out.setCell (p := ⟨bh, k, none⟩) (.inr rfl) _)
        case measure => simp [numOf]; omega
      · obtain rfl : k = 65 := by omega
        clear HARR
        have r67 : wr.cell? ⟨bh, 67, none⟩ = some (.int .u64 (mostF L)) := by
          rw [Rec.cell HR.out]
          have := (cellsJ_hi L M 65 (i := 67) (by omega)).trans (cells_most L)
          simpa using this
        have s67 := HQ.out.2.2
        have f67 := Rec.frozen HR.out 67
        go_wp2_with fail
        refine wp_region_to (C := fun w' => ∃ x : Past, w' = (wr).past x) 12 1 (by kernel_rfl) (by kernel_rfl) rfl (by kernel_rfl) (past_of ⟨rfl, rfl, rfl, Nat.le_refl _, fun _ _ => rfl⟩) ?_
        simp only [List.take_succ_cons, List.take_zero]
        repeat (go_big_quiet_step ((fail)))
        refine wpQuiet_nil ?_
        rintro _ ⟨x8, rfl⟩
        refine wpAny_ready (rs := [12]) (by kernel_rfl) (by simp) ?_
        refine AllReady.cons rfl (fun K hK => ?_) AllReady.nil
        go_simp
        refine hK _ _ ?_
        clear hK K
        refine wpAny_done (by kernel_rfl) ?_ _
        have R8 := (Rec.set HR.out 67 (.int .u64 (max (mostF L) (mostF M)))).past x8
        have K8 : Kept (· = bh) w ((wr.setCell ⟨bh, 67, none⟩ (.int .u64 (max (mostF L) (mostF M)))).past x8) := Kept.past (show Kept (· = bh) w (wr.setCell ⟨bh, 67, none⟩ (.int .u64 (max (mostF L) (mostF M)))) from HKE.out.setCell (p := ⟨bh, 67, none⟩) (.inr rfl) _) _
        have s66 := keep_hi (bh := bh) (k := 67) (u := .int .u64 (max (mostF L) (mostF M))) x8 HQ.out.2.1 (by omega)
        have s65 := keep_hi (bh := bh) (k := 67) (u := .int .u64 (max (mostF L) (mostF M))) x8 HQ.out.1 (by omega)
        clear r67 s67 f67
        generalize (wr.setCell ⟨bh, 67, none⟩ (.int .u64 (max (mostF L) (mostF M)))).past x8 = W8 at R8 K8 s66 s65 ⊢
        simp only [List.setIfInBounds_toArray] at R8
        have hlt8 := Rec.lt R8
        have r66 : W8.cell? ⟨bh, 66, none⟩ = some (.int .u64 (totF L)) := by
          rw [Rec.cell R8]
          have := (cellsJ_hi L M 65 (i := 66) (by omega)).trans (cells_sum L)
          simp only [List.getElem?_toArray]
          rw [List.getElem?_set_ne (by omega)]
          exact this
        have f66 := Rec.frozen R8 66
        have HA := hid (fun w => Add_any (totF L) (totF M) (sum_u64 L) (sum_u64 M) w)
        go_wp2_with fail
        go_region_with (go_at_call 22; refine (HA.out _).mono ?_; rintro _ _ ⟨rfl, x9, rfl⟩)
        all_goals
          have R9 := (Rec.set R8 66 (.int .u64 (addF (totF L) (totF M)))).past x9
          have K9 : Kept (· = bh) w ((W8.setCell ⟨bh, 66, none⟩ (.int .u64 (addF (totF L) (totF M)))).past x9) := Kept.past (show Kept (· = bh) w (W8.setCell ⟨bh, 66, none⟩ (.int .u64 (addF (totF L) (totF M)))) from K8.setCell (p := ⟨bh, 66, none⟩) (.inr rfl) _) _
          have t65 := keep_hi (bh := bh) (k := 66) (u := .int .u64 (addF (totF L) (totF M))) x9 s65 (by omega)
          clear r66 f66 s66 s65
          generalize (W8.setCell ⟨bh, 66, none⟩ (.int .u64 (addF (totF L) (totF M)))).past x9 = W9 at R9 K9 t65 ⊢
          simp only [List.setIfInBounds_toArray] at R9
          clear R8 K8 hlt8
          have hlt9 := Rec.lt R9
          have r65 : W9.cell? ⟨bh, 65, none⟩ = some (.int .i64 (cntF L)) := by
            rw [Rec.cell R9]
            have := (cellsJ_hi L M 65 (i := 65) (by omega)).trans (cells_cnt L)
            simp only [List.getElem?_toArray]
            rw [List.getElem?_set_ne (by omega), List.getElem?_set_ne (by omega)]
            exact this
          have f65 := Rec.frozen R9 65
          have e3 : IntKind.i64.wrap (cntF L + cntF M) = cntF L + cntF M := by rw [IntKind.wrap_i64]; omega
          clear c0 c1 d0 d1 hfull
          go_wp2_with fail
          refine wp_region_to (C := fun w' => ∃ x : Past, w' = (W9).past x) 11 1 (by kernel_rfl) (by kernel_rfl) rfl (by kernel_rfl) (past_of ⟨rfl, rfl, rfl, Nat.le_refl _, fun _ _ => rfl⟩) ?_
          simp only [List.take_succ_cons, List.take_zero]
          repeat (go_big_quiet_step ((fail)))
          refine wpQuiet_nil ?_
          rintro _ ⟨x10, rfl⟩
          refine wpAny_ready (rs := [11]) (by kernel_rfl) (by simp) ?_
          refine AllReady.cons rfl (fun K hK => ?_) AllReady.nil
          go_simp
          refine hK _ _ ?_
          clear hK K
          refine wpAny_done (by kernel_rfl) ?_ _
          have HEND := hid (cellsJ_end (M := M) HL.out.each)
          have R10 := hid ((Rec.set R9 65 (.int .i64 (cntF L + cntF M))).past x10)
          have K10 := hid (Kept.past (show Kept (· = bh) w (W9.setCell ⟨bh, 65, none⟩ (.int .i64 (cntF L + cntF M))) from K9.setCell (p := ⟨bh, 65, none⟩) (.inr rfl) _) x10)
          clear R9 K9 t65 r65 f65 e3
          go_wp2
          go_ret
          refine ⟨rfl, ?_, K10.out⟩
          have := R10.out
          simp only [List.setIfInBounds_toArray] at this
          rw [HEND.out] at this
          exact this
  · rw [if_neg hfull, decide_eq_false hfull]
    have g : decide (1099511627776 - cntF L < cntF M) = true := by rw [decide_eq_true_eq]; omega
    have HH := hid h
    clear h hk
    go_enter Try.func16, Try.ntmps16
    go_wp2_with fail
    refine wp_region_past (by kernel_rfl) (by kernel_rfl) ?_
    repeat (go_big_quiet_step ((fail)))
    refine wpQuiet_nil ?_
    rintro _ ⟨_, rfl⟩
    go_wp2_with fail
    go_ret
    exact ⟨rfl, Rec.past HH.out _, Kept.past (Kept.refl _ _) _⟩
end Go.Proofs.Ytccfamagckgamaa
