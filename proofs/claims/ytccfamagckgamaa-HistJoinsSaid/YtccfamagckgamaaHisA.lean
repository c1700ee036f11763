/-
  Layer 34: a new one, a number that comes, how many, the greatest. No condition.
-/
import Derived.Test.YtccfamagckgamaaHisS
import Derived.Test.YtccfamagckgamaaShelf
import Derived.Test.YtccfamagckgamaaRegPl
import Derived.Deep.MidRow
import Derived.BigQuiet
namespace Go.Proofs.Ytccfamagckgamaa
open Go.RowKit
theorem Place_any (n : Int) (hn : U64 n) (w : World) : Calls Try.prog 11 #[.int .u64 n] w (Gives (.int .i64 (placeF n)) w) := by
  have HN := hid hn
  clear hn
  go_enter Try.func11, Try.ntmps11
  go_wp2_with (go_at_call 23; refine (Try.bits_Len64 n _ (by have := HN.out; unfold U64 at this; omega) (by have := HN.out; unfold U64 at this; omega)).mono ?_; rintro _ _ ⟨rfl, rfl⟩)
  go_ret
  exact Gives.refl rfl
/-- An object that has what came. -/
abbrev HisAt (w : World) (b : Nat) (L : List Cm) : Prop := Rec w b 54 (cellsF L).toArray
theorem HisAt.ct {w : World} {b : Nat} {L : List Cm} (h : HisAt w b L) {k : Nat} (hk : k < 65) : w.cell? ⟨b, k, none⟩ = some (.int .i64 (atF L k)) := by
  rw [Rec.cell h]; simpa using cells_ct L hk
theorem HisAt.cnt {w : World} {b : Nat} {L : List Cm} (h : HisAt w b L) : w.cell? ⟨b, 65, none⟩ = some (.int .i64 (cntF L)) := by
  rw [Rec.cell h]; simpa using cells_cnt L
theorem HisAt.tot {w : World} {b : Nat} {L : List Cm} (h : HisAt w b L) : w.cell? ⟨b, 66, none⟩ = some (.int .u64 (totF L)) := by
  rw [Rec.cell h]; simpa using cells_sum L
theorem HisAt.most {w : World} {b : Nat} {L : List Cm} (h : HisAt w b L) : w.cell? ⟨b, 67, none⟩ = some (.int .u64 (mostF L)) := by
  rw [Rec.cell h]; simpa using cells_most L
theorem zero_info : (Try.prog.info? 54).map (fun i => i.zero) = some (some (.agg (cellsF []).toArray)) := by kernel_rfl
theorem zero_hist (w : World) : (zeroValue 54).run Try.prog w = .ok (.agg (cellsF []).toArray) w := by
  obtain ⟨i, hi, hz⟩ := Option.map_eq_some_iff.1 zero_info
  simp [zeroValue, typeInfo, hi, hz]
theorem New_any (w : World) : Calls Try.prog 7 #[] w (fun e w' => e = .returned (.pointer (some ⟨w.heap.size, 0, none⟩)) ∧ HisAt w' w.heap.size [] ∧ Below w.heap.size w w' ∧ w'.heap.size = w.heap.size + 1) := by
  have Z := hid (fun w => zero_hist w)
  obtain ⟨cs, ecs⟩ : ∃ cs, (cellsF []).toArray = cs := ⟨_, rfl⟩
  have hZ := Z.out
  rw [ecs] at hZ
  have ECS := hid ecs
  clear Z ecs
  go_enter Try.func7, Try.ntmps7
  go_wp2
  go_ret
  exact ⟨rfl, by rw [← ECS.out]; exact Rec.new w _ _, (Below.refl _ w).alloc (Nat.le_refl _) _, by simp⟩
theorem Count_any (b : Nat) (L : List Cm) (w : World) (h : HisAt w b L) : Calls Try.prog 17 #[.pointer (some ⟨b, 0, none⟩)] w (Gives (.int .i64 (cntF L)) w) := by
  have q := h.cnt
  clear h
  go_enter Try.func17, Try.ntmps17
  go_wp2
  go_ret
  exact Gives.refl rfl
theorem HSum_any (b : Nat) (L : List Cm) (w : World) (h : HisAt w b L) : Calls Try.prog 19 #[.pointer (some ⟨b, 0, none⟩)] w (Gives (.int .u64 (totF L)) w) := by
  have q := h.tot
  clear h
  go_enter Try.func19, Try.ntmps19
  go_wp2
  go_ret
  exact Gives.refl rfl
theorem Most_any (b : Nat) (L : List Cm) (w : World) (h : HisAt w b L) : Calls Try.prog 10 #[.pointer (some ⟨b, 0, none⟩)] w (Gives (.tuple #[.int .u64 (if cntF L = 0 then 0 else mostF L), .bool (!decide (cntF L = 0))]) w) := by
  have HC := hid (fun w' x (e : w' = w.past x) => Count_any b L w' (by rw [e]; exact Rec.past h x))
  have hc := Count_any b L w h
  have q := h.most
  have HC := hid hc
  clear h hc
  by_cases hz : cntF L = 0
  · rw [hz] at HC
    go_enter Try.func10, Try.ntmps10
    go_wp2_with (go_at_call 17; refine HC.out.mono ?_; rintro _ _ ⟨rfl, x1, rfl⟩)
    go_ret2
    refine Gives.mk (by simp [hz]) ?_
    (repeat (first | exact Below.refl _ _ | refine RowKit.Below.past ?_ _ | refine RowKit.Below.alloc' ?_ _ | refine RowKit.Below.drew' ?_ | refine RowKit.Below.drewN' ?_ _ | refine RowKit.Below.setCell' ?_ (by simp [go_sem]) _))
  · go_enter Try.func10, Try.ntmps10
    go_wp2_with (go_at_call 17; refine HC.out.mono ?_; rintro _ _ ⟨rfl, x1, rfl⟩)
    go_ret2
    refine Gives.mk (by simp [hz]) ?_
    (repeat (first | exact Below.refl _ _ | refine RowKit.Below.past ?_ _ | refine RowKit.Below.alloc' ?_ _ | refine RowKit.Below.drew' ?_ | refine RowKit.Below.drewN' ?_ _ | refine RowKit.Below.setCell' ?_ (by simp [go_sem]) _))
def addOk (L : List Cm) (x : Cm) : Bool := decide (1 ≤ x.2) && decide (cntF L + x.2 ≤ 1099511627776)
def addL (L : List Cm) (x : Cm) : List Cm := if addOk L x = true then L ++ [x] else L
set_option maxHeartbeats 1000000 in
theorem Add_any' (b : Nat) (L : List Cm) (hL : OkL L) (n times : Int) (hn : U64 n) (ht : I64 times) (w : World) (h : HisAt w b L) :
    Calls Try.prog 8 #[.pointer (some ⟨b, 0, none⟩), .int .u64 n, .int .i64 times] w (fun e w' => e = .returned (.bool (addOk L (n, times))) ∧ HisAt w' b (addL L (n, times)) ∧ Kept (· = b) w w') := by
  have c0 := cnt_nonneg hL.each
  have c1 := hL.most
  have q1 := h.cnt
  have e1 : IntKind.i64.wrap (1099511627776 - cntF L) = 1099511627776 - cntF L := by rw [IntKind.wrap_i64]; omega
  by_cases g1 : times < 1
  · have HH := hid h
    clear h
    go_enter Try.func8, Try.ntmps8
    go_wp2
    go_ret
    have e : addOk L (n, times) = false := by unfold addOk; rw [decide_eq_false (by show ¬ 1 ≤ times; omega)]; rfl
    exact ⟨by rw [e]; rfl, by unfold addL; rw [e]; exact HH.out, Kept.refl _ _⟩
  · by_cases g2 : 1099511627776 - cntF L < times
    · have HH := hid h
      clear h
      go_enter Try.func8, Try.ntmps8
      go_wp2
      go_ret
      have e : addOk L (n, times) = false := by unfold addOk; rw [decide_eq_false (show ¬ cntF L + (n, times).2 ≤ 1099511627776 by show ¬ cntF L + times ≤ 1099511627776; omega), Bool.and_false]
      exact ⟨by rw [e]; rfl, by unfold addL; rw [e]; exact HH.out, Kept.refl _ _⟩
    · have e : addOk L (n, times) = true := by unfold addOk; rw [decide_eq_true (show 1 ≤ (n, times).2 by show 1 ≤ times; omega), decide_eq_true (show cntF L + (n, times).2 ≤ 1099511627776 by show cntF L + times ≤ 1099511627776; omega)]; rfl
      have hpl := place_le hn
      have HP := hid (fun w => Place_any n hn w)
      obtain ⟨k, ek⟩ : ∃ k, placeF n = k := ⟨_, rfl⟩
      rw [ek] at HP hpl
      have hk : k < 65 := by omega
      have q0 := h.ct hk
      have q2 := h.tot
      have q3 := h.most
      have hlt := Rec.lt h
      have f0 := Rec.frozen h k
      have f1 := Rec.frozen h 65
      have f2 := Rec.frozen h 66
      have f3 := Rec.frozen h 67
      have ha := at_range hL.each k
      have e2 : IntKind.i64.wrap (atF L k + times) = atF L k + times := by rw [IntKind.wrap_i64]; omega
      have e3 : IntKind.i64.wrap (cntF L + times) = cntF L + times := by rw [IntKind.wrap_i64]; omega
      have e4 : IntKind.u64.wrap times = times := by rw [IntKind.wrap_u64]; omega
      have ht' : U64 times := by unfold U64; omega
      have HM := hid (fun w => Mul_any n times hn ht' w)
      have HMW := hid (show U64 (mulF n times) by unfold mulF loF top64; split <;> (unfold U64; omega))
      have HA := hid (fun w => Add_any (totF L) (mulF n times) (sum_u64 L) HMW.out w)
      have HS := hid (show ((((cellsF L).set k (.int .i64 (atF L k + times))).set 65 (.int .i64 (cntF L + times))).set 66 (.int .u64 (addF (totF L) (mulF n times)))).set 67 (.int .u64 (max (mostF L) n)) = cellsF (L ++ [(n, times)]) by rw [← ek]; exact cells_snoc L (n, times) (by rw [ek]; exact hk))
      have HE := hid e
      have HH := hid h
      clear h e ek hn ht ht' hL c0 ha hpl
      go_enter Try.func8, Try.ntmps8
      go_wp2
      refine wp_region_to (C := fun w' => ∃ x : Past, w' = w.past x) 12 1 (by kernel_rfl) (by kernel_rfl) rfl (by kernel_rfl) (past_of ⟨rfl, rfl, rfl, Nat.le_refl _, fun _ _ => rfl⟩) ?_
      simp only [List.take_succ_cons, List.take_zero]
      repeat (go_big_quiet_step ((go_at_call 11; first | with_reducible exact Calls.in_past (HP.out _) | exact Calls.in_past (HP.out _))))
      refine wpQuiet_nil ?_
      rintro _ ⟨x1, rfl⟩
      refine wpAny_ready (rs := [12]) (by kernel_rfl) (by simp) ?_
      refine AllReady.cons rfl (fun K hK => ?_) AllReady.nil
      go_simp
      refine hK _ _ ?_
      clear hK K
      refine wpAny_done (by kernel_rfl) ?_ _
      go_wp2_with (first | (go_at_call 21; refine (HM.out _).mono ?_; rintro _ _ ⟨rfl, x2, rfl⟩) | (go_at_call 22; refine (HA.out _).mono ?_; rintro _ _ ⟨rfl, x3, rfl⟩))
      go_ret
      refine ⟨by rw [HE.out]; rfl, ?_, ?_⟩
      · have h4 := (((HH.out.set k (.int .i64 (atF L k + times))).set 65 (.int .i64 (cntF L + times))).set 66 (.int .u64 (addF (totF L) (mulF n times)))).set 67 (.int .u64 (max (mostF L) n))
        simp only [List.setIfInBounds_toArray] at h4
        rw [HS.out] at h4
        unfold addL
        rw [HE.out, if_pos rfl]
        exact h4.past _
      · refine Kept.past ?_ _
        have kset : ∀ (w' : World) (i : Nat) (u : Value), Kept (· = b) w w' → Kept (· = b) w (w'.setCell ⟨b, i, none⟩ u) := fun w' i u h => h.setCell (.inr rfl) u
        exact kset _ _ _ (kset _ _ _ (kset _ _ _ (kset _ _ _ (Kept.refl _ w))))
theorem okL_nil : OkL [] := ⟨by simp, by simp [cntF]⟩
theorem okL_add {L : List Cm} (h : OkL L) {x : Cm} (hx : U64 x.1) : OkL (addL L x) := by
  unfold addL addOk
  split
  · rename_i e
    simp only [Bool.and_eq_true, decide_eq_true_eq] at e
    refine ⟨fun y hy => ?_, by rw [cnt_snoc]; exact e.2⟩
    rcases List.mem_append.1 hy with hy | hy
    · exact h.each y hy
    · simp at hy; subst hy; exact ⟨hx, e.1⟩
  · exact h
end Go.Proofs.Ytccfamagckgamaa
