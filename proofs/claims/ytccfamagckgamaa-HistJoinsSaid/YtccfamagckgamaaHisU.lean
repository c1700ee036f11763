/-
  Layer 34: what comes to the document's object. No condition.
-/
import Derived.Test.YtccfamagckgamaaHisT
import Derived.Lib.Builder
namespace Go.Proofs.Ytccfamagckgamaa
open Go.RowKit
theorem info_item : (Try.prog.info? 45).map (fun i => (i.zero, i.size, i.bytes)) = some (some (.agg #[.int .u64 0, .int .i64 0]), 2, 16) := by kernel_rfl
/-- The document's object, of the call's own. -/
structure RefAt (B : Nat) (w : World) (bw : Nat) (L : List Cm) : Prop where
  big : B ≤ bw
  ex : ∃ (A : Option Addr) (c : Nat), Rec w bw 39 #[.slice A L.length c] ∧ w.ownsRow B 45 2 (.slice A L.length c) L.length (tab cmV L)
theorem own_not {w : World} {B : Nat} {e T : TypeId} {s : Nat} {v : Value} {n : Nat} {xs : List Value} {b : Nat} {cs : Array Value} (hown : w.ownsRow B e s v n xs) (hb : Rec w b T cs) (hTe : T ≠ e) : v.ownBlock ≠ some b := by
  rcases hown.2 with ⟨rfl, _⟩ | ⟨g, cap, cur, rfl, _, hg, _⟩
  · simp [Value.ownBlock]
  · intro h
    simp only [Value.ownBlock, Option.some.injEq] at h
    subst h
    have hb' : w.heap[g]? = some (.cells cs T (0, 0)) := hb
    rw [hg] at hb'
    simp only [Option.some.injEq, Obj.cells.injEq] at hb'
    exact hTe hb'.2.1.symm
theorem RefAt.read {B : Nat} {w : World} {bw : Nat} {L : List Cm} (h : RefAt B w bw L) : RefR w bw L := by
  obtain ⟨A, c, h1, h2⟩ := h.ex
  exact ⟨A, c, by rw [Rec.cell h1]; rfl, Cells.of_own h2⟩
theorem RefAt.below {B : Nat} {w w' : World} {bw : Nat} {L : List Cm} (h : RefAt B w bw L) (hb : Below w.heap.size w w') : RefAt B w' bw L := by
  obtain ⟨A, c, h1, h2⟩ := h.ex
  exact ⟨h.big, A, c, h1.below hb (Nat.le_refl _), own_below h2 hb (Nat.le_refl _)⟩
/-- One block has turned: another object's. -/
theorem RefAt.kept {B : Nat} {w w' : World} {bw b : Nat} {L M : List Cm} (h : RefAt B w bw L) (hk : Kept (· = b) w w') (hm : HisAt w b M) : RefAt B w' bw L := by
  obtain ⟨A, c, h1, h2⟩ := h.ex
  have hne : bw ≠ b := by
    intro e
    subst e
    have h3 : w.heap[bw]? = some (.cells #[.slice A L.length c] 39 (0, 0)) := h1
    have h4 : w.heap[bw]? = some (.cells (cellsF M).toArray 54 (0, 0)) := hm
    rw [h3] at h4
    simp only [Option.some.injEq, Obj.cells.injEq] at h4
    exact absurd h4.2.1 (by decide)
  have hno := own_not h2 hm (by decide)
  refine ⟨h.big, A, c, h1.kept hk hne, h2.1, ?_⟩
  rcases h2.2 with h3 | ⟨g, cap, cur, hv, hg, hh, hr⟩
  · exact .inl h3
  · refine .inr ⟨g, cap, cur, hv, hg, ?_, hr⟩
    have hlt : g < w.heap.size := by
      rcases Nat.lt_or_ge g w.heap.size with h' | h'
      · exact h'
      · rw [Array.getElem?_eq_none h'] at hh; cases hh
    rw [hk.block g hlt (fun e => hno (by rw [hv]; simp [Value.ownBlock, e]))]
    exact hh
set_option maxHeartbeats 2000000 in
theorem RAdd_ref (B bw : Nat) (L : List Cm) (hL : OkL L) (n times : Int) (w : World) (h : RefAt B w bw L) (hBw : B ≤ w.heap.size) :
    Calls Try.prog 12 #[.pointer (some ⟨bw, 0, none⟩), .int .u64 n, .int .i64 times] w (fun e w' => e = .returned (.bool (addOk L (n, times))) ∧ RefAt B w' bw (addL L (n, times)) ∧ Below B w w' ∧
      (∀ k t cs, Rec w k t cs → k ≠ bw → t ≠ 45 → Rec w' k t cs)) := by
  have c0 := cnt_nonneg hL.each
  have c1 := hL.most
  have HC := hid (RCount_any bw L hL w h.read)
  by_cases g1 : times < 1
  · have HH := hid h
    clear h
    have e : addOk L (n, times) = false := by unfold addOk; rw [decide_eq_false (by show ¬ 1 ≤ times; omega)]; rfl
    have HE := hid e
    clear e
    go_enter Try.func12, Try.ntmps12
    go_wp2_with fail
    go_ret
    exact ⟨by rw [HE.out]; rfl, by unfold addL; rw [HE.out]; exact HH.out, Below.refl _ _, fun _ _ _ h _ _ => h⟩
  · by_cases g2 : 1099511627776 < times
    · have HH := hid h
      clear h
      have e : addOk L (n, times) = false := by unfold addOk; rw [decide_eq_false (show ¬ cntF L + (n, times).2 ≤ 1099511627776 by show ¬ cntF L + times ≤ 1099511627776; omega), Bool.and_false]
      have HE := hid e
      clear e
      go_enter Try.func12, Try.ntmps12
      go_wp2_with fail
      go_ret
      exact ⟨by rw [HE.out]; rfl, by unfold addL; rw [HE.out]; exact HH.out, Below.refl _ _, fun _ _ _ h _ _ => h⟩
    · have e1 : IntKind.i64.wrap (cntF L + times) = cntF L + times := by rw [IntKind.wrap_i64]; omega
      by_cases g3 : 1099511627776 < cntF L + times
      · have HH := hid h
        clear h
        have e : addOk L (n, times) = false := by unfold addOk; rw [decide_eq_false (show ¬ cntF L + (n, times).2 ≤ 1099511627776 by show ¬ cntF L + times ≤ 1099511627776; omega), Bool.and_false]
        have HE := hid e
        clear e
        go_enter Try.func12, Try.ntmps12
        go_wp2_with (go_at_call 15; refine HC.out.mono ?_; rintro _ _ ⟨rfl, x1, rfl⟩)
        go_ret
        exact ⟨by rw [HE.out]; rfl, by unfold addL; rw [HE.out]; exact HH.out.below (w.below_past _), (w.below_past _).mono hBw, fun _ _ _ h _ _ => h.past _⟩
      · have e : addOk L (n, times) = true := by unfold addOk; rw [decide_eq_true (show 1 ≤ (n, times).2 by show 1 ≤ times; omega), decide_eq_true (show cntF L + (n, times).2 ≤ 1099511627776 by show cntF L + times ≤ 1099511627776; omega)]; rfl
        have HE := hid e
        obtain ⟨j0, ji, jz0, jz1, jz2⟩ := info_parts info_item
        have HJ := hid ji
        have hlen : (L.length : Int) ≤ 1099511627776 := by omega
        have HH := hid h
        clear h e ji
        go_enter Try.func12, Try.ntmps12
        go_wp2_with fail
        refine HC.out.mono ?_
        rintro _ _ ⟨rfl, x1, rfl⟩
        obtain ⟨w1, ew1⟩ : ∃ w1, w1 = w.past x1 := ⟨_, rfl⟩
        have hb1 : Below w.heap.size w w1 := by rw [ew1]; exact w.below_past x1
        rw [← ew1]
        obtain ⟨A, c, hrec, hown⟩ := (HH.out.below hb1).ex
        have hbig := HH.out.big
        have q := Rec.cell hrec 0
        have qf := Rec.frozen hrec 0
        have hlt := Rec.lt hrec
        have hno := own_not hown hrec (by decide)
        have HREC := hid hrec
        have HNO := hid hno
        clear hrec hno ew1
        simp at q
        go_wp2_with (at_builtin; refine wpList_append_own _ rfl _ _ 37 rfl B 45 j0 (.agg #[.int .u64 0, .int .i64 0]) 2 16 Try.underlying37 HJ.out jz0 jz1 jz2 rfl (by decide) _ _ _ rfl (hown.alloc _) ⟨w1.heap.size, 0, none⟩ 1 1 [.int .u64 n, .int .i64 times] rfl rfl ?c1 ?c2 ?c3 ?c4 ?c5 ?_)
        case c1 =>
          intro j u hj
          match j, hj with
          | 0, hj => simp at hj; subst hj; simp [Addr.add]
          | 1, hj => simp at hj; subst hj; simp [Addr.add]
        case c2 => intro u hu; simp at hu; rcases hu with rfl | rfl <;> rfl
        case c3 => unfold maxLen; omega
        case c4 => omega
        case c5 => have := hb1.size; simp; omega
        intro v' w2 hown' hgrow _
        have hb2 : w2.heap[bw]? = some (.cells #[.slice A L.length c] 39 (0, 0)) := by
          rw [hgrow.block bw (by simp; omega) (fun e => HNO.out e.symm), Lib.alloc_old w1 _ bw hlt]
          exact HREC.out
        have d0 : w2.cell? ⟨bw, 0, none⟩ = some (.slice A L.length c) := by rw [Lib.cell_of_heap hb2]; rfl
        have f0 : w2.frozen? ⟨bw, 0, none⟩ = false := Lib.frozen_of_heap hb2 0
        obtain ⟨g, cap, rfl⟩ : ∃ g cap, v' = .slice (some ⟨g, 0, none⟩) (L.length + 1) cap := by
          rcases hown'.2 with ⟨_, h0⟩ | ⟨g, cap, cur, hv, _⟩
          · omega
          · exact ⟨g, cap, hv⟩
        go_wp2
        go_ret
        refine ⟨by rw [HE.out]; rfl, ?_, ?_, ?_⟩
        · unfold addL
          rw [HE.out, if_pos rfl]
          refine ⟨hbig, some ⟨g, 0, none⟩, cap, ?_, ?_⟩
          · have := Rec.set (show Rec w2 bw 39 #[.slice A L.length c] from hb2) 0 (.slice (some ⟨g, 0, none⟩) (L.length + 1) cap)
            simpa using this
          · have hne := own_not hown' (show Rec w2 bw 39 #[.slice A L.length c] from hb2) (by decide)
            have := hown'.kept (row := some bw) (w' := w2.setCell ⟨bw, 0, none⟩ (.slice (some ⟨g, 0, none⟩) (L.length + 1) cap)) ⟨rfl, rfl, rfl, by simp [World.setCell], fun k _ hk => Below.heap_setCell _ _ _ _ (fun e => hk (by simp [e]))⟩ (Or.inr hne)
            rw [← tab_snoc]
            simpa [cmV] using this
        · exact (((hb1.mono hBw).alloc (by have := hb1.size; omega) _).grown hgrow (by have := hb1.size; simp; omega) (fun k hk => (hown.lt k hk).1)).setCell (p := ⟨bw, 0, none⟩) hbig _
        · intro k t cs hk hne hti
          have h1 : Rec w1 k t cs := hk.below hb1 (Nat.le_refl _)
          have h2 := own_not hown h1 hti
          have h3 : Rec w2 k t cs := by
            have hlt := Rec.lt h1
            show w2.heap[k]? = _
            rw [hgrow.block k (by simp; omega) (fun e => h2 e.symm), Lib.alloc_old w1 _ k hlt]
            exact h1
          exact h3.set_other (p := ⟨bw, 0, none⟩) (fun e => hne e.symm) _
end Go.Proofs.Ytccfamagckgamaa
