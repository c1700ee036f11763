/-
  Layer 34: two objects of each kind. No condition.
-/
import Derived.Test.YtccfamagckgamaaHisK
import Derived.Maps.AppendAt
namespace Go.Proofs.Ytccfamagckgamaa
open Go.RowKit
/-- The document's object, and its row. -/
structure RefV (B : Nat) (w : World) (bw : Nat) (L : List Cm) (v : Value) : Prop where
  big : B ≤ bw
  sl : ∃ A c, v = .slice A L.length c
  obj : Rec w bw 39 #[v]
  own : w.ownsRow B 45 2 v L.length (tab cmV L)
theorem RefV.read {B : Nat} {w : World} {bw : Nat} {L : List Cm} {v : Value} (h : RefV B w bw L v) : RefR w bw L := by
  obtain ⟨A, c, rfl⟩ := h.sl
  exact ⟨A, c, by rw [Rec.cell h.obj]; rfl, Cells.of_own h.own⟩
theorem RefV.below {B : Nat} {w w' : World} {bw : Nat} {L : List Cm} {v : Value} (h : RefV B w bw L v) (hb : Below w.heap.size w w') : RefV B w' bw L v :=
  ⟨h.big, h.sl, h.obj.below hb (Nat.le_refl _), own_below h.own hb (Nat.le_refl _)⟩
theorem RefV.kept {B : Nat} {w w' : World} {bw b : Nat} {L M : List Cm} {v : Value} (h : RefV B w bw L v) (hk : Kept (· = b) w w') (hm : HisAt w b M) : RefV B w' bw L v := by
  have hne : bw ≠ b := by
    intro e
    subst e
    have h3 : w.heap[bw]? = some (.cells #[v] 39 (0, 0)) := h.obj
    have h4 : w.heap[bw]? = some (.cells (cellsF M).toArray 54 (0, 0)) := hm
    rw [h3] at h4
    simp only [Option.some.injEq, Obj.cells.injEq] at h4
    exact absurd h4.2.1 (by decide)
  have hno := own_not h.own hm (by decide)
  refine ⟨h.big, h.sl, h.obj.kept hk hne, h.own.1, ?_⟩
  rcases h.own.2 with h3 | ⟨g, cap, cur, hv, hg, hh, hr⟩
  · exact .inl h3
  · refine .inr ⟨g, cap, cur, hv, hg, ?_, hr⟩
    have hlt : g < w.heap.size := by
      rcases Nat.lt_or_ge g w.heap.size with h' | h'
      · exact h'
      · rw [Array.getElem?_eq_none h'] at hh; cases hh
    rw [hk.block g hlt (fun e => hno (by rw [hv]; simp [Value.ownBlock, e]))]
    exact hh
set_option maxHeartbeats 2000000 in
theorem RAdd_v (B bw : Nat) (L : List Cm) (hL : OkL L) (n times : Int) (v : Value) (w : World) (h : RefV B w bw L v) (hBw : B ≤ w.heap.size) :
    Calls Try.prog 12 #[.pointer (some ⟨bw, 0, none⟩), .int .u64 n, .int .i64 times] w (fun e w' => e = .returned (.bool (addOk L (n, times))) ∧ ∃ v', RefV B w' bw (addL L (n, times)) v' ∧ Below B w w' ∧
      (∀ k t cs, Rec w k t cs → k ≠ bw → t ≠ 45 → Rec w' k t cs) ∧
      (∀ u m ys, w.ownsRow B 45 2 u m ys → Apart u v → w'.ownsRow B 45 2 u m ys ∧ Apart u v')) := by
  have c0 := cnt_nonneg hL.each
  have c1 := hL.most
  have HC := hid (RCount_any bw L hL w h.read)
  by_cases g1 : times < 1
  · have HH := hid h
    clear h
    have e : addOk L (n, times) = false := by unfold addOk; rw [decide_eq_false (by show ¬ 1 ≤ times; omega)]; rfl
    have HE := hid e
    clear e
    go_enter Try.func12, Try.ntmps12
    go_wp2_with fail
    go_ret
    exact ⟨by rw [HE.out]; rfl, v, by unfold addL; rw [HE.out]; exact HH.out, Below.refl _ _, fun _ _ _ h _ _ => h, fun _ _ _ h h2 => ⟨h, h2⟩⟩
  · by_cases g2 : 1099511627776 < times
    · have HH := hid h
      clear h
      have e : addOk L (n, times) = false := by unfold addOk; rw [decide_eq_false (show ¬ cntF L + (n, times).2 ≤ 1099511627776 by show ¬ cntF L + times ≤ 1099511627776; omega), Bool.and_false]
      have HE := hid e
      clear e
      go_enter Try.func12, Try.ntmps12
      go_wp2_with fail
      go_ret
      exact ⟨by rw [HE.out]; rfl, v, by unfold addL; rw [HE.out]; exact HH.out, Below.refl _ _, fun _ _ _ h _ _ => h, fun _ _ _ h h2 => ⟨h, h2⟩⟩
    · have e1 : IntKind.i64.wrap (cntF L + times) = cntF L + times := by rw [IntKind.wrap_i64]; omega
      by_cases g3 : 1099511627776 < cntF L + times
      · have HH := hid h
        clear h
        have e : addOk L (n, times) = false := by unfold addOk; rw [decide_eq_false (show ¬ cntF L + (n, times).2 ≤ 1099511627776 by show ¬ cntF L + times ≤ 1099511627776; omega), Bool.and_false]
        have HE := hid e
        clear e
        go_enter Try.func12, Try.ntmps12
        go_wp2_with (go_at_call 15; refine HC.out.mono ?_; rintro _ _ ⟨rfl, x1, rfl⟩)
        go_ret
        exact ⟨by rw [HE.out]; rfl, v, by unfold addL; rw [HE.out]; exact HH.out.below (w.below_past _), (w.below_past _).mono hBw, fun _ _ _ h _ _ => h.past _, fun _ _ _ h h2 => ⟨own_past h _, h2⟩⟩
      · have e : addOk L (n, times) = true := by unfold addOk; rw [decide_eq_true (show 1 ≤ (n, times).2 by show 1 ≤ times; omega), decide_eq_true (show cntF L + (n, times).2 ≤ 1099511627776 by show cntF L + times ≤ 1099511627776; omega)]; rfl
        have HE := hid e
        obtain ⟨j0, ji, jz0, jz1, jz2⟩ := info_parts info_item
        have HJ := hid ji
        have hlen : (L.length : Int) ≤ 1099511627776 := by omega
        have HH := hid h
        clear h e ji
        go_enter Try.func12, Try.ntmps12
        go_wp2_with fail
        refine HC.out.mono ?_
        rintro _ _ ⟨rfl, x1, rfl⟩
        obtain ⟨w1, ew1⟩ : ∃ w1, w1 = w.past x1 := ⟨_, rfl⟩
        have hb1 : Below w.heap.size w w1 := by rw [ew1]; exact w.below_past x1
        rw [← ew1]
        have hv1 := HH.out.below hb1
        obtain ⟨A, c, hsl⟩ := hv1.sl
        have hrec := hv1.obj
        have hown := hv1.own
        subst hsl
        have hbig := HH.out.big
        clear hv1
        have q := Rec.cell hrec 0
        have qf := Rec.frozen hrec 0
        have hlt := Rec.lt hrec
        have hno := own_not hown hrec (by decide)
        have HREC := hid hrec
        have HNO := hid hno
        clear hrec hno ew1
        simp at q
        go_wp2_with (at_builtin; refine wpList_append_own_at _ rfl _ _ 37 rfl B 45 j0 (.agg #[.int .u64 0, .int .i64 0]) 2 16 Try.underlying37 HJ.out jz0 jz1 jz2 rfl (by decide) _ _ _ rfl (hown.alloc _) ⟨w1.heap.size, 0, none⟩ 1 1 [.int .u64 n, .int .i64 times] rfl rfl ?c1 ?c2 ?c3 ?c4 ?c5 ?_)
        case c1 =>
          intro j u hj
          match j, hj with
          | 0, hj => simp at hj; subst hj; simp [Addr.add]
          | 1, hj => simp at hj; subst hj; simp [Addr.add]
        case c2 => intro u hu; simp at hu; rcases hu with rfl | rfl <;> rfl
        case c3 => unfold maxLen; omega
        case c4 => omega
        case c5 => have := hb1.size; simp; omega
        intro v' w2 hown' hgrow _ hat
        have hb2 : w2.heap[bw]? = some (.cells #[.slice A L.length c] 39 (0, 0)) := by
          rw [hgrow.block bw (by simp; omega) (fun e => HNO.out e.symm), Lib.alloc_old w1 _ bw hlt]
          exact HREC.out
        have d0 : w2.cell? ⟨bw, 0, none⟩ = some (.slice A L.length c) := by rw [Lib.cell_of_heap hb2]; rfl
        have f0 : w2.frozen? ⟨bw, 0, none⟩ = false := Lib.frozen_of_heap hb2 0
        obtain ⟨g, cap, rfl⟩ : ∃ g cap, v' = .slice (some ⟨g, 0, none⟩) (L.length + 1) cap := by
          rcases hown'.2 with ⟨_, h0⟩ | ⟨g, cap, cur, hv, _⟩
          · omega
          · exact ⟨g, cap, hv⟩
        go_wp2
        go_ret
        refine ⟨by rw [HE.out]; rfl, .slice (some ⟨g, 0, none⟩) (L.length + 1) cap, ?_, ?_, ?_, ?_⟩
        · unfold addL
          rw [HE.out, if_pos rfl]
          refine ⟨hbig, ⟨some ⟨g, 0, none⟩, cap, by simp⟩, ?_, ?_⟩
          · have := Rec.set (show Rec w2 bw 39 #[.slice A L.length c] from hb2) 0 (.slice (some ⟨g, 0, none⟩) (L.length + 1) cap)
            simpa using this
          · have hne := own_not hown' (show Rec w2 bw 39 #[.slice A L.length c] from hb2) (by decide)
            have := hown'.kept (row := some bw) (w' := w2.setCell ⟨bw, 0, none⟩ (.slice (some ⟨g, 0, none⟩) (L.length + 1) cap)) ⟨rfl, rfl, rfl, by simp [World.setCell], fun k _ hk => Below.heap_setCell _ _ _ _ (fun e => hk (by simp [e]))⟩ (Or.inr hne)
            rw [← tab_snoc]
            simpa [cmV] using this
        · exact (((hb1.mono hBw).alloc (by have := hb1.size; omega) _).grown hgrow (by have := hb1.size; simp; omega) (fun k hk => (hown.lt k hk).1)).setCell (p := ⟨bw, 0, none⟩) hbig _
        · intro k t cs hk hne hti
          have h1 : Rec w1 k t cs := hk.below hb1 (Nat.le_refl _)
          have h2 := own_not hown h1 hti
          have h3 : Rec w2 k t cs := by
            have hlt := Rec.lt h1
            show w2.heap[k]? = _
            rw [hgrow.block k (by simp; omega) (fun e => h2 e.symm), Lib.alloc_old w1 _ k hlt]
            exact h1
          exact h3.set_other (p := ⟨bw, 0, none⟩) (fun e => hne e.symm) _
        · intro u m ys hu hap
          have hu1 := own_below hu hb1 (Nat.le_refl _)
          have hk : u.ownBlock = none ∨ u.ownBlock ≠ (Value.slice A L.length c).ownBlock := by
            rcases hap with h0 | h0 | h0
            · exact .inl h0
            · cases hv : u.ownBlock with
              | none => exact .inl rfl
              | some k => rw [h0]; exact .inr (by simp)
            · exact .inr h0
          have hu2 := (hu1.alloc (.cells #[.int .u64 n, .int .i64 times] 45)).kept hgrow hk
          have hub : u.ownBlock ≠ some bw := own_not hu1 HREC.out (by decide)
          refine ⟨hu2.kept (row := some bw) ⟨rfl, rfl, rfl, by simp [World.setCell], fun k _ hk => Below.heap_setCell _ _ _ _ (fun e => hk (by simp [e]))⟩ (Or.inr hub), ?_⟩
          rcases hk with h0 | h0
          · exact .inl h0
          · refine .inr (.inr ?_)
            rcases hat with h2 | h2
            · rw [h2]; exact h0
            · rw [h2]
              intro he
              have := (hu1.lt _ he).2
              omega
/-- Two of each. -/
structure St (w0 : World) (bh bk bw bv : Nat) (L M P Q : List Cm) (W : World) : Prop where
  hh : HisAt W bh L
  hk : HisAt W bk M
  rows : ∃ v1 v2, RefV w0.heap.size W bw P v1 ∧ RefV w0.heap.size W bv Q v2 ∧ Apart v1 v2
  below : Below w0.heap.size w0 W
  big : w0.heap.size ≤ bh ∧ w0.heap.size ≤ bk ∧ bh ≠ bk ∧ bw ≠ bv
section
variable {w0 : World} {bh bk bw bv : Nat} {L M P Q : List Cm} {W W' : World}
theorem St.on (h : St w0 bh bk bw bv L M P Q W) (hb : Below W.heap.size W W') : St w0 bh bk bw bv L M P Q W' := by
  obtain ⟨v1, v2, r1, r2, ap⟩ := h.rows
  exact ⟨Rec.below h.hh hb (Nat.le_refl _), Rec.below h.hk hb (Nat.le_refl _), ⟨v1, v2, r1.below hb, r2.below hb, ap⟩, h.below.trans (hb.mono h.below.size), h.big⟩
theorem St.past (h : St w0 bh bk bw bv L M P Q W) (x : Past) : St w0 bh bk bw bv L M P Q (W.past x) := h.on (W.below_past x)
theorem St.refw (h : St w0 bh bk bw bv L M P Q W) : RefR W bw P := by obtain ⟨_, _, r1, _, _⟩ := h.rows; exact r1.read
theorem St.refv (h : St w0 bh bk bw bv L M P Q W) : RefR W bv Q := by obtain ⟨_, _, _, r2, _⟩ := h.rows; exact r2.read
theorem rec_ne {b b' : Nat} {t t' : TypeId} {cs cs' : Array Value} (h : Rec W b t cs) (h' : Rec W b' t' cs') (ht : t ≠ t') : b ≠ b' := by
  intro e
  subst e
  have h1 : W.heap[b]? = some (.cells cs t (0, 0)) := h
  have h2 : W.heap[b]? = some (.cells cs' t' (0, 0)) := h'
  rw [h1] at h2
  simp only [Option.some.injEq, Obj.cells.injEq] at h2
  exact ht h2.2.1
theorem St.turnh (h : St w0 bh bk bw bv L M P Q W) {L' : List Cm} (h2 : HisAt W' bh L') (h3 : Kept (· = bh) W W') : St w0 bh bk bw bv L' M P Q W' := by
  obtain ⟨v1, v2, r1, r2, ap⟩ := h.rows
  exact ⟨h2, h.hk.kept h3 (fun e => h.big.2.2.1 e.symm), ⟨v1, v2, r1.kept h3 h.hh, r2.kept h3 h.hh, ap⟩, h3.to_below h.below h.below.size (fun k hk => by subst hk; exact h.big.1), h.big⟩
theorem St.turnk (h : St w0 bh bk bw bv L M P Q W) {M' : List Cm} (h2 : HisAt W' bk M') (h3 : Kept (· = bk) W W') : St w0 bh bk bw bv L M' P Q W' := by
  obtain ⟨v1, v2, r1, r2, ap⟩ := h.rows
  exact ⟨h.hh.kept h3 h.big.2.2.1, h2, ⟨v1, v2, r1.kept h3 h.hk, r2.kept h3 h.hk, ap⟩, h3.to_below h.below h.below.size (fun k hk => by subst hk; exact h.big.2.1), h.big⟩
theorem st_add_h (hL : OkL L) {n t : Int} (hn : U64 n) (ht : I64 t) (W : World) (h : St w0 bh bk bw bv L M P Q W) :
    Calls Try.prog 8 #[.pointer (some ⟨bh, 0, none⟩), .int .u64 n, .int .i64 t] W (fun e W' => (∃ b, e = .returned (.bool b)) ∧ St w0 bh bk bw bv (addL L (n, t)) M P Q W' ∧ Kept (· = bh) W W') :=
  (Add_any' bh L hL n t hn ht W h.hh).mono fun _ _ ⟨h1, h2, h3⟩ => ⟨⟨_, h1⟩, h.turnh h2 h3, h3⟩
theorem st_add_k (hM : OkL M) {n t : Int} (hn : U64 n) (ht : I64 t) (W : World) (h : St w0 bh bk bw bv L M P Q W) :
    Calls Try.prog 8 #[.pointer (some ⟨bk, 0, none⟩), .int .u64 n, .int .i64 t] W (fun e W' => (∃ b, e = .returned (.bool b)) ∧ St w0 bh bk bw bv L (addL M (n, t)) P Q W' ∧ Kept (· = bk) W W') :=
  (Add_any' bk M hM n t hn ht W h.hk).mono fun _ _ ⟨h1, h2, h3⟩ => ⟨⟨_, h1⟩, h.turnk h2 h3, h3⟩
theorem st_join (hL : OkL L) (hM : OkL M) (W : World) (h : St w0 bh bk bw bv L M P Q W) :
    Calls Try.prog 16 #[.pointer (some ⟨bh, 0, none⟩), .pointer (some ⟨bk, 0, none⟩)] W (fun e W' => e = .returned (.bool (decide (cntF L + cntF M ≤ 1099511627776))) ∧ St w0 bh bk bw bv (if cntF L + cntF M ≤ 1099511627776 then L ++ M else L) M P Q W') :=
  (Join_any bh bk L M hL hM W h.hh h.hk).mono fun _ _ ⟨h1, h2, h3⟩ => ⟨h1, h.turnh h2 h3⟩
theorem st_join_self (hM : OkL M) (W : World) (h : St w0 bh bk bw bv L M P Q W) :
    Calls Try.prog 16 #[.pointer (some ⟨bk, 0, none⟩), .pointer (some ⟨bk, 0, none⟩)] W (fun e W' => e = .returned (.bool (decide (cntF M + cntF M ≤ 1099511627776))) ∧ St w0 bh bk bw bv L (if cntF M + cntF M ≤ 1099511627776 then M ++ M else M) P Q W') :=
  (Join_any bk bk M M hM hM W h.hk h.hk).mono fun _ _ ⟨h1, h2, h3⟩ => ⟨h1, h.turnk h2 h3⟩
theorem st_ref_w (hP : OkL P) {n t : Int} (W : World) (h : St w0 bh bk bw bv L M P Q W) :
    Calls Try.prog 12 #[.pointer (some ⟨bw, 0, none⟩), .int .u64 n, .int .i64 t] W (fun e W' => (∃ b, e = .returned (.bool b)) ∧ St w0 bh bk bw bv L M (addL P (n, t)) Q W' ∧ W'.cell? ⟨bv, 0, none⟩ = W.cell? ⟨bv, 0, none⟩) := by
  obtain ⟨v1, v2, r1, r2, ap⟩ := h.rows
  refine (RAdd_v w0.heap.size bw P hP n t v1 W r1 h.below.size).mono fun _ _ ⟨h1, v', h2, h3, h4, h5⟩ => ⟨⟨_, h1⟩, ?_, by rw [Rec.cell (h4 _ _ _ r2.obj (fun e => h.big.2.2.2 e.symm) (by decide)), Rec.cell r2.obj]⟩
  obtain ⟨o2, ap2⟩ := h5 _ _ _ r2.own ap.symm
  exact ⟨h4 _ _ _ h.hh (rec_ne h.hh r1.obj (by decide)) (by decide), h4 _ _ _ h.hk (rec_ne h.hk r1.obj (by decide)) (by decide),
    ⟨v', v2, h2, ⟨r2.big, r2.sl, h4 _ _ _ r2.obj (fun e => h.big.2.2.2 e.symm) (by decide), o2⟩, ap2.symm⟩, h.below.trans h3, h.big⟩
theorem st_ref_v (hQ : OkL Q) {n t : Int} (W : World) (h : St w0 bh bk bw bv L M P Q W) :
    Calls Try.prog 12 #[.pointer (some ⟨bv, 0, none⟩), .int .u64 n, .int .i64 t] W (fun e W' => (∃ b, e = .returned (.bool b)) ∧ St w0 bh bk bw bv L M P (addL Q (n, t)) W') := by
  obtain ⟨v1, v2, r1, r2, ap⟩ := h.rows
  refine (RAdd_v w0.heap.size bv Q hQ n t v2 W r2 h.below.size).mono fun _ _ ⟨h1, v', h2, h3, h4, h5⟩ => ⟨⟨_, h1⟩, ?_⟩
  obtain ⟨o1, ap1⟩ := h5 _ _ _ r1.own ap
  exact ⟨h4 _ _ _ h.hh (rec_ne h.hh r2.obj (by decide)) (by decide), h4 _ _ _ h.hk (rec_ne h.hk r2.obj (by decide)) (by decide),
    ⟨v1, v', ⟨r1.big, r1.sl, h4 _ _ _ r1.obj h.big.2.2.2 (by decide), o1⟩, h2, ap1⟩, h.below.trans h3, h.big⟩
end
theorem Most_nil (w : World) : Calls Try.prog 10 #[.pointer none] w (Gives (.tuple #[.int .u64 0, .bool false]) w) := by
  go_enter Try.func10, Try.ntmps10
  go_wp2
  go_ret2
  exact Gives.refl rfl
theorem Below_nil (w : World) : Calls Try.prog 9 #[.pointer none, .int .i64 1, .int .i64 1] w (Gives (.tuple #[.int .u64 0, .bool false]) w) := by
  go_enter Try.func9, Try.ntmps9
  go_wp2
  go_ret2
  exact Gives.refl rfl
theorem Add_nil (w : World) : Calls Try.prog 8 #[.pointer none, .int .u64 1, .int .i64 1] w (Gives (.bool false) w) := by
  go_enter Try.func8, Try.ntmps8
  go_wp2
  go_ret
  exact Gives.refl rfl
theorem Count_nil (w : World) : Calls Try.prog 17 #[.pointer none] w (Gives (.int .i64 0) w) := by
  go_enter Try.func17, Try.ntmps17
  go_wp2
  go_ret
  exact Gives.refl rfl
theorem Sum_nil (w : World) : Calls Try.prog 19 #[.pointer none] w (Gives (.int .u64 0) w) := by
  go_enter Try.func19, Try.ntmps19
  go_wp2
  go_ret
  exact Gives.refl rfl
theorem At_nil (w : World) : Calls Try.prog 20 #[.pointer none, .int .i64 0] w (Gives (.int .i64 0) w) := by
  go_enter Try.func20, Try.ntmps20
  go_wp2
  go_ret
  exact Gives.refl rfl
theorem Join_nil (b : Nat) (w : World) : Calls Try.prog 16 #[.pointer none, .pointer (some ⟨b, 0, none⟩)] w (Gives (.bool false) w) := by
  go_enter Try.func16, Try.ntmps16
  go_wp2_with fail
  refine wp_region_past (by kernel_rfl) (by kernel_rfl) ?_
  repeat (go_big_quiet_step ((fail)))
  refine wpQuiet_nil ?_
  rintro _ ⟨_, rfl⟩
  go_wp2_with fail
  go_ret
  exact Gives.mk rfl (World.below_past _ _)
theorem Join_nil2 (b : Nat) (w : World) : Calls Try.prog 16 #[.pointer (some ⟨b, 0, none⟩), .pointer none] w (Gives (.bool false) w) := by
  go_enter Try.func16, Try.ntmps16
  go_wp2_with fail
  refine wp_region_past (by kernel_rfl) (by kernel_rfl) ?_
  repeat (go_big_quiet_step ((fail)))
  refine wpQuiet_nil ?_
  rintro _ ⟨_, rfl⟩
  go_wp2_with fail
  go_ret
  exact Gives.mk rfl (World.below_past _ _)
theorem Places_nil (w : World) :
    Calls Try.prog 18 #[.pointer none] w (fun e w' => e = .returned (.func (.func 28) #[] #[.pointer (some ⟨w.heap.size, 0, none⟩)]) ∧
      Below w.heap.size w w' ∧ w'.heap.size = w.heap.size + 1 ∧ w'.cell? ⟨w.heap.size, 0, none⟩ = some (.pointer none)) := by
  go_enter Try.func18, Try.ntmps18
  go_wp2
  go_ret
  exact ⟨rfl, (Below.refl _ w).alloc (Nat.le_refl _) _, by simp, by simp [go_sem]⟩
theorem Places_nilx (w : World) :
    Calls Try.prog 18 #[.pointer none] w (fun e w' => ∃ B, e = .returned (.func (.func 28) #[] #[.pointer (some ⟨B, 0, none⟩)]) ∧ Below w.heap.size w w' ∧ w'.cell? ⟨B, 0, none⟩ = some (.pointer none)) :=
  (Places_nil w).mono fun _ _ ⟨h1, h2, _, h3⟩ => ⟨_, h1, h2, h3⟩
end Go.Proofs.Ytccfamagckgamaa
