/-
  Layer 25: which waits an event ends, and what it adds to what a task has waited: the closure. No condition.
-/
import Derived.Test.YtdeejiiegmddaaaStD
import Derived.Test.YtdeejiiegmddaaaRegLast
namespace Go.Proofs.Ytdeejiiegmddaaa
open Go Go.RowKit
abbrev tRow : TypeId := 49
abbrev tWa : TypeId := 65
def waV (x : Int × Int) : List Value := [.int .i64 x.1, .int .u64 x.2]
theorem waV_length (x : Int × Int) : (waV x).length = 2 := rfl
/-- A task's row. -/
def rowV (t : Ty) (v : Value) : List Value := tyV t ++ [v]
def delF (e : Ev) (x : Int × Int) : Bool := if e.kind = 11 then true else if e.lock = x.1 then true else false
def seeW (e : Ev) (t : Ty) (x : Int × Int) : Ty := if delF e x then ⟨t.id, t.d, t.p, t.a, t.b, t.e, addF t.wt (subF e.time x.2)⟩ else t
/-- The closure's world: the event's box, the pointer's box, the row. -/
structure OvAt (w : World) (be br b : Nat) (e : Ev) (t : Ty) (v : Value) : Prop where
  ev : Rec w be tEv (evV e).toArray
  pt : Rec w br 46 #[.pointer (some ⟨b, 0, none⟩)]
  row : Rec w b tRow (rowV t v).toArray
theorem OvAt.ne {w : World} {be br b : Nat} {e : Ev} {t : Ty} {v : Value} (h : OvAt w be br b e t v) : be ≠ b ∧ br ≠ b := by
  refine ⟨fun he => ?_, fun he => ?_⟩
  · subst he
    have h1 := h.ev; have h2 := h.row
    unfold Rec at h1 h2
    rw [h1] at h2
    simp [evV, rowV, tyV] at h2
  · subst he
    have h1 := h.pt; have h2 := h.row
    unfold Rec at h1 h2
    rw [h1] at h2
    simp [rowV, tyV] at h2
theorem OvAt.kept {w w' : World} {F : Nat → Prop} {be br b : Nat} {e : Ev} {t : Ty} {v : Value} (h : OvAt w be br b e t v) (hk : Kept F w w') (h1 : ¬ F be) (h2 : ¬ F br) (h3 : ¬ F b) : OvAt w' be br b e t v :=
  ⟨h.ev.kept hk h1, h.pt.kept hk h2, h.row.kept hk h3⟩
theorem sub_u64 {a b : Int} (ha : U64 a) (hb : U64 b) : U64 (subF a b) := by
  have h0 := ha.1; have h1 := ha.2; have h2 := hb.1; have h3 := hb.2
  unfold subF U64
  split
  · exact ⟨by omega, by decide⟩
  · rename_i h
    simp at h
    constructor <;> omega
theorem seeW_in {e : Ev} {t : Ty} {x : Int × Int} (h1 : U64 e.time) (h2 : U64 x.2) (h3 : U64 t.wt) : U64 (seeW e t x).wt := by
  unfold seeW
  split
  · exact addF_u64 h3 (sub_u64 h1 h2)
  · exact h3
set_option maxRecDepth 100000 in
set_option maxHeartbeats 4000000 in
theorem Over1_any (be br b : Nat) (e : Ev) (t : Ty) (v : Value) (x : Int × Int) (h1 : U64 e.time) (h2 : U64 x.2) (h3 : U64 t.wt) (w : World) (h : OvAt w be br b e t v) :
    Calls Try.prog 31 #[.agg #[.int .i64 x.1, .int .u64 x.2], .pointer (some ⟨be, 0, none⟩), .pointer (some ⟨br, 0, none⟩)] w (fun en w' => en = .returned (.bool (delF e x)) ∧ OvAt w' be br b e (seeW e t x) v ∧ Kept (fun k => k = b) w w') := by
  have H := hid h
  obtain ⟨hn1, hn2⟩ := h.ne
  obtain ⟨xk, xf⟩ := x
  obtain ⟨et, ek, ea, el, en⟩ := e
  obtain ⟨td, t1, t2, t3, t4, t5, tw⟩ := t
  simp only at h1 h2 h3
  have hel := h.ev.lt
  have hrl := h.pt.lt
  have hbl := h.row.lt
  have c0 := Rec.cell h.ev 0
  have c1 := Rec.cell h.ev 1
  have c3 := Rec.cell h.ev 3
  have cp := Rec.cell h.pt 0
  have cw := Rec.cell h.row 6
  have fw := Rec.frozen h.row 6
  simp [evV] at c0 c1 c3
  simp at cp
  simp [rowV, tyV] at cw
  obtain ⟨w1, ew1⟩ : ∃ w1, w1 = w.alloc (.cells #[.int .i64 xk, .int .u64 xf] tWa) := ⟨_, rfl⟩
  have hk1 : Kept (fun k => k = b) w w1 := by rw [ew1]; exact (Kept.refl _ w).alloc _
  have hs1 : w1.heap.size = w.heap.size + 1 := by rw [ew1]; simp [go_sem]
  have H1 := hid (show OvAt w1 be br b ⟨et, ek, ea, el, en⟩ ⟨td, t1, t2, t3, t4, t5, tw⟩ v from by rw [ew1]; exact ⟨h.ev.alloc _, h.pt.alloc _, h.row.alloc _⟩)
  have HK1 := hid hk1
  have HS := hid (Sub_any et xf h1 h2)
  have HA := hid (fun w => Add_any tw (subF et xf) h3 (sub_u64 h1 h2) w)
  clear h h1 h2 h3 hk1
  have HD : Hid (delF ⟨et, ek, ea, el, en⟩ (xk, xf) = (if ek = 11 then true else if el = xk then true else false)) := hid rfl
  have HW : Hid (delF ⟨et, ek, ea, el, en⟩ (xk, xf) = true → seeW ⟨et, ek, ea, el, en⟩ ⟨td, t1, t2, t3, t4, t5, tw⟩ (xk, xf) = ⟨td, t1, t2, t3, t4, t5, addF tw (subF et xf)⟩) := hid (fun h => by unfold seeW; rw [h]; rfl)
  have HW0 : Hid (delF ⟨et, ek, ea, el, en⟩ (xk, xf) = false → seeW ⟨et, ek, ea, el, en⟩ ⟨td, t1, t2, t3, t4, t5, tw⟩ (xk, xf) = ⟨td, t1, t2, t3, t4, t5, tw⟩) := hid (fun h => by unfold seeW; rw [h]; rfl)
  by_cases hk : ek = 11
  · subst hk
    go_enter Try.func31, Try.ntmps31
    go_wp2_with (go_at_call 32; refine (HS.out _).mono ?_; rintro _ _ ⟨rfl, y, rfl⟩)
    obtain ⟨w2, ew2⟩ : ∃ w2, w2 = w1.past y := ⟨_, rfl⟩
    have H2 := hid (show OvAt w2 be br b _ _ v from by rw [ew2]; exact H1.out.kept (Kept.past (Kept.refl (fun _ => False) _) y) id id id)
    have HK2 := hid (show Kept (fun k => k = b) w w2 from by rw [ew2]; exact HK1.out.past y)
    rw [← ew1, ← ew2]
    have cp := Rec.cell H2.out.pt 0
    have cw := Rec.cell H2.out.row 6
    have fw := Rec.frozen H2.out.row 6
    have hbl := H2.out.row.lt
    simp at cp
    simp [rowV, tyV] at cw
    clear ew2 ew1
    refine wp_region_last (C := fun w' => ∃ x : Past, w' = w2.past x) 14 [10] (by kernel_rfl) (by kernel_rfl) (by kernel_rfl) rfl (by kernel_rfl) (.inr fun _ _ d _ _ h => by cases d <;> exact h) (past_of ⟨rfl, rfl, rfl, Nat.le_refl _, fun _ _ => rfl⟩) ?_
    simp only [List.take_succ_cons, List.take_zero]
    repeat (go_big_quiet_step ((first | (go_at_call 21; first | with_reducible exact Calls.in_past (HA.out _) | with_reducible exact Calls.in_past2 (HA.out _)) | (go_at_call 21; first | exact Calls.in_past (HA.out _) | exact Calls.in_past2 (HA.out _)))))
    refine wpQuiet_nil ?_
    rintro _ ⟨xq, rfl⟩
    obtain ⟨w3, ew3⟩ : ∃ w3, w3 = w2.past xq := ⟨_, rfl⟩
    have H3 := hid (show OvAt w3 be br b _ _ v from by rw [ew3]; exact H2.out.kept (Kept.past (Kept.refl (fun _ => False) _) xq) id id id)
    have HK3 := hid (show Kept (fun k => k = b) w w3 from by rw [ew3]; exact HK2.out.past xq)
    rw [← ew3]
    have cw := Rec.cell H3.out.row 6
    have fw := Rec.frozen H3.out.row 6
    have hbl := H3.out.row.lt
    simp [rowV, tyV] at cw
    clear ew3
    refine wpOp_step rfl (fun K hK => ?_)
    go_simp
    refine hK _ _ ?_
    clear hK K
    go_wp2_with fail
    go_ret
    have hd := Eq.trans (c := true) HD.out (by simp)
    refine ⟨by rw [hd]; rfl, ?_, HK3.out.setCell (p := ⟨b, 6, none⟩) (.inr rfl) _⟩
    rw [HW.out hd]
    refine ⟨H3.out.ev.set_other (p := ⟨b, 6, none⟩) (fun h => hn1 h.symm) _, H3.out.pt.set_other (p := ⟨b, 6, none⟩) (fun h => hn2 h.symm) _, ?_⟩
    have h7 := H3.out.row.set 6 (.int .u64 (addF tw (subF et xf)))
    unfold Rec at h7 ⊢
    simpa [rowV, tyV] using h7
  · have hk' : (ek != 11) = true := by simpa using hk
    by_cases hx : el = xk
    · subst hx
      go_enter Try.func31, Try.ntmps31
      go_wp2_with (go_at_call 32; refine (HS.out _).mono ?_; rintro _ _ ⟨rfl, y, rfl⟩)
      obtain ⟨w2, ew2⟩ : ∃ w2, w2 = w1.past y := ⟨_, rfl⟩
      have H2 := hid (show OvAt w2 be br b _ _ v from by rw [ew2]; exact H1.out.kept (Kept.past (Kept.refl (fun _ => False) _) y) id id id)
      have HK2 := hid (show Kept (fun k => k = b) w w2 from by rw [ew2]; exact HK1.out.past y)
      rw [← ew1, ← ew2]
      have cp := Rec.cell H2.out.pt 0
      have cw := Rec.cell H2.out.row 6
      have fw := Rec.frozen H2.out.row 6
      have hbl := H2.out.row.lt
      simp at cp
      simp [rowV, tyV] at cw
      clear ew2 ew1
      refine wp_region_last (C := fun w' => ∃ x : Past, w' = w2.past x) 14 [10] (by kernel_rfl) (by kernel_rfl) (by kernel_rfl) rfl (by kernel_rfl) (.inr fun _ _ d _ _ h => by cases d <;> exact h) (past_of ⟨rfl, rfl, rfl, Nat.le_refl _, fun _ _ => rfl⟩) ?_
      simp only [List.take_succ_cons, List.take_zero]
      repeat (go_big_quiet_step ((first | (go_at_call 21; first | with_reducible exact Calls.in_past (HA.out _) | with_reducible exact Calls.in_past2 (HA.out _)) | (go_at_call 21; first | exact Calls.in_past (HA.out _) | exact Calls.in_past2 (HA.out _)))))
      refine wpQuiet_nil ?_
      rintro _ ⟨xq, rfl⟩
      obtain ⟨w3, ew3⟩ : ∃ w3, w3 = w2.past xq := ⟨_, rfl⟩
      have H3 := hid (show OvAt w3 be br b _ _ v from by rw [ew3]; exact H2.out.kept (Kept.past (Kept.refl (fun _ => False) _) xq) id id id)
      have HK3 := hid (show Kept (fun k => k = b) w w3 from by rw [ew3]; exact HK2.out.past xq)
      rw [← ew3]
      have cw := Rec.cell H3.out.row 6
      have fw := Rec.frozen H3.out.row 6
      have hbl := H3.out.row.lt
      simp [rowV, tyV] at cw
      clear ew3
      refine wpOp_step rfl (fun K hK => ?_)
      go_simp
      refine hK _ _ ?_
      clear hK K
      go_wp2_with fail
      go_ret
      have hd := Eq.trans (c := true) HD.out (by simp)
      refine ⟨by rw [hd]; rfl, ?_, HK3.out.setCell (p := ⟨b, 6, none⟩) (.inr rfl) _⟩
      rw [HW.out hd]
      refine ⟨H3.out.ev.set_other (p := ⟨b, 6, none⟩) (fun h => hn1 h.symm) _, H3.out.pt.set_other (p := ⟨b, 6, none⟩) (fun h => hn2 h.symm) _, ?_⟩
      have h7 := H3.out.row.set 6 (.int .u64 (addF tw (subF et xf)))
      unfold Rec at h7 ⊢
      simpa [rowV, tyV] using h7
    · have hx' : (el != xk) = true := by simpa using hx
      go_enter Try.func31, Try.ntmps31
      go_wp2_with fail
      go_ret
      have hd : delF ⟨et, ek, ea, el, en⟩ (xk, xf) = false := by rw [HD.out, if_neg hk, if_neg hx]
      rw [← ew1]
      exact ⟨by rw [hd]; rfl, by rw [HW0.out hd]; exact H1.out, HK1.out⟩
end Go.Proofs.Ytdeejiiegmddaaa
