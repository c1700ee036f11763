/-
  Layer 35: the window of strings. (Printed by mkS.py.) No condition.
-/
import Derived.Test.YtplkekmegonenaaSwC
import Derived.Laws.Cover1
namespace Go.Proofs.Ytplkekmegonenaa.Str
open Go.RowKit
theorem New_any (B : Nat) (most : Int) (w : World) (hB : B ≤ w.heap.size) :
    Calls Try.prog 14 #[.int .i64 most] w (fun e w' => ∃ b, e = .returned (.pointer (some ⟨b, 0, none⟩)) ∧ WAt B w' b (mostW most) ⟨0, [], [], []⟩ ∧ Below w.heap.size w w') := by
  obtain ⟨hm, _, _⟩ := mostW_is most
  obtain ⟨m, em⟩ : ∃ m, mostW most = m := ⟨_, rfl⟩
  rw [em] at hm ⊢
  have key : ∀ W : World, W = w.alloc (.cells #[.int .i64 (m : Int), .int .i64 0, .slice none 0 0, .slice none 0 0, .int .i64 1, .slice none 0 0, .int .i64 (-1)] tW) → WAt B W w.heap.size m ⟨0, [], [], []⟩ ∧ Below w.heap.size w W := by
    rintro _ rfl
    exact ⟨⟨_, _, _, hB, Rec.new w _ _, RowAt.nil _ _ _ _, RowAt.nil _ _ _ _, RowAt.nil _ _ _ _, apart_nil _ _ _⟩, (Below.refl _ w).alloc (Nat.le_refl _) _⟩
  have K := hid key
  clear key em
  by_cases h1 : most < 1
  · obtain e1 : (m : Int) = 1 := by omega
    have h1' : most < 1 := h1
    rw [e1] at K
    clear hm e1
    go_enter Try.func14, Try.ntmps14
    go_wp2
    go_ret
    exact ⟨_, rfl, K.out _ rfl⟩
  · by_cases h2 : 4096 < most
    · obtain e1 : (m : Int) = 4096 := by omega
      rw [e1] at K
      clear hm e1
      go_enter Try.func14, Try.ntmps14
      go_wp2
      go_ret
      exact ⟨_, rfl, K.out _ rfl⟩
    · obtain e1 : (m : Int) = most := by omega
      rw [e1] at K
      clear hm e1
      go_enter Try.func14, Try.ntmps14
      go_wp2
      go_ret
      exact ⟨_, rfl, K.out _ rfl⟩
section
variable {B : Nat} {b m : Nat} {S : Wn} {w : World}
theorem Max_any (h : WAt B w b m S) : Calls Try.prog 16 #[.pointer (some ⟨b, 0, none⟩)] w (Gives (.tuple #[.string (topF S.hi).1, .bool (topF S.hi).2]) w) := by
  obtain ⟨vl, vh, vw, h⟩ := h
  have ltb := Rec.lt h.rec_
  have HT := hid (top_any B b 3 (.inl rfl) _ vh _ S.hi vw S.lw w h.toHi)
  obtain ⟨r, er⟩ : ∃ r, topF S.hi = r := ⟨_, rfl⟩
  rw [er] at HT ⊢
  clear h er
  go_enter Try.func16, Try.ntmps16
  go_wp2_with fail
  refine HT.out.mono ?_
  rintro _ _ ⟨rfl, x1, rfl⟩
  go_wp2_with fail
  go_ret2
  exact Gives.mk rfl (World.below_past _ _)
theorem Min_any (h : WAt B w b m S) : Calls Try.prog 17 #[.pointer (some ⟨b, 0, none⟩)] w (Gives (.tuple #[.string (topF S.lw).1, .bool (topF S.lw).2]) w) := by
  obtain ⟨vl, vh, vw, h⟩ := h
  have ltb := Rec.lt h.rec_
  have HT := hid (top_any B b 5 (.inr rfl) _ vw _ S.lw vh S.hi w h.toLo)
  obtain ⟨r, er⟩ : ∃ r, topF S.lw = r := ⟨_, rfl⟩
  rw [er] at HT ⊢
  clear h er
  go_enter Try.func17, Try.ntmps17
  go_wp2_with fail
  refine HT.out.mono ?_
  rintro _ _ ⟨rfl, x1, rfl⟩
  go_wp2_with fail
  go_ret2
  exact Gives.mk rfl (World.below_past _ _)
theorem Len_any (h : WAt B w b m S) : Calls Try.prog 18 #[.pointer (some ⟨b, 0, none⟩)] w (Gives (.int .i64 S.l.length) w) := by
  obtain ⟨vl, vh, vw, h⟩ := h
  obtain ⟨A, c, rfl⟩ := h.rl.shape
  have q2 : w.cell? ⟨b, 2, none⟩ = some (.slice A S.l.length c) := by rw [Rec.cell h.rec_]; rfl
  obtain ⟨n, en⟩ : ∃ n, S.l.length = n := ⟨_, rfl⟩
  rw [en] at q2 ⊢
  clear h en
  go_enter Try.func18, Try.ntmps18
  go_wp2
  go_ret
  exact Gives.mk rfl (Below.refl _ _)
theorem Seen_any (h : WAt B w b m S) : Calls Try.prog 19 #[.pointer (some ⟨b, 0, none⟩)] w (Gives (.int .i64 S.seen) w) := by
  obtain ⟨vl, vh, vw, h⟩ := h
  have q2 : w.cell? ⟨b, 1, none⟩ = some (.int .i64 S.seen) := by rw [Rec.cell h.rec_]; rfl
  clear h
  go_enter Try.func19, Try.ntmps19
  go_wp2
  go_ret
  exact Gives.mk rfl (Below.refl _ _)
end
end Go.Proofs.Ytplkekmegonenaa.Str
