/-
  Layer 35: a new window; the greatest, the least, how many; of none; what is told by the document. No condition.
-/
import Derived.Test.YtplkekmegonenaaWinC
namespace Go.Proofs.Ytplkekmegonenaa
open Go.RowKit
def mostW (most : Int) : Nat := (min (max most 1) 4096).toNat
theorem mostW_is (most : Int) : ((mostW most : Nat) : Int) = min (max most 1) 4096 ∧ 1 ≤ mostW most ∧ mostW most ≤ 4096 := by unfold mostW; omega
theorem New_any (B : Nat) (most : Int) (w : World) (hB : B ≤ w.heap.size) :
    Calls Try.prog 5 #[.int .i64 most] w (fun e w' => ∃ b, e = .returned (.pointer (some ⟨b, 0, none⟩)) ∧ WAt B w' b (mostW most) ⟨0, [], [], []⟩ ∧ Below w.heap.size w w') := by
  obtain ⟨hm, _, _⟩ := mostW_is most
  obtain ⟨m, em⟩ : ∃ m, mostW most = m := ⟨_, rfl⟩
  rw [em] at hm ⊢
  have key : ∀ W : World, W = w.alloc (.cells #[.int .i64 (m : Int), .int .i64 0, .slice none 0 0, .slice none 0 0, .int .i64 1, .slice none 0 0, .int .i64 (-1)] tW) → WAt B W w.heap.size m ⟨0, [], [], []⟩ ∧ Below w.heap.size w W := by
    rintro _ rfl
    exact ⟨⟨_, _, _, hB, Rec.new w _ _, RowAt.nil _ _ _ _, RowAt.nil _ _ _ _, RowAt.nil _ _ _ _, apart_nil _ _ _⟩, (Below.refl _ w).alloc (Nat.le_refl _) _⟩
  have K := hid key
  clear key em
  by_cases h1 : most < 1
  · obtain e1 : (m : Int) = 1 := by omega
    have h1' : most < 1 := h1
    rw [e1] at K
    clear hm e1
    go_enter Try.func5, Try.ntmps5
    go_wp2
    go_ret
    exact ⟨_, rfl, K.out _ rfl⟩
  · by_cases h2 : 4096 < most
    · obtain e1 : (m : Int) = 4096 := by omega
      rw [e1] at K
      clear hm e1
      go_enter Try.func5, Try.ntmps5
      go_wp2
      go_ret
      exact ⟨_, rfl, K.out _ rfl⟩
    · obtain e1 : (m : Int) = most := by omega
      rw [e1] at K
      clear hm e1
      go_enter Try.func5, Try.ntmps5
      go_wp2
      go_ret
      exact ⟨_, rfl, K.out _ rfl⟩
section
variable {B : Nat} {b m : Nat} {S : Wn} {w : World}
theorem Max_any (h : WAt B w b m S) : Calls Try.prog 9 #[.pointer (some ⟨b, 0, none⟩)] w (Gives (.tuple #[.int .i64 (topF S.hi).1, .bool (topF S.hi).2]) w) := by
  obtain ⟨vl, vh, vw, h⟩ := h
  have ltb := Rec.lt h.rec_
  have HT := hid (top_any B b 3 (.inl rfl) _ vh _ S.hi vw S.lw w h.toHi)
  obtain ⟨r, er⟩ : ∃ r, topF S.hi = r := ⟨_, rfl⟩
  rw [er] at HT ⊢
  clear h er
  go_enter Try.func9, Try.ntmps9
  go_wp2_with fail
  refine HT.out.mono ?_
  rintro _ _ ⟨rfl, x1, rfl⟩
  go_wp2_with fail
  go_ret2
  exact Gives.mk rfl (World.below_past _ _)
theorem Min_any (h : WAt B w b m S) : Calls Try.prog 10 #[.pointer (some ⟨b, 0, none⟩)] w (Gives (.tuple #[.int .i64 (topF S.lw).1, .bool (topF S.lw).2]) w) := by
  obtain ⟨vl, vh, vw, h⟩ := h
  have ltb := Rec.lt h.rec_
  have HT := hid (top_any B b 5 (.inr rfl) _ vw _ S.lw vh S.hi w h.toLo)
  obtain ⟨r, er⟩ : ∃ r, topF S.lw = r := ⟨_, rfl⟩
  rw [er] at HT ⊢
  clear h er
  go_enter Try.func10, Try.ntmps10
  go_wp2_with fail
  refine HT.out.mono ?_
  rintro _ _ ⟨rfl, x1, rfl⟩
  go_wp2_with fail
  go_ret2
  exact Gives.mk rfl (World.below_past _ _)
theorem Len_any (h : WAt B w b m S) : Calls Try.prog 11 #[.pointer (some ⟨b, 0, none⟩)] w (Gives (.int .i64 S.l.length) w) := by
  obtain ⟨vl, vh, vw, h⟩ := h
  obtain ⟨A, c, rfl⟩ := h.rl.shape
  have q2 : w.cell? ⟨b, 2, none⟩ = some (.slice A S.l.length c) := by rw [Rec.cell h.rec_]; rfl
  obtain ⟨n, en⟩ : ∃ n, S.l.length = n := ⟨_, rfl⟩
  rw [en] at q2 ⊢
  clear h en
  go_enter Try.func11, Try.ntmps11
  go_wp2
  go_ret
  exact Gives.mk rfl (Below.refl _ _)
theorem Seen_any (h : WAt B w b m S) : Calls Try.prog 12 #[.pointer (some ⟨b, 0, none⟩)] w (Gives (.int .i64 S.seen) w) := by
  obtain ⟨vl, vh, vw, h⟩ := h
  have q2 : w.cell? ⟨b, 1, none⟩ = some (.int .i64 S.seen) := by rw [Rec.cell h.rec_]; rfl
  clear h
  go_enter Try.func12, Try.ntmps12
  go_wp2
  go_ret
  exact Gives.mk rfl (Below.refl _ _)
end
theorem Push_nil (v : Int) (w : World) : Calls Try.prog 7 #[.pointer none, .int .i64 v] w (Gives (.tuple #[.int .i64 0, .bool false]) w) := by
  go_enter Try.func7, Try.ntmps7
  go_wp2
  go_ret2
  exact Gives.mk rfl (Below.refl _ _)
theorem Min_nil (w : World) : Calls Try.prog 10 #[.pointer none] w (Gives (.tuple #[.int .i64 0, .bool false]) w) := by
  go_enter Try.func10, Try.ntmps10
  go_wp2
  go_ret2
  exact Gives.mk rfl (Below.refl _ _)
theorem Len_nil (w : World) : Calls Try.prog 11 #[.pointer none] w (Gives (.int .i64 0) w) := by
  go_enter Try.func11, Try.ntmps11
  go_wp2
  go_ret
  exact Gives.mk rfl (Below.refl _ _)
theorem Seen_nil (w : World) : Calls Try.prog 12 #[.pointer none] w (Gives (.int .i64 0) w) := by
  go_enter Try.func12, Try.ntmps12
  go_wp2
  go_ret
  exact Gives.mk rfl (Below.refl _ _)
/-! The document's. -/
def lastF (l : List Int) (m : Nat) : List Int := l.drop (l.length - m)
def LastP (w0 w : World) (l : List Int) (m : Nat) (e : Ending) (w' : World) : Prop := w' = w ∧ ∃ A' c', e = .returned (.slice A' (lastF l m).length c') ∧ Cells w0 A' (i64s (lastF l m))
theorem LastP.mk {w0 w : World} {l : List Int} {m : Nat} {A' : Option Addr} {n c' : Nat} (en : n = (lastF l m).length) (h : Cells w0 A' (i64s (lastF l m))) : LastP w0 w l m (.returned (.slice A' n c')) w := ⟨rfl, A', c', by rw [en], h⟩
theorem Last_any (A : Option Addr) (ca n : Nat) (l : List Int) (en : l.length = n) (h200 : n ≤ 200) (hcap : n ≤ ca) (most : Int) (w0 w : World) (hc : Cells w0 A (i64s l)) :
    Calls Try.prog 6 #[.slice A n ca, .int .i64 most] w (LastP w0 w l (mostW most)) := by
  obtain ⟨hm, h1m, h2m⟩ := mostW_is most
  obtain ⟨m, em⟩ : ∃ m, mostW most = m := ⟨_, rfl⟩
  rw [em] at hm h1m h2m ⊢
  by_cases hgt : m < n
  · obtain ⟨g, o, rfl, c0⟩ := i64_at hc (k := 0) (by omega)
    obtain ⟨d, ed⟩ : ∃ d, n - m = d := ⟨_, rfl⟩
    have hlen : m = (lastF l m).length := by unfold lastF; rw [List.length_drop, en]; omega
    have hcs : Cells w0 (some ⟨g, o + d, none⟩) (i64s (lastF l m)) := fun _ => by
      refine ⟨g, o + d, rfl, fun i v hi => ?_⟩
      have h1 : (i64s l)[d + i]? = some v := by
        unfold lastF at hi
        rw [en, ed] at hi
        rw [i64s, List.getElem?_map, List.getElem?_drop] at hi
        rw [i64s, List.getElem?_map]
        exact hi
      obtain ⟨g', o', e', hx⟩ := hc (by intro e; rw [e] at h1; simp at h1)
      cases e'
      have := hx (d + i) v h1
      rwa [← Nat.add_assoc] at this
    have HC := hid hcs
    have HL := hid hlen
    have hne : ¬ ca - d = 0 := by omega
    have hne2 : ¬ ca = d := by omega
    have hdc : d ≤ n := by omega
    have hmd : n - d = m := by omega
    clear hcs hlen hc em c0
    by_cases h1 : most < 1
    · have e1 : (m : Int) = 1 := by omega
      have e2 : (1 : Int) < (n : Int) := by omega
      have e3 : IntKind.i64.wrap ((n : Int) - 1) = (d : Int) := by rw [IntKind.wrap_i64]; omega
      obtain rfl : m = 1 := by omega
      clear hm e1
      go_enter Try.func6, Try.ntmps6
      go_wp2_with fail
      go_ret
      exact LastP.mk HL.out HC.out
    · have h2 : ¬ 4096 < most := by omega
      have e2 : most < (n : Int) := by omega
      have e3 : IntKind.i64.wrap ((n : Int) - most) = (d : Int) := by rw [IntKind.wrap_i64]; omega
      clear hm
      go_enter Try.func6, Try.ntmps6
      go_wp2_with fail
      go_ret
      exact LastP.mk HL.out HC.out
  · have hl : lastF l m = l := by unfold lastF; rw [en, show n - m = 0 by omega, List.drop_zero]
    have HL := hid (show n = (lastF l m).length by rw [hl, en])
    have HC := hid (show Cells w0 A (i64s (lastF l m)) by rw [hl]; exact hc)
    clear hl hc em
    by_cases h1 : most < 1
    · have e1 : (m : Int) = 1 := by omega
      have e2 : ¬ (1 : Int) < (n : Int) := by omega
      clear hm hgt h1m h2m e1 en h200
      go_enter Try.func6, Try.ntmps6
      go_wp2
      go_ret
      exact LastP.mk HL.out HC.out
    · by_cases h2 : 4096 < most
      · have e2 : ¬ (4096 : Int) < (n : Int) := by omega
        clear hm hgt h1m h2m en h200
        go_enter Try.func6, Try.ntmps6
        go_wp2
        go_ret
        exact LastP.mk HL.out HC.out
      · have e2 : ¬ most < (n : Int) := by omega
        clear hm hgt h1m h2m en h200
        go_enter Try.func6, Try.ntmps6
        go_wp2
        go_ret
        exact LastP.mk HL.out HC.out
end Go.Proofs.Ytplkekmegonenaa
