/-
  Layer 33: a set of spans in memory. No condition.
-/
import Derived.Test.YtjihhpipdhhjkaaSpA
import Derived.Test.YtjihhpipdhhjkaaObj
import Derived.Test.YtjihhpipdhhjkaaTabSet
import Derived.Test.YtjihhpipdhhjkaaOwnCut
namespace Go.Proofs.Ytjihhpipdhhjkaa
open Go.RowKit
/-! A set in memory. -/
def leV (a b : Int) : Bool := decide (a ≤ b)
def mnV (a b : Int) : Int := if b < a then b else a
def mxV (a b : Int) : Int := if b > a then b else a
theorem run_mn (a b : Int) (ts : Array TypeId) (t : TypeId) (w : World) : (Builtin.min_ ts t #[.int .i64 a, .int .i64 b]).run Try.prog w = .ok (.int .i64 (mnV a b)) w := by
  exact run_min_int2 _ _ _ _ _ _ _
theorem run_mx (a b : Int) (ts : Array TypeId) (t : TypeId) (w : World) : (Builtin.max_ ts t #[.int .i64 a, .int .i64 b]).run Try.prog w = .ok (.int .i64 (mxV a b)) w := by
  exact run_max_int2 _ _ _ _ _ _ _
structure SpAt (B : Nat) (w : World) (b : Nat) (l : List (Int × Int)) : Prop where
  big : B ≤ b
  len : l.length ≤ 100000
  ex : ∃ A c, Rec w b 61 #[.slice A l.length c] ∧ w.ownsRow B 64 2 (.slice A l.length c) l.length (tab pcV l)
theorem SpAt.far {B : Nat} {w w' : World} {b : Nat} {l : List (Int × Int)} (h : SpAt B w b l) (hb : Below w.heap.size w w') : SpAt B w' b l := by
  obtain ⟨A, c, h1, h2⟩ := h.ex
  exact ⟨h.big, h.len, A, c, h1.below hb (Nat.le_refl _), own_below h2 hb (Nat.le_refl _)⟩
theorem SpAt.lt {B : Nat} {w : World} {b : Nat} {l : List (Int × Int)} (h : SpAt B w b l) : b < w.heap.size := by
  obtain ⟨A, c, h1, h2⟩ := h.ex
  exact Rec.lt h1
set_option maxHeartbeats 1000000 in
theorem ahead_any {B : Nat} {w : World} {b : Nat} {l : List (Int × Int)} (h : SpAt B w b l) (x : Int) (there : Bool) :
    Calls Try.prog 26 #[.pointer (some ⟨b, 0, none⟩), .int .i64 x, .bool there] w (Gives (.int .i64 (ahF l x there)) w) := by
  obtain ⟨A, c, h1, h2⟩ := h.ex
  have hlen := h.len
  have hb1 := (Below.refl w.heap.size w).alloc (Nat.le_refl _) (.cells #[.bool there] 4)
  have hcell : (w.alloc (.cells #[.bool there] 4)).cell? ⟨w.heap.size, 0, none⟩ = some (.bool there) := by simp [go_sem]
  have HS := hid (search_any 35 #[.pointer (some ⟨w.heap.size, 0, none⟩)] A c l.length l rfl (by omega) x (fun k => cmpT there (cmV (pc l k).2 x)) _ ((Cells.of_own h2).below hb1) ⟨_, rfl⟩ (.inl rfl)
    (fun k y hk => by
      simp only [List.append_toArray, List.cons_append, List.nil_append]
      exact aheadC_any (pc l k) x w.heap.size there _ (below_cell (World.below_past _ y) (Nat.le_refl _) _ _ hcell)))
  have HB := hid hb1
  have q := Rec.cell h1 0
  simp at q
  have hbl := Rec.lt h1
  have HF := hid (show ahF l x there = bsN (fun k => cmpT there (cmV (pc l k).2 x)) l.length from rfl)
  obtain ⟨r, er⟩ : ∃ r, bsN (fun k => cmpT there (cmV (pc l k).2 x)) l.length = r := ⟨_, rfl⟩
  rw [er] at HS HF
  obtain ⟨n, en⟩ : ∃ n, l.length = n := ⟨_, rfl⟩
  rw [en] at q HS
  clear er en h h1 h2 hb1 hcell hlen
  go_enter Try.func26, Try.ntmps26
  go_wp2_with (go_at_call 34; refine HS.out.mono ?_; rintro _ w2 ⟨bb, y, rfl, rfl⟩)
  go_ret
  refine Gives.mk (by rw [HF.out]; rfl) (HB.out.trans ((World.below_past _ y).mono (by simp)))
set_option maxHeartbeats 1000000 in
theorem begun_any {B : Nat} {w : World} {b : Nat} {l : List (Int × Int)} (h : SpAt B w b l) (x : Int) (there : Bool) :
    Calls Try.prog 27 #[.pointer (some ⟨b, 0, none⟩), .int .i64 x, .bool there] w (Gives (.int .i64 (beF l x there)) w) := by
  obtain ⟨A, c, h1, h2⟩ := h.ex
  have hlen := h.len
  have hb1 := (Below.refl w.heap.size w).alloc (Nat.le_refl _) (.cells #[.bool there] 4)
  have hcell : (w.alloc (.cells #[.bool there] 4)).cell? ⟨w.heap.size, 0, none⟩ = some (.bool there) := by simp [go_sem]
  have HS := hid (search_any 37 #[.pointer (some ⟨w.heap.size, 0, none⟩)] A c l.length l rfl (by omega) x (fun k => cmpT there (cmV (pc l k).1 x)) _ ((Cells.of_own h2).below hb1) ⟨_, rfl⟩ (.inr rfl)
    (fun k y hk => by
      simp only [List.append_toArray, List.cons_append, List.nil_append]
      exact begunC_any (pc l k) x w.heap.size there _ (below_cell (World.below_past _ y) (Nat.le_refl _) _ _ hcell)))
  have HB := hid hb1
  have q := Rec.cell h1 0
  simp at q
  have hbl := Rec.lt h1
  have HF := hid (show beF l x there = bsN (fun k => cmpT there (cmV (pc l k).1 x)) l.length from rfl)
  obtain ⟨r, er⟩ : ∃ r, bsN (fun k => cmpT there (cmV (pc l k).1 x)) l.length = r := ⟨_, rfl⟩
  rw [er] at HS HF
  obtain ⟨n, en⟩ : ∃ n, l.length = n := ⟨_, rfl⟩
  rw [en] at q HS
  clear er en h h1 h2 hb1 hcell hlen
  go_enter Try.func27, Try.ntmps27
  go_wp2_with (go_at_call 34; refine HS.out.mono ?_; rintro _ w2 ⟨bb, y, rfl, rfl⟩)
  go_ret
  refine Gives.mk (by rw [HF.out]; rfl) (HB.out.trans ((World.below_past _ y).mono (by simp)))
/-- A piece's cells. -/
theorem SpAt.at {B : Nat} {w : World} {b : Nat} {l : List (Int × Int)} (h : SpAt B w b l) : ∃ A c, w.cell? ⟨b, 0, none⟩ = some (.slice A l.length c) ∧ l.length ≤ c ∧ ∀ k, k < l.length → ∃ g, A = some ⟨g, 0, none⟩ ∧ w.cell? ⟨g, k * 2, none⟩ = some (.int .i64 (pc l k).1) ∧ w.cell? ⟨g, k * 2 + 1, none⟩ = some (.int .i64 (pc l k).2) := by
  obtain ⟨A, c, h1, h2⟩ := h.ex
  have q := Rec.cell h1 0
  simp at q
  refine ⟨A, c, q, own_cap h2, fun k hk => ?_⟩
  obtain ⟨g, cap, e, _⟩ := own_succ h2 (by omega)
  cases e
  obtain ⟨g', o, e, e1, e2⟩ := pc_at (Cells.of_own h2) hk
  cases e
  exact ⟨g, rfl, by simpa using e1, by simpa using e2⟩
def hasV (l : List (Int × Int)) (x : Int) : Bool := decide (0 < beF l x true) && ltV x (pc l (beF l x true - 1)).2
theorem beF_le (l : List (Int × Int)) (x : Int) (t : Bool) : beF l x t ≤ l.length := bsN_le _ _
theorem ahF_le (l : List (Int × Int)) (x : Int) (t : Bool) : ahF l x t ≤ l.length := bsN_le _ _
set_option maxHeartbeats 1000000 in
theorem Has_any {B : Nat} {w : World} {b : Nat} {l : List (Int × Int)} (h : SpAt B w b l) (x : Int) :
    Calls Try.prog 11 #[.pointer (some ⟨b, 0, none⟩), .int .i64 x] w (Gives (.bool (hasV l x)) w) := by
  have HB := hid (begun_any h x true)
  have hle := beF_le l x true
  have hlen := h.len
  obtain ⟨A, c, q, hc, hat⟩ := h.at
  have HF := hid (show hasV l x = (decide (0 < beF l x true) && ltV x (pc l (beF l x true - 1)).2) from rfl)
  obtain ⟨r, er⟩ : ∃ r, beF l x true = r := ⟨_, rfl⟩
  rw [er] at HB hle HF
  have HAT := hid hat
  have hbl := h.lt
  obtain ⟨n, en⟩ : ∃ n, l.length = n := ⟨_, rfl⟩
  rw [en] at q hle hlen hc
  have EN := hid en
  clear er en h hat
  rcases Nat.eq_zero_or_pos r with h0 | h0
  · subst h0
    go_enter Try.func11, Try.ntmps11
    go_wp2_with (go_at_call 27; refine HB.out.mono ?_; rintro _ _ ⟨rfl, y, rfl⟩)
    go_ret
    exact Gives.mk (by rw [HF.out]; rfl) (w.below_past _)
  · obtain ⟨k, rfl⟩ : ∃ k, r = k + 1 := ⟨r - 1, by omega⟩
    obtain ⟨g, rfl, c0, c1⟩ := HAT.out k (by rw [EN.out]; omega)
    rw [Nat.add_sub_cancel] at HF
    obtain ⟨z, ez⟩ : ∃ z, (pc l k).2 = z := ⟨_, rfl⟩
    rw [ez] at c1 HF
    have e0 : decide (0 < k + 1) = true := by simp
    rw [e0, Bool.true_and] at HF
    rcases Bool.eq_false_or_eq_true (ltV x z) with hz | hz
    all_goals
      have hz2 := hz
      unfold ltV at hz2
      rw [hz] at HF
      clear ez hz e0
      go_enter Try.func11, Try.ntmps11
      go_wp2_with (go_at_call 27; refine HB.out.mono ?_; rintro _ _ ⟨rfl, y, rfl⟩)
      go_ret
      exact Gives.mk (by rw [HF.out]; rfl) (w.below_past _)
theorem Len_any {B : Nat} {w : World} {b : Nat} {l : List (Int × Int)} (h : SpAt B w b l) :
    Calls Try.prog 17 #[.pointer (some ⟨b, 0, none⟩)] w (fun e w' => e = .returned (.int .i64 (l.length : Int)) ∧ w' = w) := by
  obtain ⟨A, c, q, hc, hat⟩ := h.at
  obtain ⟨n, en⟩ : ∃ n, l.length = n := ⟨_, rfl⟩
  rw [en] at q ⊢
  clear en hat
  go_enter Try.func17, Try.ntmps17
  go_wp2
  go_ret
  exact ⟨rfl, rfl⟩
theorem New_any (w : World) : Calls Try.prog 8 #[] w (fun e w' => e = .returned (.pointer (some ⟨w.heap.size, 0, none⟩)) ∧ SpAt w.heap.size w' w.heap.size [] ∧ Below w.heap.size w w') := by
  go_enter Try.func8, Try.ntmps8
  go_wp2
  go_ret
  refine ⟨rfl, ⟨Nat.le_refl _, by simp, none, 0, Rec.new w _ _, World.ownsRow_nil _ _ _ _⟩, (Below.refl _ w).alloc (Nat.le_refl _) _⟩

end Go.Proofs.Ytjihhpipdhhjkaa
