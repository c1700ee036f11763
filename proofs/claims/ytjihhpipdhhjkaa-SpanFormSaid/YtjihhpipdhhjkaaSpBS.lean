/-
  Layer 33: a set of spans of strings in memory. No condition.
-/
import Derived.Test.YtjihhpipdhhjkaaSpB
import Derived.Test.YtjihhpipdhhjkaaSpAS
namespace Go.Proofs.Ytjihhpipdhhjkaa
open Go.RowKit
/-! A set in memory. -/
def leVS (a b : ByteArray) : Bool := (Op.bytesLess a.toList b.toList || a.toList == b.toList)
def mnVS (a b : ByteArray) : ByteArray := if (Op.bytesLess a.toList b.toList || a.toList == b.toList) = true then a else b
def mxVS (a b : ByteArray) : ByteArray := if (!(Op.bytesLess a.toList b.toList)) = true then a else b
theorem run_mnS (a b : ByteArray) (ts : Array TypeId) (t : TypeId) (w : World) : (Builtin.min_ ts t #[.string a, .string b]).run Try.prog w = .ok (.string (mnVS a b)) w := by
  unfold mnVS; simp [Builtin.min_, Builtin.min2, Op.stringOp, asBool]
theorem run_mxS (a b : ByteArray) (ts : Array TypeId) (t : TypeId) (w : World) : (Builtin.max_ ts t #[.string a, .string b]).run Try.prog w = .ok (.string (mxVS a b)) w := by
  unfold mxVS; simp [Builtin.max_, Builtin.max2, Op.stringOp, asBool]
structure SpAtS (B : Nat) (w : World) (b : Nat) (l : List (ByteArray × ByteArray)) : Prop where
  big : B ≤ b
  len : l.length ≤ 100000
  ex : ∃ A c, Rec w b 69 #[.slice A l.length c] ∧ w.ownsRow B 72 2 (.slice A l.length c) l.length (tab pcVS l)
theorem SpAtS.far {B : Nat} {w w' : World} {b : Nat} {l : List (ByteArray × ByteArray)} (h : SpAtS B w b l) (hb : Below w.heap.size w w') : SpAtS B w' b l := by
  obtain ⟨A, c, h1, h2⟩ := h.ex
  exact ⟨h.big, h.len, A, c, h1.below hb (Nat.le_refl _), own_below h2 hb (Nat.le_refl _)⟩
theorem SpAtS.lt {B : Nat} {w : World} {b : Nat} {l : List (ByteArray × ByteArray)} (h : SpAtS B w b l) : b < w.heap.size := by
  obtain ⟨A, c, h1, h2⟩ := h.ex
  exact Rec.lt h1
set_option maxHeartbeats 1000000 in
theorem aheadS_any {B : Nat} {w : World} {b : Nat} {l : List (ByteArray × ByteArray)} (h : SpAtS B w b l) (x : ByteArray) (there : Bool) :
    Calls Try.prog 31 #[.pointer (some ⟨b, 0, none⟩), .string x, .bool there] w (Gives (.int .i64 (ahFS l x there)) w) := by
  obtain ⟨A, c, h1, h2⟩ := h.ex
  have hlen := h.len
  have hb1 := (Below.refl w.heap.size w).alloc (Nat.le_refl _) (.cells #[.bool there] 4)
  have hcell : (w.alloc (.cells #[.bool there] 4)).cell? ⟨w.heap.size, 0, none⟩ = some (.bool there) := by simp [go_sem]
  have HS := hid (searchS_any 40 #[.pointer (some ⟨w.heap.size, 0, none⟩)] A c l.length l rfl (by omega) x (fun k => cmpT there (cmVS (pcS l k).2 x)) _ ((Cells.of_own h2).below hb1) ⟨_, rfl⟩ (.inl rfl)
    (fun k y hk => by
      simp only [List.append_toArray, List.cons_append, List.nil_append]
      exact aheadCS_any (pcS l k) x w.heap.size there _ (below_cell (World.below_past _ y) (Nat.le_refl _) _ _ hcell)))
  have HB := hid hb1
  have q := Rec.cell h1 0
  simp at q
  have hbl := Rec.lt h1
  have HF := hid (show ahFS l x there = bsN (fun k => cmpT there (cmVS (pcS l k).2 x)) l.length from rfl)
  obtain ⟨r, er⟩ : ∃ r, bsN (fun k => cmpT there (cmVS (pcS l k).2 x)) l.length = r := ⟨_, rfl⟩
  rw [er] at HS HF
  obtain ⟨n, en⟩ : ∃ n, l.length = n := ⟨_, rfl⟩
  rw [en] at q HS
  clear er en h h1 h2 hb1 hcell hlen
  go_enter Try.func31, Try.ntmps31
  go_wp2_with (go_at_call 39; refine HS.out.mono ?_; rintro _ w2 ⟨bb, y, rfl, rfl⟩)
  go_ret
  refine Gives.mk (by rw [HF.out]; rfl) (HB.out.trans ((World.below_past _ y).mono (by simp)))
set_option maxHeartbeats 1000000 in
theorem begunS_any {B : Nat} {w : World} {b : Nat} {l : List (ByteArray × ByteArray)} (h : SpAtS B w b l) (x : ByteArray) (there : Bool) :
    Calls Try.prog 32 #[.pointer (some ⟨b, 0, none⟩), .string x, .bool there] w (Gives (.int .i64 (beFS l x there)) w) := by
  obtain ⟨A, c, h1, h2⟩ := h.ex
  have hlen := h.len
  have hb1 := (Below.refl w.heap.size w).alloc (Nat.le_refl _) (.cells #[.bool there] 4)
  have hcell : (w.alloc (.cells #[.bool there] 4)).cell? ⟨w.heap.size, 0, none⟩ = some (.bool there) := by simp [go_sem]
  have HS := hid (searchS_any 42 #[.pointer (some ⟨w.heap.size, 0, none⟩)] A c l.length l rfl (by omega) x (fun k => cmpT there (cmVS (pcS l k).1 x)) _ ((Cells.of_own h2).below hb1) ⟨_, rfl⟩ (.inr rfl)
    (fun k y hk => by
      simp only [List.append_toArray, List.cons_append, List.nil_append]
      exact begunCS_any (pcS l k) x w.heap.size there _ (below_cell (World.below_past _ y) (Nat.le_refl _) _ _ hcell)))
  have HB := hid hb1
  have q := Rec.cell h1 0
  simp at q
  have hbl := Rec.lt h1
  have HF := hid (show beFS l x there = bsN (fun k => cmpT there (cmVS (pcS l k).1 x)) l.length from rfl)
  obtain ⟨r, er⟩ : ∃ r, bsN (fun k => cmpT there (cmVS (pcS l k).1 x)) l.length = r := ⟨_, rfl⟩
  rw [er] at HS HF
  obtain ⟨n, en⟩ : ∃ n, l.length = n := ⟨_, rfl⟩
  rw [en] at q HS
  clear er en h h1 h2 hb1 hcell hlen
  go_enter Try.func32, Try.ntmps32
  go_wp2_with (go_at_call 39; refine HS.out.mono ?_; rintro _ w2 ⟨bb, y, rfl, rfl⟩)
  go_ret
  refine Gives.mk (by rw [HF.out]; rfl) (HB.out.trans ((World.below_past _ y).mono (by simp)))
/-- A piece's cells. -/
theorem SpAtS.at {B : Nat} {w : World} {b : Nat} {l : List (ByteArray × ByteArray)} (h : SpAtS B w b l) : ∃ A c, w.cell? ⟨b, 0, none⟩ = some (.slice A l.length c) ∧ l.length ≤ c ∧ ∀ k, k < l.length → ∃ g, A = some ⟨g, 0, none⟩ ∧ w.cell? ⟨g, k * 2, none⟩ = some (.string (pcS l k).1) ∧ w.cell? ⟨g, k * 2 + 1, none⟩ = some (.string (pcS l k).2) := by
  obtain ⟨A, c, h1, h2⟩ := h.ex
  have q := Rec.cell h1 0
  simp at q
  refine ⟨A, c, q, own_cap h2, fun k hk => ?_⟩
  obtain ⟨g, cap, e, _⟩ := own_succ h2 (by omega)
  cases e
  obtain ⟨g', o, e, e1, e2⟩ := pcS_at (Cells.of_own h2) hk
  cases e
  exact ⟨g, rfl, by simpa using e1, by simpa using e2⟩
def hasVS (l : List (ByteArray × ByteArray)) (x : ByteArray) : Bool := decide (0 < beFS l x true) && ltVS x (pcS l (beFS l x true - 1)).2
theorem beFS_le (l : List (ByteArray × ByteArray)) (x : ByteArray) (t : Bool) : beFS l x t ≤ l.length := bsN_le _ _
theorem ahFS_le (l : List (ByteArray × ByteArray)) (x : ByteArray) (t : Bool) : ahFS l x t ≤ l.length := bsN_le _ _
set_option maxHeartbeats 1000000 in
theorem HasS_any {B : Nat} {w : World} {b : Nat} {l : List (ByteArray × ByteArray)} (h : SpAtS B w b l) (x : ByteArray) :
    Calls Try.prog 25 #[.pointer (some ⟨b, 0, none⟩), .string x] w (Gives (.bool (hasVS l x)) w) := by
  have HB := hid (begunS_any h x true)
  have hle := beFS_le l x true
  have hlen := h.len
  obtain ⟨A, c, q, hc, hat⟩ := h.at
  have HF := hid (show hasVS l x = (decide (0 < beFS l x true) && ltVS x (pcS l (beFS l x true - 1)).2) from rfl)
  obtain ⟨r, er⟩ : ∃ r, beFS l x true = r := ⟨_, rfl⟩
  rw [er] at HB hle HF
  have HAT := hid hat
  have hbl := h.lt
  obtain ⟨n, en⟩ : ∃ n, l.length = n := ⟨_, rfl⟩
  rw [en] at q hle hlen hc
  have EN := hid en
  clear er en h hat
  rcases Nat.eq_zero_or_pos r with h0 | h0
  · subst h0
    go_enter Try.func25, Try.ntmps25
    go_wp2_with (go_at_call 32; refine HB.out.mono ?_; rintro _ _ ⟨rfl, y, rfl⟩)
    go_ret
    exact Gives.mk (by rw [HF.out]; rfl) (w.below_past _)
  · obtain ⟨k, rfl⟩ : ∃ k, r = k + 1 := ⟨r - 1, by omega⟩
    obtain ⟨g, rfl, c0, c1⟩ := HAT.out k (by rw [EN.out]; omega)
    rw [Nat.add_sub_cancel] at HF
    obtain ⟨z, ez⟩ : ∃ z, (pcS l k).2 = z := ⟨_, rfl⟩
    rw [ez] at c1 HF
    have e0 : decide (0 < k + 1) = true := by simp
    rw [e0, Bool.true_and] at HF
    rcases Bool.eq_false_or_eq_true (ltVS x z) with hz | hz
    all_goals
      have hz2 := hz
      unfold ltVS at hz2
      rw [hz] at HF
      clear ez hz e0
      go_enter Try.func25, Try.ntmps25
      go_wp2_with (go_at_call 32; refine HB.out.mono ?_; rintro _ _ ⟨rfl, y, rfl⟩)
      go_ret
      exact Gives.mk (by rw [HF.out]; rfl) (w.below_past _)
theorem LenS_any {B : Nat} {w : World} {b : Nat} {l : List (ByteArray × ByteArray)} (h : SpAtS B w b l) :
    Calls Try.prog 24 #[.pointer (some ⟨b, 0, none⟩)] w (fun e w' => e = .returned (.int .i64 (l.length : Int)) ∧ w' = w) := by
  obtain ⟨A, c, q, hc, hat⟩ := h.at
  obtain ⟨n, en⟩ : ∃ n, l.length = n := ⟨_, rfl⟩
  rw [en] at q ⊢
  clear en hat
  go_enter Try.func24, Try.ntmps24
  go_wp2
  go_ret
  exact ⟨rfl, rfl⟩
theorem NewS_any (w : World) : Calls Try.prog 21 #[] w (fun e w' => e = .returned (.pointer (some ⟨w.heap.size, 0, none⟩)) ∧ SpAtS w.heap.size w' w.heap.size [] ∧ Below w.heap.size w w') := by
  go_enter Try.func21, Try.ntmps21
  go_wp2
  go_ret
  refine ⟨rfl, ⟨Nat.le_refl _, by simp, none, 0, Rec.new w _ _, World.ownsRow_nil _ _ _ _⟩, (Below.refl _ w).alloc (Nat.le_refl _) _⟩

end Go.Proofs.Ytjihhpipdhhjkaa
