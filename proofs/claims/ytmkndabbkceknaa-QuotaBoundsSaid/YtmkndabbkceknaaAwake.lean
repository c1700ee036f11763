/-
  Layer 38's law begins with two of three: it is awake. No condition.
-/
import Derived.Test.YtmkndabbkceknaaFit
namespace Go.Proofs.Ytmkndabbkceknaa
open Go.RowKit
def bkA : Bk := ⟨2, 5, 0, 2⟩
def bkB : Bk := ⟨2, 5, 0, 0⟩
theorem Bk.past' {b : Bk} {w : World} {g : Nat} (h : b.at w g) (x : Past) : b.at (w.past x) g := Rec.past h x
theorem bkA_ok : BkOk bkA := ⟨⟨by decide, by decide⟩, ⟨by decide, by decide⟩, ⟨by decide, by decide⟩, ⟨by decide, by decide⟩⟩
theorem bkB_ok : BkOk bkB := ⟨⟨by decide, by decide⟩, ⟨by decide, by decide⟩, ⟨by decide, by decide⟩, ⟨by decide, by decide⟩⟩
theorem u64_lit {x : Int} (h : 0 ≤ x ∧ x < 100) : U64 x := ⟨h.1, by omega⟩
theorem i64_lit {x : Int} (h : -100 ≤ x ∧ x < 100) : I64 x := ⟨by omega, by omega⟩
theorem awake_new (w : World) : Calls Try.prog 6 #[.int .i64 2, .int .i64 5] w (fun e w' => ∃ g, e = .returned (.pointer (some ⟨g, 0, none⟩)) ∧ Below w.heap.size w w' ∧ w.heap.size ≤ g ∧ bkA.at w' g) := by
  have := bk_new 2 5 (i64_lit (by omega)) (i64_lit (by omega)) w
  have e : newBk 2 5 = bkA := by simp [newBk, bkA, bringF]
  rw [e] at this
  exact this
theorem awake_take (g : Nat) (w : World) (h : bkA.at w g) : Calls Try.prog 8 #[.pointer (some ⟨g, 0, none⟩), .int .u64 0, .int .i64 3] w (GivesBk (.tuple #[.int .i64 2, .bool true]) w g bkB) := by
  have := bk_take g bkA 0 3 (u64_lit (by omega)) (i64_lit (by omega)) w bkA_ok h
  have e1 : bkA.takeK 0 3 = 2 := by decide
  have e2 : (!bkA.no 0 3) = true := by decide
  have e3 : bkA.take 0 3 = bkB := by simp [bkA, bkB, Bk.take, Bk.no, Bk.atF]; decide
  rw [e1, e2, e3] at this
  exact this
theorem awake_when (g : Nat) (w : World) (h : bkB.at w g) : Calls Try.prog 11 #[.pointer (some ⟨g, 0, none⟩), .int .u64 1, .int .i64 1] w (Gives (.tuple #[.int .u64 5, .bool true]) w) := by
  have := bk_when g bkB 1 1 (u64_lit (by omega)) w bkB_ok h
  have e1 : bkB.whenK 1 1 = 5 := by decide
  have e2 : bkB.whenB 1 1 = true := by decide
  rw [e1, e2] at this
  exact this
theorem awake_left4 (g : Nat) (w : World) (h : bkB.at w g) : Calls Try.prog 12 #[.pointer (some ⟨g, 0, none⟩), .int .u64 4] w (Gives (.int .i64 0) w) := by
  have := bk_left g bkB 4 (u64_lit (by omega)) w bkB_ok h
  have e1 : bkB.leftF 4 = 0 := by decide
  rw [e1] at this
  exact this
theorem awake_left5 (g : Nat) (w : World) (h : bkB.at w g) : Calls Try.prog 12 #[.pointer (some ⟨g, 0, none⟩), .int .u64 5] w (Gives (.int .i64 2) w) := by
  have := bk_left g bkB 5 (u64_lit (by omega)) w bkB_ok h
  have e1 : bkB.leftF 5 = 2 := by decide
  rw [e1] at this
  exact this
theorem awake_fit (a b c d : Int) (r : Bool) (ha : -100 ≤ a ∧ a < 100) (hb : -100 ≤ b ∧ b < 100) (hc : -100 ≤ c ∧ c < 100) (hd : -100 ≤ d ∧ d < 100) (hr : fitB [(a, b), (c, d)] = r) (w : World) (g : Nat) (hg : g = w.heap.size) :
    Calls Try.prog 9 #[.slice (some ⟨g, 0, none⟩) 2 2] (w.alloc (.cells #[.int .i64 a, .int .i64 b, .int .i64 c, .int .i64 d] 22)) (fun e w' => e = .returned (.bool r) ∧ Below w.heap.size w w') := by
  subst hg
  have hc2 : Cells (w.alloc (.cells #[.int .i64 a, .int .i64 b, .int .i64 c, .int .i64 d] 22)) (some ⟨w.heap.size, 0, none⟩) (tab pairI [(a, b), (c, d)]) :=
    Cells.of_own (World.ownsRow_lit (base := 0) (size := 2) w #[.int .i64 a, .int .i64 b, .int .i64 c, .int .i64 d] 2 (Nat.zero_le _) (by unfold maxLen; omega) rfl)
  have := Fit_any (some ⟨w.heap.size, 0, none⟩) 2 [(a, b), (c, d)] 2 rfl _ (by omega) (by
    intro x hx
    simp only [List.mem_cons, List.not_mem_nil, or_false] at hx
    rcases hx with rfl | rfl
    · exact ⟨i64_lit ha, i64_lit hb⟩
    · exact ⟨i64_lit hc, i64_lit hd⟩) hc2
  refine this.mono ?_
  rintro _ _ ⟨rfl, x, rfl⟩
  exact ⟨by rw [hr], RowKit.Below.past ((Below.refl _ _).alloc (Nat.le_refl _) _) _⟩
set_option maxHeartbeats 2000000 in
theorem awake_any (w : World) : Calls Try.prog 5 #[] w (Gives (.bool true) w) := by
  go_enter Try.func5, Try.ntmps5
  go_wp2_with fail
  refine (awake_new w).mono ?_
  rintro _ w1 ⟨g, rfl, hb1, hg, h1⟩
  have HB1 := hid hb1
  have HG := hid hg
  have H1 := hid h1
  clear hb1 hg h1
  go_wp2_with fail
  refine (awake_take g w1 H1.out).mono ?_
  rintro _ w2 ⟨rfl, hk, h2⟩
  have HB2 := hid (hk.to_below HB1.out (HB1.out.size) (fun k hk => by subst hk; exact HG.out))
  have H2 := hid h2
  clear hk h2
  go_wp2_with (first | (go_at_call 11; refine (awake_when g _ H2.out).mono ?_; rintro _ _ ⟨rfl, x3, rfl⟩) | (go_at_call 12; first | ((with_reducible refine (awake_left4 g _ (Bk.past' H2.out _)).mono ?_); rintro _ _ ⟨rfl, x4, rfl⟩) | ((with_reducible refine (awake_left5 g _ (Bk.past' H2.out _)).mono ?_); rintro _ _ ⟨rfl, x5, rfl⟩)))
  refine (awake_fit 1 2 1 3 true (by omega) (by omega) (by omega) (by omega) (by decide) _ _ (by simp [go_sem])).mono ?_
  rintro _ w6 ⟨rfl, hb6⟩
  have HB6 := hid (below_trans' (RowKit.Below.past HB2.out _) hb6)
  clear hb6
  go_wp2_with fail
  refine (awake_fit 1 2 2 3 false (by omega) (by omega) (by omega) (by omega) (by decide) w6 _ rfl).mono ?_
  rintro _ w7 ⟨rfl, hb7⟩
  have HB7 := hid (below_trans' HB6.out hb7)
  clear hb7
  go_wp2
  go_ret
  exact Gives.mk rfl HB7.out
end Go.Proofs.Ytmkndabbkceknaa
