/-
  Layer 44: rows are added. No condition but that their numbers are small.
-/
import Derived.Test.YtddngloojacceaaBkC
import Derived.Test.YtddngloojacceaaRowW
namespace Go.Proofs.Ytddngloojacceaa
open Go Go.RowKit
/-- Small numbers. -/
def Sml (l : List Int) : Prop := ∀ j, -1000000000000 ≤ atL l j ∧ atL l j ≤ 1000000000000
set_option maxRecDepth 100000 in
set_option maxHeartbeats 2000000 in
theorem plus_any (A B : Option Addr) (ca cb n m : Nat) (a b : List Int) (s : Int) (ea : a.length = n) (eb : b.length = m) (hnm : n ≤ m) (h0 : 0 < n) (hn : n ≤ 1000000) (hs : s = 1 ∨ s = -1) (hsa : Sml a) (hsb : Sml b) (w : World) (ha : Cells w A (i64s a)) (hb : Cells w B (i64s b)) :
    Calls Try.prog 26 #[.slice A n ca, .slice B m cb, .int .i64 s] w (GivesOwn 3 1 n (i64s (plusF a b s)) w) := by
  have HCL := hid (clone_any A ca n a ea h0 hn w ha)
  have hall : plusK a b s n = plusF a b s := by rw [← ea]; exact plusK_all a b s
  have HALL := hid hall
  have EA := hid ea
  have EB := hid eb
  have HB := hid hb
  have HSA := hid hsa
  have HSB := hid hsb
  clear ea eb ha hb hsa hsb hall
  go_enter Try.func26, Try.ntmps26
  go_upto_region 3 with (go_at_call 34; refine HCL.out.mono ?_; rintro _ w1 ⟨A1, c1, rfl, hb1, ho1⟩)
  obtain ⟨g, c2, ev, -⟩ := own_succ ho1 h0
  injection ev with eA e1 ec
  clear e1
  subst eA; subst ec
  have HR0 : Hid (RowW w w1 g n c1 (plusK a b s 0)) := hid ⟨hb1, by rw [plusK_zero]; exact ho1⟩
  clear hb1 ho1 HCL
  go_loopw [13] (fun i wr => ∃ k : Nat, i = .int .i64 k ∧ k ≤ n ∧ Hid (RowW w wr g n c1 (plusK a b s k))) (fun i _ => n - (intOf i).toNat)
  case atStart => exact ⟨0, rfl, by omega, HR0⟩
  case round =>
    clear HR0
    obtain ⟨k, rfl, hk, HR⟩ := hrel
    by_cases hlt : k < n
    · obtain ⟨b2, o2, rfl, c2⟩ := i64_at (HB.out.below HR.out.below) (k := k) (by rw [EB.out]; omega)
      have hkm : k < m := by omega
      have cc := HR.out.cell (k := k) hlt
      have fc := HR.out.frozen k
      have lc := HR.out.lt.2
      rw [plusK_at (by rw [EA.out]; exact hlt), if_neg (Nat.lt_irrefl _)] at cc
      have hst := plusK_set (a := a) (b := b) (s := s) (k := k) (by rw [EA.out]; exact hlt)
      have hx := HSA.out k
      have hy := HSB.out k
      obtain ⟨x, ex⟩ : ∃ x, atL a k = x := ⟨_, rfl⟩
      obtain ⟨y, ey⟩ : ∃ y, atL b k = y := ⟨_, rfl⟩
      rw [ex] at cc hx hst
      rw [ey] at c2 hy hst
      have hsy : s * y = y ∨ s * y = -y := by
        rcases hs with rfl | rfl
        · exact .inl (Int.one_mul y)
        · exact .inr (by rw [Int.neg_mul, Int.one_mul])
      have w1' : IntKind.i64.wrap (s * y) = s * y := by rw [IntKind.wrap_i64]; omega
      have w2' : IntKind.i64.wrap (x + s * y) = x + s * y := by rw [IntKind.wrap_i64]; omega
      have HN : Hid (RowW w (wr.setCell ⟨g, k, none⟩ (.int .i64 (x + s * y))) g n c1 (plusK a b s (k + 1))) := hid (by rw [← hst]; exact HR.out.set k _)
      clear ex ey hst hsy
      go_wp2_with fail
      go_region
      all_goals
        go_wp2_with fail
        go_roundw
        case rel => exact ⟨k + 1, by go_num, by omega, hid HN.out.drew⟩
        case measure => simp [intOf]; omega
    · obtain rfl : k = n := by omega
      have hR := HR.out
      rw [HALL.out] at hR
      have HR2 := hid hR
      clear hR
      go_wp2_with fail
      go_ret
      exact ⟨_, _, rfl, HR2.out.below, HR2.out.own⟩
end Go.Proofs.Ytddngloojacceaa
