/-
  Layer 32: two lists of ints, brought into one: the iterator's contract. No condition.
-/
import Derived.RangeFuncBox
import Derived.RangeFuncLeaves
import Derived.Shelf.Abstract
import Derived.WalkKit
import Derived.OwnWalkIn
import Derived.TacticsInMore
import Derived.LoopNIn
import Derived.LoopIn
import Derived.Maps.AppendAt
import Derived.BigQuiet
import Derived.Test.YthemogfniohdiaaRows
import Derived.Test.YthemogfniohdiaaOwn
namespace Go.Proofs.Ythemogfniohdiaa
open Go.RowKit Go.Shelf
attribute [local go_sem] Oper.semAt_some
def mergeF {α : Type} (lt : α → α → Bool) : List α → List α → List α
  | [], b => b
  | x :: a, [] => x :: a
  | x :: a, y :: b => if lt y x = true then y :: mergeF lt (x :: a) b else x :: mergeF lt a (y :: b)
termination_by a b => a.length + b.length
theorem merge_nil {α : Type} (lt : α → α → Bool) (a : List α) : mergeF lt a [] = a := by cases a <;> simp [mergeF]
theorem merge_hi {α : Type} {lt : α → α → Bool} {x y : α} (a b : List α) (h : lt y x = true) : mergeF lt (x :: a) (y :: b) = y :: mergeF lt (x :: a) b := by rw [mergeF, if_pos h]
theorem merge_lo {α : Type} {lt : α → α → Bool} {x y : α} (a b : List α) (h : lt y x = false) : mergeF lt (x :: a) (y :: b) = x :: mergeF lt a (y :: b) := by rw [mergeF, if_neg (by rw [h]; simp)]
theorem merge_length {α : Type} (lt : α → α → Bool) : ∀ a b : List α, (mergeF lt a b).length = a.length + b.length
  | [], b => by simp [mergeF]
  | x :: a, [] => by simp [mergeF]
  | x :: a, y :: b => by
    rw [mergeF]
    split
    · rw [List.length_cons, merge_length lt (x :: a) b]; simp; omega
    · rw [List.length_cons, merge_length lt a (y :: b)]; simp; omega
termination_by a b => a.length + b.length
theorem merge_one {α : Type} (lt : α → α → Bool) (x : α) (a : List α) : mergeF lt (x :: a) [] = x :: mergeF lt a [] := by rw [merge_nil, merge_nil]
theorem merge_zero {α : Type} (lt : α → α → Bool) (b : List α) : mergeF lt [] b = b := by simp [mergeF]
theorem drop_cons {α : Type} {l : List α} {k : Nat} {x : α} (h : l[k]? = some x) : l.drop k = x :: l.drop (k + 1) := by
  obtain ⟨hk, e⟩ := List.getElem?_eq_some_iff.1 h
  rw [← e]
  exact List.drop_eq_getElem_cons hk
/-! At this type. -/
def ltI (a b : Int) : Bool := decide (a < b)
theorem nan_any (a : Int) (w : World) : Calls Try.prog 28 #[.int .i64 a] w (fun e w' => e = .returned (.bool false) ∧ w' = w) := by
  go_enter Try.func28, Try.ntmps28
  go_wp2
  go_ret
  exact ⟨by simp, rfl⟩
set_option maxHeartbeats 1000000 in
theorem less_any (a b : Int) (w : World) : Calls Try.prog 21 #[.int .i64 a, .int .i64 b] w (fun e w' => e = .returned (.bool (ltI a b)) ∧ w' = w) := by
  rcases Bool.eq_false_or_eq_true (ltI a b) with h | h
  all_goals
    have h' : decide (a < b) = _ := h
    go_enter Try.func21, Try.ntmps21
    go_wp2_with (go_at_call 28; refine (nan_any _ _).mono ?_; rintro _ _ ⟨rfl, rfl⟩)
    go_ret
    exact ⟨by rw [h]; first | rfl | simp [h'], rfl⟩
set_option maxRecDepth 100000 in
set_option maxHeartbeats 4000000 in
theorem two1_in (n : Nat) (hn : 1 ≤ n) (l : Nat) (w0 : World) (Ba Bb : Nat) (A B : Option Addr) (ca cb na nb : Nat) (a b : List Int) (ea : a.length = na) (eb : b.length = nb)
    (hBa : w0.cell? ⟨Ba, 0, none⟩ = some (.slice A na ca)) (hBb : w0.cell? ⟨Bb, 0, none⟩ = some (.slice B nb cb)) (ha : Cells w0 A (i64s a)) (hb : Cells w0 B (i64s b)) (hla : na ≤ 100000) (hlb : nb ≤ 100000) (J Jx : List Int → World → Prop)
    (hY : ∀ pre x W, J pre W → pre.length < na + nb → YieldAt Fence.wide (n - 1) Try.prog l #[.int .i64 x] W fun e W' =>
      (e = .returned (.bool true) ∧ J (pre ++ [x]) W' ∧ Below w0.heap.size W W') ∨ (e = .returned (.bool false) ∧ Jx (pre ++ [x]) W'))
    (W : World) (hW : Below w0.heap.size w0 W) (h0 : J [] W) :
    CallsIn Fence.wide n Try.prog 20 #[.func (.yield l) #[] #[], .pointer (some ⟨Ba, 0, none⟩), .pointer (some ⟨Bb, 0, none⟩)] W fun e W' => (∃ v, e = .returned v) ∧
      ((∃ ys, ys = mergeF ltI a b ∧ J ys W') ∨ (∃ pre, pre <+: mergeF ltI a b ∧ Jx pre W')) := by
  have HW := hid hW
  have EA := hid ea
  have EB := hid eb
  have HBA := hid (fun W' (h : Below w0.heap.size w0 W') => below_cell h (Nat.le_refl _) _ _ hBa)
  have HBB := hid (fun W' (h : Below w0.heap.size w0 W') => below_cell h (Nat.le_refl _) _ _ hBb)
  have HA := hid ha
  have HB := hid hb
  have cba := HBA.out W hW
  have cbb := HBB.out W hW
  clear ea eb hBa hBb ha hb hW
  refine callsIn_of_wp Try.func20 rfl trivial ?_ rfl
  simp only [Try.ntmps20, List.size_toArray, List.length_cons, List.length_nil, Nat.reduceAdd, Nat.reduceSub, Array.replicate_succ, Array.replicate_zero, List.push_toArray, List.append_toArray, List.nil_append, List.cons_append]
  gi_wp2
  clear cba cbb
  gi_loopw [4, 9] (fun kv iv wr => ∃ (i k : Nat) (pre : List Int), kv = .int .i64 k ∧ iv = .int .i64 i ∧ i ≤ na ∧ k ≤ nb ∧ J pre wr ∧ Hid (Below w0.heap.size w0 wr) ∧ Hid (mergeF ltI a b = pre ++ mergeF ltI (a.drop i) (b.drop k)) ∧ Hid (pre.length = i + k))
    (fun _ iv _ => na - (intOf iv).toNat)
  case atStart => exact ⟨0, 0, [], rfl, rfl, by omega, by omega, h0, HW, hid (by simp), hid rfl⟩
  case round =>
    clear h0 HW
    obtain ⟨i, k, pre, rfl, rfl, hi, hk, hJ, HBel, HM, HL⟩ := hrel
    by_cases hlt : i < na
    · have haW := HA.out.below HBel.out
      obtain ⟨b1, o1, rfl, hcx⟩ := i64_at haW (show i < a.length by rw [EA.out]; exact hlt)
      have hax : a.drop i = atL a i :: a.drop (i + 1) := drop_cons (by simp [atL, show i < a.length by rw [EA.out]; exact hlt])
      obtain ⟨x, ex⟩ : ∃ x, atL a i = x := ⟨_, rfl⟩
      rw [ex] at hcx hax
      rw [hax] at HM
      have HAX := hid hax
      clear haW ex hax
      gi_wp2
      gi_loopw [4] (fun kv wr => ∃ (k : Nat) (pre : List Int), kv = .int .i64 k ∧ k ≤ nb ∧ J pre wr ∧ Hid (Below w0.heap.size w0 wr) ∧ Hid (mergeF ltI a b = pre ++ mergeF ltI (x :: a.drop (i + 1)) (b.drop k)) ∧ Hid (pre.length = i + k))
        (fun kv _ => nb - (intOf kv).toNat)
      case atStart => exact ⟨k, pre, rfl, hk, hJ, HBel, HM, HL⟩
      case round =>
        clear hJ HBel HM HL hk hcx
        obtain ⟨k, pre, rfl, hk, hJ, HBel, HM, HL⟩ := hrel
        have cbb := HBB.out wr HBel.out
        obtain ⟨fx, tx, asx, bdx, hyx, hRx⟩ := hY pre x wr hJ (by rw [HL.out]; omega)
        by_cases hkb : k < nb
        · have hbW := HB.out.below HBel.out
          obtain ⟨b2, o2, rfl, hcy⟩ := i64_at hbW (show k < b.length by rw [EB.out]; exact hkb)
          have hby : b.drop k = atL b k :: b.drop (k + 1) := drop_cons (by simp [atL, show k < b.length by rw [EB.out]; exact hkb])
          obtain ⟨y, ey⟩ : ∃ y, atL b k = y := ⟨_, rfl⟩
          rw [ey] at hcy hby
          rw [hby] at HM
          have HBY := hid hby
          have hless := less_any y x
          clear hbW ey hby
          rcases Bool.eq_false_or_eq_true (ltI y x) with hl | hl
          · have hm := HM.out
            rw [merge_hi _ _ hl] at hm
            rw [hl] at hless
            have HLS := hid hless
            have HM2 := hid (show mergeF ltI a b = (pre ++ [y]) ++ mergeF ltI (x :: a.drop (i + 1)) (b.drop (k + 1)) by
              rw [HM.out, merge_hi _ _ hl]; simp)
            obtain ⟨fy, ty, asy, bdy, hyy, hRy⟩ := hY pre y wr hJ (by rw [HL.out]; omega)
            clear hm hless HM hyx hRx
            gi_wp2_with (refine ⟨trivial, ?_⟩; gi_at_call 21; refine (callsIn_wide.2 (HLS.out _)).mono ?_; rintro e w' ⟨rfl, rfl⟩)
            clear hyy
            refine hRy.mono ?_
            rintro e W3 (⟨rfl, hJ3, hk3⟩ | ⟨rfl, hJx3⟩)
            · gi_wp2
              go_roundw
              case rel => exact ⟨k + 1, pre ++ [y], by go_num, by omega, hJ3, hid (HBel.out.trans hk3), HM2, hid (by rw [List.length_append, HL.out]; simp; omega)⟩
              case measure => simp [intOf]; omega
            · gi_wp2
              refine bodyPost_ret (results_none rfl _ _ _) rfl ?_
              exact ⟨⟨_, rfl⟩, .inr ⟨pre ++ [y], ⟨_, HM2.out.symm⟩, hJx3⟩⟩
          · rw [hl] at hless
            have HLS := hid hless
            have HM2 := hid (show mergeF ltI a b = (pre ++ [x]) ++ mergeF ltI (a.drop (i + 1)) (b.drop k) by
              rw [HM.out, merge_lo _ _ hl, HBY.out]; simp)
            clear hless HM
            gi_wp2_with (refine ⟨trivial, ?_⟩; gi_at_call 21; refine (callsIn_wide.2 (HLS.out _)).mono ?_; rintro e w' ⟨rfl, rfl⟩)
            clear hyx
            refine hRx.mono ?_
            rintro e W3 (⟨rfl, hJ3, hk3⟩ | ⟨rfl, hJx3⟩)
            · gi_wp2
              go_roundw
              case rel => exact ⟨i + 1, k, pre ++ [x], rfl, by go_num, by omega, by omega, hJ3, hid (HBel.out.trans hk3), HM2, hid (by rw [List.length_append, HL.out]; simp; omega)⟩
              case measure => simp [intOf]; omega
            · gi_wp2
              refine bodyPost_ret (results_none rfl _ _ _) rfl ?_
              exact ⟨⟨_, rfl⟩, .inr ⟨pre ++ [x], ⟨_, HM2.out.symm⟩, hJx3⟩⟩
        · obtain rfl : k = nb := by omega
          have hbn : b.drop k = [] := by rw [← EB.out]; exact List.drop_length
          rw [hbn] at HM
          have HM2 := hid (show mergeF ltI a b = (pre ++ [x]) ++ mergeF ltI (a.drop (i + 1)) (b.drop k) by
            rw [HM.out, merge_one, hbn]; simp)
          clear hbn HM
          gi_wp2
          refine ⟨trivial, ?_⟩
          gi_wp2
          clear hyx
          refine hRx.mono ?_
          rintro e W3 (⟨rfl, hJ3, hk3⟩ | ⟨rfl, hJx3⟩)
          · gi_wp2
            go_roundw
            case rel => exact ⟨i + 1, k, pre ++ [x], rfl, by go_num, by omega, by omega, hJ3, hid (HBel.out.trans hk3), HM2, hid (by rw [List.length_append, HL.out]; simp; omega)⟩
            case measure => simp [intOf]; omega
          · gi_wp2
            refine bodyPost_ret (results_none rfl _ _ _) rfl ?_
            exact ⟨⟨_, rfl⟩, .inr ⟨pre ++ [x], ⟨_, HM2.out.symm⟩, hJx3⟩⟩
    · obtain rfl : i = na := by omega
      have han : a.drop i = [] := by rw [← EA.out]; exact List.drop_length
      rw [han, merge_zero] at HM
      have cbb := HBB.out wr HBel.out
      clear han
      gi_wp2
      clear cbb
      gi_loopw [4] (fun kv wr => ∃ (k : Nat) (pre : List Int), kv = .int .i64 k ∧ k ≤ nb ∧ J pre wr ∧ Hid (Below w0.heap.size w0 wr) ∧ Hid (mergeF ltI a b = pre ++ b.drop k) ∧ Hid (pre.length = i + k))
        (fun kv _ => nb - (intOf kv).toNat)
      case atStart => exact ⟨k, pre, rfl, hk, hJ, HBel, HM, HL⟩
      case round =>
        clear hJ HBel HM HL hk
        obtain ⟨k, pre, rfl, hk, hJ, HBel, HM, HL⟩ := hrel
        have cbb := HBB.out wr HBel.out
        by_cases hkb : k < nb
        · have hbW := HB.out.below HBel.out
          obtain ⟨b2, o2, rfl, hcy⟩ := i64_at hbW (show k < b.length by rw [EB.out]; exact hkb)
          have hby : b.drop k = atL b k :: b.drop (k + 1) := drop_cons (by simp [atL, show k < b.length by rw [EB.out]; exact hkb])
          obtain ⟨y, ey⟩ : ∃ y, atL b k = y := ⟨_, rfl⟩
          rw [ey] at hcy hby
          have HM2 := hid (show mergeF ltI a b = (pre ++ [y]) ++ b.drop (k + 1) by rw [HM.out, hby]; simp)
          obtain ⟨fy, ty, asy, bdy, hyy, hRy⟩ := hY pre y wr hJ (by rw [HL.out]; omega)
          clear hbW ey hby HM
          gi_wp2
          clear hyy
          refine hRy.mono ?_
          rintro e W3 (⟨rfl, hJ3, hk3⟩ | ⟨rfl, hJx3⟩)
          · gi_wp2
            go_roundw
            case rel => exact ⟨k + 1, pre ++ [y], by go_num, by omega, hJ3, hid (HBel.out.trans hk3), HM2, hid (by rw [List.length_append, HL.out]; simp; omega)⟩
            case measure => simp [intOf]; omega
          · gi_wp2
            refine bodyPost_ret (results_none rfl _ _ _) rfl ?_
            exact ⟨⟨_, rfl⟩, .inr ⟨pre ++ [y], ⟨_, HM2.out.symm⟩, hJx3⟩⟩
        · obtain rfl : k = nb := by omega
          have hbn : b.drop k = [] := by rw [← EB.out]; exact List.drop_length
          have HM2 := hid (show mergeF ltI a b = pre by rw [HM.out, hbn]; simp)
          clear hbn
          gi_wp2
          go_end0
          exact ⟨⟨_, rfl⟩, .inl ⟨pre, HM2.out.symm, hJ⟩⟩
end Go.Proofs.Ythemogfniohdiaa
