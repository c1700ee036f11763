/-
  Layer 35: what is in the window, one by one: the contract of the iterator. No condition.
-/
import Derived.Test.YtplkekmegonenaaWinE
import Derived.Test.YtplkekmegonenaaRangeE
import Derived.Test.YtplkekmegonenaaPastIn
import Derived.RangeFuncBox
import Derived.RangeFuncLeaves
import Derived.WalkKit
import Derived.OwnWalkIn
import Derived.TacticsInMore
import Derived.LoopNIn
import Derived.LoopIn
namespace Go.Proofs.Ytplkekmegonenaa
open Go.RowKit
attribute [local go_sem] Oper.semAt_some
theorem prefix_length {α : Type} {a b : List α} {x : α} (h : a ++ [x] <+: b) : a.length < b.length := by
  have := h.length_le
  simp at this
  omega
theorem yield_two {e : Ending} {p q : Prop} (h : (e = .returned (.bool true) ∧ p) ∨ (e = .returned (.bool false) ∧ q)) : ∃ bb : Bool, e = .returned (.bool bb) ∧ ((bb = true ∧ p) ∨ (bb = false ∧ q)) := by
  rcases h with ⟨h, hp⟩ | ⟨h, hq⟩
  · exact ⟨true, h, .inl ⟨rfl, hp⟩⟩
  · exact ⟨false, h, .inr ⟨rfl, hq⟩⟩
def enc1 (x : Int) : Array Value := #[.int .i64 x]
theorem take_next {l : List Int} {k : Nat} (h : k < l.length) : l.take (k + 1) = l.take k ++ [atL l k] := by
  rw [List.take_add_one]; simp [atL, h]
set_option maxRecDepth 100000 in
set_option maxHeartbeats 1000000 in
theorem all1_in (m : Nat) (hm : 1 ≤ m) (lp : Nat) (w0 : World) (Bx b : Nat) (A : Option Addr) (n c : Nat) (l : List Int) (en : l.length = n) (h200 : n ≤ 200) (T : Nat → Prop) (hBx : w0.cell? ⟨Bx, 0, none⟩ = some (.pointer (some ⟨b, 0, none⟩))) (hBT : ¬ T Bx)
    (hb2 : w0.cell? ⟨b, 2, none⟩ = some (.slice A n c)) (hbT : ¬ T b) (hR : ∀ W, KS T w0 W → Cells W A (i64s l))
    (J Jx : List Int → World → Prop) (W : World) (hW : KS T w0 W)
    (hY : ∀ pre x W1, W.heap.size ≤ W1.heap.size → J pre W1 → pre.length < n → pre ++ [x] <+: l → YieldAt Fence.wide (m - 1) Try.prog lp (enc1 x) W1 fun e W' =>
      (e = .returned (.bool true) ∧ J (pre ++ [x]) W' ∧ KS (TT T w0.heap.size W.heap.size) W1 W') ∨ (e = .returned (.bool false) ∧ Jx (pre ++ [x]) W' ∧ KS (TT T w0.heap.size W.heap.size) W1 W'))
    (h0 : J [] W) :
    CallsIn Fence.wide m Try.prog 28 #[.func (.yield lp) #[] #[], .pointer (some ⟨Bx, 0, none⟩)] W fun e W' => (∃ v, e = .returned v) ∧
      ((∃ ys, ys = l ∧ J ys W') ∨ (∃ pre, pre <+: l ∧ Jx pre W')) := by
  have cbx := hW.cell hBT hBx
  have cb2 := hW.cell hbT hb2
  have KR := hid (fun wr (hk : KS (TT T w0.heap.size W.heap.size) W wr) => hR wr (hW.on hk (Nat.le_refl _)))
  have HY := hid hY
  have EN := hid en
  clear hBx hBT hb2 hbT hY hW hR en
  refine callsIn_of_wp Try.func28 rfl trivial ?_ rfl
  simp only [Try.ntmps28, List.size_toArray, List.length_cons, List.length_nil, Nat.reduceAdd, Nat.reduceSub, Array.replicate_succ, Array.replicate_zero, List.push_toArray, List.append_toArray, List.nil_append, List.cons_append]
  gi_wp2
  clear cbx cb2
  gi_loopw [12] (fun i wr => ∃ (k : Nat), i = .int .i64 k ∧ k ≤ n ∧ J (l.take k) wr ∧ KS (TT T w0.heap.size W.heap.size) W wr) (fun i _ => n - natW i)
  case atStart => exact ⟨0, rfl, by omega, by simpa using h0, KS.refl _ _⟩
  case round =>
    clear h0
    obtain ⟨k, rfl, hk, hJ, hS⟩ := hrel
    by_cases hlt : k < n
    · obtain ⟨g, o, rfl, c0⟩ := i64_at (KR.out wr hS) (k := k) (by rw [EN.out]; exact hlt)
      have hnx := take_next (l := l) (k := k) (by rw [EN.out]; exact hlt)
      have hpre : l.take k ++ [atL l k] <+: l := by rw [← hnx]; exact List.take_prefix _ _
      have hlen : (l.take k).length < n := by rw [List.length_take]; omega
      obtain ⟨fy, ty, asy, bdy, hyy, hRy⟩ := HY.out (l.take k) (atL l k) wr hS.size hJ hlen hpre
      rw [← hnx] at hRy hpre
      simp only [enc1] at hyy hRy
      obtain ⟨x, ex⟩ : ∃ x, atL l k = x := ⟨_, rfl⟩
      rw [ex] at hyy c0
      have HRY := hid hRy
      have HPRE := hid hpre
      have HS := hid hS
      clear hRy hJ hnx hpre hS ex KR
      gi_wp2_with ((refine HRY.out.mono ?_; rintro e W3 hE; obtain ⟨bb, eE, hE2⟩ := yield_two hE; clear hE; subst eE))
      · rename_i hb
        rcases hE2 with ⟨rfl, _⟩ | ⟨rfl, hJx, _⟩
        · cases hb
        · refine bodyPost_ret (results_none rfl _ _ _) rfl ?_
          exact ⟨⟨_, rfl⟩, .inr ⟨_, HPRE.out, hJx⟩⟩
      · rename_i hb
        rcases hE2 with ⟨rfl, hJ3, hk3⟩ | ⟨rfl, _⟩
        · go_roundw
          case rel => exact ⟨k + 1, by go_num, by omega, hJ3, HS.out.trans hk3⟩
          case measure => simp [natW]; omega
        · cases hb
    · obtain rfl : k = n := by omega
      gi_wp2
      go_end0
      exact ⟨⟨_, rfl⟩, .inl ⟨_, by rw [← EN.out, List.take_length], hJ⟩⟩
theorem all0_in (m : Nat) (hm : 1 ≤ m) (lp : Nat) (w0 : World) (Bx : Nat) (T : Nat → Prop) (hBx : w0.cell? ⟨Bx, 0, none⟩ = some (.pointer none)) (hBT : ¬ T Bx)
    (J Jx : List Int → World → Prop) (W : World) (hW : KS T w0 W) (h0 : J [] W) :
    CallsIn Fence.wide m Try.prog 28 #[.func (.yield lp) #[] #[], .pointer (some ⟨Bx, 0, none⟩)] W fun e W' => (∃ v, e = .returned v) ∧
      ((∃ ys, ys = [] ∧ J ys W') ∨ (∃ pre, pre <+: [] ∧ Jx pre W')) := by
  have cbx := hW.cell hBT hBx
  clear hBx hBT hW
  refine callsIn_of_wp Try.func28 rfl trivial ?_ rfl
  simp only [Try.ntmps28, List.size_toArray, List.length_cons, List.length_nil, Nat.reduceAdd, Nat.reduceSub, Array.replicate_succ, Array.replicate_zero, List.push_toArray, List.append_toArray, List.nil_append, List.cons_append]
  gi_wp2
  refine bodyPost_ret (results_none rfl _ _ _) rfl ?_
  exact ⟨⟨_, rfl⟩, .inl ⟨_, rfl, h0⟩⟩
/-- A pointer to a window that holds l (none: nothing). -/
structure PtrW (T : Nat → Prop) (w0 : World) (p : Option Addr) (l : List Int) : Prop where
  ex : (p = none ∧ l = []) ∨ ∃ b A c, p = some ⟨b, 0, none⟩ ∧ w0.cell? ⟨b, 2, none⟩ = some (.slice A l.length c) ∧ ¬ T b ∧ ∀ W, KS T w0 W → Cells W A (i64s l)
theorem all_seq (m : Nat) (hm : 1 ≤ m) (w0 : World) (Bx : Nat) (p : Option Addr) (l : List Int) (n : Nat) (en : l.length = n) (h200 : n ≤ 200) (T : Nat → Prop) (hBx : w0.cell? ⟨Bx, 0, none⟩ = some (.pointer p)) (hBT : ¬ T Bx) (hp : PtrW T w0 p l) :
    SeqE Fence.wide m Try.prog 28 #[.pointer (some ⟨Bx, 0, none⟩)] enc1 T (fun ys => ys = l) (fun pre => pre <+: l) n w0 := by
  rcases hp.ex with ⟨rfl, rfl⟩ | ⟨b, A, c, rfl, h2, hbT, hR⟩
  · exact fun lp J Jx W hW _ _ _ h0 => all0_in m hm lp w0 Bx T hBx hBT J Jx W hW h0
  · rw [en] at h2
    exact fun lp J Jx W hW _ _ hY h0 => all1_in m hm lp w0 Bx b A n c l en h200 T hBx hBT h2 hbT hR J Jx W hW hY h0
theorem AllM_any (p : Option Addr) (w : World) :
    Calls Try.prog 23 #[.pointer p] w (fun e w' => e = .returned (.func (.func 28) #[] #[.pointer (some ⟨w.heap.size, 0, none⟩)]) ∧
      Below w.heap.size w w' ∧ w'.heap.size = w.heap.size + 1 ∧ w'.cell? ⟨w.heap.size, 0, none⟩ = some (.pointer p)) := by
  go_enter Try.func23, Try.ntmps23
  go_wp2
  go_ret
  exact ⟨rfl, (Below.refl _ w).alloc (Nat.le_refl _) _, by simp, by simp [go_sem]⟩
end Go.Proofs.Ytplkekmegonenaa
