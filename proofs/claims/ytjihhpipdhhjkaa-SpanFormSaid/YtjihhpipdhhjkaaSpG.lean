/-
  Layer 33: the spans, one by one: the iterator's contract. No condition.
-/
import Derived.Test.YtjihhpipdhhjkaaSpF
import Derived.Test.YtjihhpipdhhjkaaRangeE
import Derived.Test.YtjihhpipdhhjkaaPastIn
import Derived.RangeFuncBox
import Derived.RangeFuncLeaves
import Derived.WalkKit
import Derived.OwnWalkIn
import Derived.TacticsInMore
import Derived.LoopNIn
import Derived.LoopIn
namespace Go.Proofs.Ytjihhpipdhhjkaa
open Go.RowKit
attribute [local go_sem] Oper.semAt_some
theorem prefix_length {α : Type} {a b : List α} {x : α} (h : a ++ [x] <+: b) : a.length < b.length := by
  have := h.length_le
  simp at this
  omega
theorem yield_two {e : Ending} {p q : Prop} (h : (e = .returned (.bool true) ∧ p) ∨ (e = .returned (.bool false) ∧ q)) : ∃ bb : Bool, e = .returned (.bool bb) ∧ ((bb = true ∧ p) ∨ (bb = false ∧ q)) := by
  rcases h with ⟨h, hp⟩ | ⟨h, hq⟩
  · exact ⟨true, h, .inl ⟨rfl, hp⟩⟩
  · exact ⟨false, h, .inr ⟨rfl, hq⟩⟩
def encP (x : Int × Int) : Array Value := #[.int .i64 x.1, .int .i64 x.2]
theorem take_pc {l : List (Int × Int)} {k : Nat} (h : k < l.length) : l.take (k + 1) = l.take k ++ [pc l k] := by
  rw [List.take_succ_eq_append_getElem h]; simp [pc, h]
set_option maxRecDepth 100000 in
set_option maxHeartbeats 1000000 in
theorem all_seq (m : Nat) (hm : 1 ≤ m) (w0 : World) (Bx b n c : Nat) (A : Option Addr) (l : List (Int × Int)) (en : l.length = n) (T : Nat → Prop) (hBx : w0.cell? ⟨Bx, 0, none⟩ = some (.pointer (some ⟨b, 0, none⟩))) (hBT : ¬ T Bx) (hl : n ≤ 100000) (hR : ∀ W, KS T w0 W → W.cell? ⟨b, 0, none⟩ = some (.slice A n c) ∧ Cells W A (tab pcV l)) :
    SeqE Fence.wide m Try.prog 30 #[.pointer (some ⟨Bx, 0, none⟩)] encP T (fun ys => ys = l) (fun pre => pre <+: l) n w0 := by
  intro lp J Jx W hW hJ _ hY h0
  have cbx := hW.cell hBT hBx
  have q1 := (hR W hW).1
  have KR := hid (fun wr (hk : KS (TT T w0.heap.size W.heap.size) W wr) => (hR wr (hW.on hk (Nat.le_refl _))).2)
  have HY := hid hY
  have HJ := hid hJ
  have EN := hid en
  clear hBx hBT hJ hY hW hR en
  refine callsIn_of_wp Try.func30 rfl trivial ?_ rfl
  simp only [Try.ntmps30, List.size_toArray, List.length_cons, List.length_nil, Nat.reduceAdd, Nat.reduceSub, Array.replicate_succ, Array.replicate_zero, List.push_toArray, List.append_toArray, List.nil_append, List.cons_append]
  gi_wp2
  clear cbx q1
  gi_loopw [12] (fun i wr => ∃ (k : Nat), i = .int .i64 k ∧ k ≤ n ∧ J (l.take k) wr ∧ KS (TT T w0.heap.size W.heap.size) W wr) (fun i _ => n - natI i)
  case atStart => exact ⟨0, rfl, by omega, h0, KS.refl _ _⟩
  case round =>
    clear h0
    obtain ⟨k, rfl, hk, hJ, hS⟩ := hrel
    by_cases hlt : k < n
    · obtain ⟨g, o, rfl, c0, c1⟩ := pc_at (KR.out wr hS) (k := k) (by rw [EN.out]; exact hlt)
      have HNX := hid (take_pc (l := l) (k := k) (by rw [EN.out]; exact hlt))
      obtain ⟨x, ex⟩ : ∃ x, pc l k = x := ⟨_, rfl⟩
      rw [ex] at c0 c1 HNX
      clear ex
      have hpre : l.take k ++ [x] <+: l := by rw [← HNX.out]; exact List.take_prefix _ _
      have hKA : ∀ o, KS (TT T w0.heap.size W.heap.size) wr (wr.alloc o) := fun o => KS.of_below ((Below.refl _ wr).alloc (Nat.le_refl _) o)
      have hlo := hS.size
      have hJ9 := HJ.out _ _ _ hJ ((Below.refl _ wr).alloc hlo (.cells #[.int .i64 x.1, .int .i64 x.2] 64))
      have hK9 := hS.trans (hKA (.cells #[.int .i64 x.1, .int .i64 x.2] 64))
      obtain ⟨fy, ty, asy, bdy, hyy, hRy⟩ := HY.out (l.take k) x _ hK9.size hJ9 (by rw [← EN.out]; exact prefix_length hpre) hpre
      rw [← HNX.out] at hRy hpre
      simp only [encP] at hyy hRy
      have HRY := hid hRy
      have HPRE := hid hpre
      have HK9 := hid hK9
      clear hRy hJ HNX hpre hJ9 hK9 hKA KR
      gi_wp2_with ((refine HRY.out.mono ?_; rintro e W3 hE; obtain ⟨bb, eE, hE2⟩ := yield_two hE; clear hE; subst eE))
      · rename_i hb
        rcases hE2 with ⟨rfl, _⟩ | ⟨rfl, hJx, _⟩
        · cases hb
        · refine bodyPost_ret (results_none rfl _ _ _) rfl ?_
          exact ⟨⟨_, rfl⟩, .inr ⟨_, HPRE.out, hJx⟩⟩
      · rename_i hb
        rcases hE2 with ⟨rfl, hJ3, hk3⟩ | ⟨rfl, _⟩
        · go_roundw
          case rel => exact ⟨k + 1, by go_num, by omega, hJ3, HK9.out.trans hk3⟩
          case measure => simp [natI]; omega
        · cases hb
    · obtain rfl : k = n := by omega
      have HTA := hid (show l.take k = l from List.take_of_length_le (by rw [EN.out]; omega))
      gi_wp2
      go_end0
      exact ⟨⟨_, rfl⟩, .inl ⟨_, HTA.out, hJ⟩⟩
/-- Of no set. -/
theorem all_nil_seq (m : Nat) (hm : 1 ≤ m) (w0 : World) (Bx : Nat) (T : Nat → Prop) (hBx : w0.cell? ⟨Bx, 0, none⟩ = some (.pointer none)) (hBT : ¬ T Bx) :
    SeqE Fence.wide m Try.prog 30 #[.pointer (some ⟨Bx, 0, none⟩)] encP T (fun ys => ys = []) (fun _ => False) 0 w0 := by
  intro lp J Jx W hW hJ _ hY h0
  have cbx := hW.cell hBT hBx
  clear hBx hBT hJ hY hW
  refine callsIn_of_wp Try.func30 rfl trivial ?_ rfl
  simp only [Try.ntmps30, List.size_toArray, List.length_cons, List.length_nil, Nat.reduceAdd, Nat.reduceSub, Array.replicate_succ, Array.replicate_zero, List.push_toArray, List.append_toArray, List.nil_append, List.cons_append]
  gi_wp2
  refine bodyPost_ret (results_none rfl _ _ _) rfl ?_
  exact ⟨⟨_, rfl⟩, .inl ⟨_, rfl, h0⟩⟩
theorem All_any (bp : Option Addr) (w : World) :
    Calls Try.prog 20 #[.pointer bp] w (fun e w' => e = .returned (.func (.func 30) #[] #[.pointer (some ⟨w.heap.size, 0, none⟩)]) ∧
      Below w.heap.size w w' ∧ w'.heap.size = w.heap.size + 1 ∧ w'.cell? ⟨w.heap.size, 0, none⟩ = some (.pointer bp)) := by
  go_enter Try.func20, Try.ntmps20
  go_wp2
  go_ret
  exact ⟨rfl, (Below.refl _ w).alloc (Nat.le_refl _) _, by simp, by simp [go_sem]⟩
end Go.Proofs.Ytjihhpipdhhjkaa
