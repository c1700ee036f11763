/-
  Layer 33: no set at all; and the spans one by one, where a round may grow rows. No condition.
-/
import Derived.Test.YtjihhpipdhhjkaaSpZ
import Derived.Test.YtjihhpipdhhjkaaRangeJ
import Derived.WalkKit
namespace Go.Proofs.Ytjihhpipdhhjkaa
open Go.RowKit
attribute [local go_sem] Oper.semAt_some
theorem Gap_nil (a b : Int) (hab : a < b) (w : World) : Calls Try.prog 10 #[.pointer none, .int .i64 a, .int .i64 b] w (Gives (.tuple #[.int .i64 0, .int .i64 0, .bool false]) w) := by
  go_enter Try.func10, Try.ntmps10
  go_wp2
  go_ret3
  exact Gives.mk rfl (by (repeat (first | exact Below.refl _ _ | refine RowKit.Below.past ?_ _ | refine RowKit.Below.alloc' ?_ _ | refine RowKit.Below.drew' ?_ | refine RowKit.Below.drewN' ?_ _ | refine RowKit.Below.setCell' ?_ (by simp [go_sem]) _)))
theorem Add_nil (a b : Int) (w : World) : Calls Try.prog 9 #[.pointer none, .int .i64 a, .int .i64 b] w (Gives (.bool false) w) := by
  go_enter Try.func9, Try.ntmps9
  go_wp2
  go_ret
  exact Gives.mk rfl (by (repeat (first | exact Below.refl _ _ | refine RowKit.Below.past ?_ _ | refine RowKit.Below.alloc' ?_ _ | refine RowKit.Below.drew' ?_ | refine RowKit.Below.drewN' ?_ _ | refine RowKit.Below.setCell' ?_ (by simp [go_sem]) _)))
theorem Cut_nil (a b : Int) (w : World) : Calls Try.prog 13 #[.pointer none, .int .i64 a, .int .i64 b] w (Gives (.bool false) w) := by
  go_enter Try.func13, Try.ntmps13
  go_wp2
  go_ret
  exact Gives.mk rfl (by (repeat (first | exact Below.refl _ _ | refine RowKit.Below.past ?_ _ | refine RowKit.Below.alloc' ?_ _ | refine RowKit.Below.drew' ?_ | refine RowKit.Below.drewN' ?_ _ | refine RowKit.Below.setCell' ?_ (by simp [go_sem]) _)))
theorem Has_nil (a : Int) (w : World) : Calls Try.prog 11 #[.pointer none, .int .i64 a] w (Gives (.bool false) w) := by
  go_enter Try.func11, Try.ntmps11
  go_wp2
  go_ret
  exact Gives.mk rfl (by (repeat (first | exact Below.refl _ _ | refine RowKit.Below.past ?_ _ | refine RowKit.Below.alloc' ?_ _ | refine RowKit.Below.drew' ?_ | refine RowKit.Below.drewN' ?_ _ | refine RowKit.Below.setCell' ?_ (by simp [go_sem]) _)))
theorem Len_nil (w : World) : Calls Try.prog 17 #[.pointer none] w (Gives (.int .i64 0) w) := by
  go_enter Try.func17, Try.ntmps17
  go_wp2
  go_ret
  exact Gives.mk rfl (by (repeat (first | exact Below.refl _ _ | refine RowKit.Below.past ?_ _ | refine RowKit.Below.alloc' ?_ _ | refine RowKit.Below.drew' ?_ | refine RowKit.Below.drewN' ?_ _ | refine RowKit.Below.setCell' ?_ (by simp [go_sem]) _)))
set_option maxRecDepth 100000 in
set_option maxHeartbeats 1000000 in
theorem all_seqJ (m : Nat) (hm : 1 ≤ m) (w0 : World) (Bx b n c : Nat) (A : Option Addr) (l : List (Int × Int)) (en : l.length = n) (T : Nat → Prop) (hBx : w0.cell? ⟨Bx, 0, none⟩ = some (.pointer (some ⟨b, 0, none⟩))) (hBT : ¬ T Bx) (hl : n ≤ 100000)
    (hR : ∀ W, KS (fun k => T k ∨ w0.heap.size ≤ k) w0 W → W.cell? ⟨b, 0, none⟩ = some (.slice A n c) ∧ Cells W A (tab pcV l)) (N : Nat) :
    SeqJ Fence.wide m Try.prog 30 #[.pointer (some ⟨Bx, 0, none⟩)] encP T (fun pre => pre <+: l) (fun ys => ys = l) (fun pre => pre <+: l) N w0 := by
  intro lp J Jx W hW hJ _ _ hY h0
  have cbx := hW.cell hBT hBx
  have hWX : KS (fun k => T k ∨ w0.heap.size ≤ k) w0 W := hW.mono fun k h => .inl h
  have q1 := (hR W hWX).1
  have hsz := hW.size
  have KR := hid (fun wr (hk : KS (fun k => T k ∨ w0.heap.size ≤ k) W wr) => (hR wr (hWX.trans hk)).2)
  have HOT := hid (fun (k : Nat) (h : OT T w0.heap.size W.heap.size (fun _ => False) k) => (show T k ∨ w0.heap.size ≤ k by
    rcases h with (h | h) | h
    · exact .inl h
    · exact .inr h.1
    · exact .inr (by omega)))
  have HY := hid hY
  have HJ := hid hJ
  have EN := hid en
  have H0 := hid (h0 (fun _ => False) W (fun _ h => h.elim) (Below.refl _ _))
  clear hBx hBT hJ hY hW hR en hWX h0
  refine callsIn_of_wp Try.func30 rfl trivial ?_ rfl
  simp only [Try.ntmps30, List.size_toArray, List.length_cons, List.length_nil, Nat.reduceAdd, Nat.reduceSub, Array.replicate_succ, Array.replicate_zero, List.push_toArray, List.append_toArray, List.nil_append, List.cons_append]
  gi_wp2
  clear cbx q1
  gi_loopw [12] (fun i wr => ∃ (k : Nat), i = .int .i64 k ∧ k ≤ n ∧ Hid (J (fun _ => False) (l.take k) wr) ∧ KS (fun k => T k ∨ w0.heap.size ≤ k) W wr) (fun i _ => n - natI i)
  case atStart => exact ⟨0, rfl, by omega, H0, KS.refl _ _⟩
  case round =>
    clear H0
    obtain ⟨k, rfl, hk, hJ, hS⟩ := hrel
    by_cases hlt : k < n
    · obtain ⟨g, o, rfl, c0, c1⟩ := pc_at (KR.out wr hS) (k := k) (by rw [EN.out]; exact hlt)
      have HNX := hid (take_pc (l := l) (k := k) (by rw [EN.out]; exact hlt))
      obtain ⟨x, ex⟩ : ∃ x, pc l k = x := ⟨_, rfl⟩
      rw [ex] at c0 c1 HNX
      clear ex
      have hpre : l.take k ++ [x] <+: l := by rw [← HNX.out]; exact List.take_prefix _ _
      have hJ9 := HJ.out (fun _ => False) (fun _ => False) _ _ (wr.alloc (.cells #[.int .i64 x.1, .int .i64 x.2] 64)) (fun _ h => h.elim) (fun _ h => h.elim) hJ.out (KS.of_below ((Below.refl _ wr).alloc (Nat.le_refl _) _))
      have hK9 : KS (fun k => T k ∨ w0.heap.size ≤ k) W (wr.alloc (.cells #[.int .i64 x.1, .int .i64 x.2] 64)) := hS.trans (KS.of_below ((Below.refl _ wr).alloc (Nat.le_refl _) _))
      obtain ⟨fy, ty, asy, bdy, hyy, hRy⟩ := HY.out (fun _ => False) (l.take k) x _ (fun _ h => h.elim) hK9.size hJ9 hpre
      rw [← HNX.out] at hRy hpre
      simp only [encP] at hyy hRy
      have HRY := hid hRy
      have HPRE := hid hpre
      have HK9 := hid hK9
      clear hRy hJ HNX hpre hJ9 hK9 KR
      gi_wp2_with ((refine HRY.out.mono ?_; rintro e W3 hE; obtain ⟨bb, eE, hE2⟩ := yield_two hE; clear hE; subst eE))
      · rename_i hb
        rcases hE2 with ⟨rfl, _⟩ | ⟨rfl, hJx, _⟩
        · cases hb
        · refine bodyPost_ret (results_none rfl _ _ _) rfl ?_
          exact ⟨⟨_, rfl⟩, .inr ⟨_, _, fun _ h => h.elim, HPRE.out, hJx⟩⟩
      · rename_i hb
        rcases hE2 with ⟨rfl, hJ3, hk3⟩ | ⟨rfl, _⟩
        · have HJ3 := hid hJ3
          have HK3 := hid (HK9.out.trans (hk3.mono HOT.out))
          clear hJ3 hk3
          go_roundw
          case rel => exact ⟨k + 1, by go_num, by omega, HJ3, HK3.out⟩
          case measure => simp [natI]; omega
        · cases hb
    · obtain rfl : k = n := by omega
      have HTA := hid (show l.take k = l from List.take_of_length_le (by rw [EN.out]; omega))
      gi_wp2
      go_end0
      exact ⟨⟨_, rfl⟩, .inl ⟨_, _, fun _ h => h.elim, HTA.out, hJ.out⟩⟩
end Go.Proofs.Ytjihhpipdhhjkaa
