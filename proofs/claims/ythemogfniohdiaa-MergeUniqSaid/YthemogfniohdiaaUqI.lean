/-
  Layer 32: groups of the same ones, one by one: the contract of the iterator over a list, and of the one over an iterator. No condition.
-/
import Derived.Test.YthemogfniohdiaaAwake
import Derived.Test.YthemogfniohdiaaRangeE
import Derived.Test.YthemogfniohdiaaPastRd
import Derived.Test.YthemogfniohdiaaUqS
namespace Go.Proofs.Ythemogfniohdiaa
open Go.RowKit Go.Shelf
attribute [local go_sem] Oper.semAt_some
theorem RoundIn.any {n n' : Nat} {P : Program} {l l' : Nat} {f : FuncId} {tmps : Array Value} {assign body : Code} {w : World} {R : Ending → World → Prop} (h : RoundIn Fence.wide n P l f tmps assign body w R) : RoundIn (Fence.wide.inRound l') n' P l f tmps assign body w R :=
  ⟨trivial, fun c cs _ => h.2 c cs (room_wide _)⟩
theorem RoundIn.anyN {n n' : Nat} {P : Program} {l : Nat} {f : FuncId} {tmps : Array Value} {assign body : Code} {w : World} {R : Ending → World → Prop} (h : RoundIn Fence.wide n P l f tmps assign body w R) : RoundIn Fence.wide n' P l f tmps assign body w R :=
  ⟨trivial, fun c cs _ => h.2 c cs (room_wide _)⟩
theorem KS.onto {S S' : Nat → Prop} {A B C : World} (h : KS S A B) (k : KS S' B C) (hs : ∀ i, i < A.heap.size → S' i → S i) : KS S A C :=
  ⟨k.os.trans h.os, k.tape.trans h.tape, k.output.trans h.output, Nat.le_trans h.size k.size, fun i h1 h2 => (k.block i (Nat.lt_of_lt_of_le h1 h.size) (fun e => h2 (hs i h1 e))).trans (h.block i h1 h2)⟩
def cmpI (a b : Int) : Int := if a < b then -1 else if b < a then 1 else 0
set_option maxHeartbeats 1000000 in
theorem compare_any (a b : Int) (w : World) : Calls Try.prog 24 #[.int .i64 a, .int .i64 b] w (fun e w' => e = .returned (.int .i64 (cmpI a b)) ∧ w' = w) := by
  rcases Int.lt_trichotomy a b with h | h | h
  · have HE := hid (show cmpI a b = -1 from if_pos h)
    go_enter Try.func24, Try.ntmps24
    go_wp2_with (go_at_call 28; refine (nan_any _ _).mono ?_; rintro _ _ ⟨rfl, rfl⟩)
    go_ret
    exact ⟨by rw [HE.out]; rfl, rfl⟩
  · subst h
    have HE := hid (show cmpI a a = 0 by unfold cmpI; rw [if_neg (by omega), if_neg (by omega)])
    go_enter Try.func24, Try.ntmps24
    go_wp2_with (go_at_call 28; refine (nan_any _ _).mono ?_; rintro _ _ ⟨rfl, rfl⟩)
    go_ret
    exact ⟨by rw [HE.out]; rfl, rfl⟩
  · have h2 : ¬ a < b := by omega
    have HE := hid (show cmpI a b = 1 by unfold cmpI; rw [if_neg h2, if_pos h])
    go_enter Try.func24, Try.ntmps24
    go_wp2_with (go_at_call 28; refine (nan_any _ _).mono ?_; rintro _ _ ⟨rfl, rfl⟩)
    go_ret
    exact ⟨by rw [HE.out]; rfl, rfl⟩
theorem prefix_lengthU {α : Type} {a b : List α} {x : α} (h : a ++ [x] <+: b) : a.length < b.length := by
  have := h.length_le
  simp at this
  omega
theorem yield_twoU {e : Ending} {p q : Prop} (h : (e = .returned (.bool true) ∧ p) ∨ (e = .returned (.bool false) ∧ q)) : ∃ bb : Bool, e = .returned (.bool bb) ∧ ((bb = true ∧ p) ∨ (bb = false ∧ q)) := by
  rcases h with ⟨h, hp⟩ | ⟨h, hq⟩
  · exact ⟨true, h, .inl ⟨rfl, hp⟩⟩
  · exact ⟨false, h, .inr ⟨rfl, hq⟩⟩
def numOfU : Value → Nat | .int _ z => z.toNat | _ => 0
def enc1 (x : Int) : Array Value := #[.int .i64 x]
theorem take_next {l : List Int} {k : Nat} (h : k < l.length) : l.take (k + 1) = l.take k ++ [atL l k] := by
  rw [List.take_add_one]; simp [atL, h]
set_option maxRecDepth 100000 in
set_option maxHeartbeats 1000000 in
theorem vals1_in (m : Nat) (hm : 1 ≤ m) (lp : Nat) (w0 : World) (Bx : Nat) (A : Option Addr) (n c : Nat) (l : List Int) (en : l.length = n) (h80 : n ≤ 80) (T : Nat → Prop) (hBx : w0.cell? ⟨Bx, 0, none⟩ = some (.slice A n c)) (hBT : ¬ T Bx) (hR : ∀ W, KS T w0 W → Cells W A (i64s l))
    (J Jx : List Int → World → Prop) (W : World) (hW : KS T w0 W)
    (hY : ∀ pre x W1, W.heap.size ≤ W1.heap.size → J pre W1 → pre.length < n → pre ++ [x] <+: l → YieldAt Fence.wide (m - 1) Try.prog lp (enc1 x) W1 fun e W' =>
      (e = .returned (.bool true) ∧ J (pre ++ [x]) W' ∧ KS (TT T w0.heap.size W.heap.size) W1 W') ∨ (e = .returned (.bool false) ∧ Jx (pre ++ [x]) W' ∧ KS (TT T w0.heap.size W.heap.size) W1 W'))
    (h0 : J [] W) :
    CallsIn Fence.wide m Try.prog 29 #[.func (.yield lp) #[] #[], .pointer (some ⟨Bx, 0, none⟩)] W fun e W' => (∃ v, e = .returned v) ∧
      ((∃ ys, ys = l ∧ J ys W') ∨ (∃ pre, pre <+: l ∧ Jx pre W')) := by
  have cbx := hW.cell hBT hBx
  have KR := hid (fun wr (hk : KS (TT T w0.heap.size W.heap.size) W wr) => hR wr (hW.on hk (Nat.le_refl _)))
  have HY := hid hY
  have EN := hid en
  clear hBx hBT hY hW hR en
  refine callsIn_of_wp Try.func29 rfl trivial ?_ rfl
  simp only [Try.ntmps29, List.size_toArray, List.length_cons, List.length_nil, Nat.reduceAdd, Nat.reduceSub, Array.replicate_succ, Array.replicate_zero, List.push_toArray, List.append_toArray, List.nil_append, List.cons_append]
  gi_wp2
  clear cbx
  gi_loopw [7] (fun i wr => ∃ (k : Nat), i = .int .i64 k ∧ k ≤ n ∧ J (l.take k) wr ∧ KS (TT T w0.heap.size W.heap.size) W wr) (fun i _ => n - numOfU i)
  case atStart => exact ⟨0, rfl, by omega, by simpa using h0, KS.refl _ _⟩
  case round =>
    clear h0
    obtain ⟨k, rfl, hk, hJ, hS⟩ := hrel
    by_cases hlt : k < n
    · obtain ⟨g, o, rfl, c0⟩ := i64_at (KR.out wr hS) (k := k) (by rw [EN.out]; exact hlt)
      have hnx := take_next (l := l) (k := k) (by rw [EN.out]; exact hlt)
      have hpre : l.take k ++ [atL l k] <+: l := by rw [← hnx]; exact List.take_prefix _ _
      have hlen : (l.take k).length < n := by rw [List.length_take]; omega
      obtain ⟨fy, ty, asy, bdy, hyy, hRy⟩ := HY.out (l.take k) (atL l k) wr hS.size hJ hlen hpre
      rw [← hnx] at hRy hpre
      simp only [enc1] at hyy hRy
      obtain ⟨x, ex⟩ : ∃ x, atL l k = x := ⟨_, rfl⟩
      rw [ex] at hyy c0
      have HRY := hid hRy
      have HPRE := hid hpre
      have HS := hid hS
      clear hRy hJ hnx hpre hS ex KR
      gi_wp2_with ((refine HRY.out.mono ?_; rintro e W3 hE; obtain ⟨bb, eE, hE2⟩ := yield_twoU hE; clear hE; subst eE))
      · rename_i hb
        rcases hE2 with ⟨rfl, _⟩ | ⟨rfl, hJx, _⟩
        · cases hb
        · refine bodyPost_ret (results_none rfl _ _ _) rfl ?_
          exact ⟨⟨_, rfl⟩, .inr ⟨_, HPRE.out, hJx⟩⟩
      · rename_i hb
        rcases hE2 with ⟨rfl, hJ3, hk3⟩ | ⟨rfl, _⟩
        · go_roundw
          case rel => exact ⟨k + 1, by go_num, by omega, hJ3, HS.out.trans hk3⟩
          case measure => simp [numOfU]; omega
        · cases hb
    · obtain rfl : k = n := by omega
      gi_wp2
      go_end0
      exact ⟨⟨_, rfl⟩, .inl ⟨_, by rw [← EN.out, List.take_length], hJ⟩⟩
theorem vals_seq (m : Nat) (hm : 1 ≤ m) (w0 : World) (Bx : Nat) (A : Option Addr) (n c : Nat) (l : List Int) (en : l.length = n) (h80 : n ≤ 80) (T : Nat → Prop) (hBx : w0.cell? ⟨Bx, 0, none⟩ = some (.slice A n c)) (hBT : ¬ T Bx) (hR : ∀ W, KS T w0 W → Cells W A (i64s l)) :
    SeqE Fence.wide m Try.prog 29 #[.pointer (some ⟨Bx, 0, none⟩)] enc1 T (fun ys => ys = l) (fun pre => pre <+: l) n w0 :=
  fun lp J Jx W hW hJ _ hY h0 => vals1_in m hm lp w0 Bx A n c l en h80 T hBx hBT hR J Jx W hW hY h0
end Go.Proofs.Ythemogfniohdiaa
