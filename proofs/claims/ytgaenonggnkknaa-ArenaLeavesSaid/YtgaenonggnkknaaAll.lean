/-
  Layer 02: the values, by places, one by one: the iterator's contract. No condition.
-/
import Derived.Test.YtgaenonggnkknaaAwk
import Derived.Test.YtgaenonggnkknaaRangeE
import Derived.Test.YtgaenonggnkknaaPastIn
import Derived.RangeFuncBox
import Derived.RangeFuncLeaves
import Derived.WalkKit
import Derived.OwnWalkIn
import Derived.TacticsInMore
import Derived.LoopNIn
import Derived.LoopIn
namespace Go.Proofs.Ytgaenonggnkknaa
open Go.RowKit
attribute [local go_sem] Oper.semAt_some
theorem all_pre {α : Type} {z : α} (l : List (Slot α)) {j m : Nat} (h : j ≤ m) : allA (z := z) l j <+: allA (z := z) l m := by
  induction m with
  | zero => obtain rfl : j = 0 := by omega
            exact List.prefix_refl _
  | succ m ih =>
    by_cases e : j = m + 1
    · subst e; exact List.prefix_refl _
    · exact (ih (by omega)).trans (List.prefix_append _ _)
theorem prefix_length {α : Type} {a b : List α} {x : α} (h : a ++ [x] <+: b) : a.length < b.length := by
  have := h.length_le
  simp at this
  omega
theorem yield_two {e : Ending} {p q : Prop} (h : (e = .returned (.bool true) ∧ p) ∨ (e = .returned (.bool false) ∧ q)) : ∃ bb : Bool, e = .returned (.bool bb) ∧ ((bb = true ∧ p) ∨ (bb = false ∧ q)) := by
  rcases h with ⟨h, hp⟩ | ⟨h, hq⟩
  · exact ⟨true, h, .inl ⟨rfl, hp⟩⟩
  · exact ⟨false, h, .inr ⟨rfl, hq⟩⟩
def numOf : Value → Nat | .int _ z => z.toNat | _ => 0
def encI (x : Int × Int) : Array Value := #[.int .i64 x.1, .int .i64 x.2]
set_option maxRecDepth 100000 in
set_option maxHeartbeats 1000000 in
theorem all1_in (m : Nat) (hm : 1 ≤ m) (lp : Nat) (w0 : World) (Bx b : Nat) (most : Int) (S : Ar Int) (T : Nat → Prop) (hBx : w0.cell? ⟨Bx, 0, none⟩ = some (.pointer (some ⟨b, 0, none⟩))) (hBT : ¬ T Bx) (h300 : S.l.length ≤ 300) (hR : ∀ W, KS T w0 W → RdI W b most S)
    (J Jx : List (Int × Int) → World → Prop) (W : World) (hW : KS T w0 W)
    (hJ : ∀ s A B, J s A → Below W.heap.size A B → J s B)
    (hY : ∀ pre x W1, W.heap.size ≤ W1.heap.size → J pre W1 → pre.length < (allA (z := (0 : Int)) S.l S.l.length).length → pre ++ [x] <+: allA (z := 0) S.l S.l.length → YieldAt Fence.wide (m - 1) Try.prog lp (encI x) W1 fun e W' =>
      (e = .returned (.bool true) ∧ J (pre ++ [x]) W' ∧ KS (TT T w0.heap.size W.heap.size) W1 W') ∨ (e = .returned (.bool false) ∧ Jx (pre ++ [x]) W' ∧ KS (TT T w0.heap.size W.heap.size) W1 W'))
    (h0 : J [] W) :
    CallsIn Fence.wide m Try.prog 30 #[.func (.yield lp) #[] #[], .pointer (some ⟨Bx, 0, none⟩)] W fun e W' => (∃ v, e = .returned v) ∧
      ((∃ ys, ys = allA (z := 0) S.l S.l.length ∧ J ys W') ∨ (∃ pre, pre <+: allA (z := 0) S.l S.l.length ∧ Jx pre W')) := by
  have cbx := hW.cell hBT hBx
  have KR := hid (fun wr (hk : KS (TT T w0.heap.size W.heap.size) W wr) => hR wr (hW.on hk (Nat.le_refl _)))
  have KB := hid (fun wr (hk : KS (TT T w0.heap.size W.heap.size) W wr) => (hW.on hk (Nat.le_refl _)).cell hBT hBx)
  obtain ⟨A, cp, hrec, _⟩ := (hR W hW).ex
  have q1 := Rec.cell hrec 1
  simp at q1
  have HY := hid hY
  have HJ := hid hJ
  obtain ⟨n, en⟩ : ∃ n, S.l.length = n := ⟨_, rfl⟩
  rw [en] at HY ⊢ q1 h300
  have EN := hid en
  clear hBx hBT hJ hY hW hR hrec en
  refine callsIn_of_wp Try.func30 rfl trivial ?_ rfl
  simp only [Try.ntmps30, List.size_toArray, List.length_cons, List.length_nil, Nat.reduceAdd, Nat.reduceSub, Array.replicate_succ, Array.replicate_zero, List.push_toArray, List.append_toArray, List.nil_append, List.cons_append]
  gi_wp2
  clear cbx q1
  gi_loopw [12] (fun i wr => ∃ (k : Nat), i = .int .i64 k ∧ k ≤ n ∧ J (allA (z := 0) S.l k) wr ∧ KS (TT T w0.heap.size W.heap.size) W wr) (fun i _ => n - numOf i)
  case atStart => exact ⟨0, rfl, by omega, h0, KS.refl _ _⟩
  case round =>
    clear h0
    obtain ⟨k, rfl, hk, hJ, hS⟩ := hrel
    by_cases hlt : k < n
    · have cbx := KB.out wr hS
      obtain ⟨A, cp, hrec, hc⟩ := (KR.out wr hS).ex
      obtain ⟨g, o, rfl, c0, c1, c2⟩ := rdI_at (b := b) hc (k := k) (by rw [EN.out]; exact hlt)
      have q1 := Rec.cell hrec 1
      simp at q1
      rw [EN.out] at q1
      have HNX := hid (show allA (z := (0 : Int)) S.l (k + 1) = allA (z := 0) S.l k ++ (if (slotA 0 S.l k).2.1 then [((k : Int), (slotA 0 S.l k).1)] else []) from rfl)
      have hpre := all_pre (z := (0 : Int)) S.l (show k + 1 ≤ n by omega)
      obtain ⟨x, ex⟩ : ∃ x, slotA 0 S.l k = x := ⟨_, rfl⟩
      obtain ⟨v, on, nx⟩ := x
      rw [ex] at c0 c1 c2 HNX
      clear ex hc hrec
      have hKA : ∀ o, KS (TT T w0.heap.size W.heap.size) wr (wr.alloc o) := fun o => KS.of_below ((Below.refl _ wr).alloc (Nat.le_refl _) o)
      cases on with
      | true =>
        have HN2 := hid (show allA (z := (0 : Int)) S.l (k + 1) = allA (z := 0) S.l k ++ [((k : Int), v)] from HNX.out)
        rw [HN2.out] at hpre
        have hlo := hS.size
        have hJ9 := HJ.out _ _ _ hJ ((Below.refl _ wr).alloc hlo (.cells #[.int .i64 v, .bool true, .int .i64 nx] 65))
        have hK9 := hS.trans (hKA (.cells #[.int .i64 v, .bool true, .int .i64 nx] 65))
        obtain ⟨fy, ty, asy, bdy, hyy, hRy⟩ := HY.out (allA (z := 0) S.l k) ((k : Int), v) _ hK9.size hJ9 (prefix_length hpre) hpre
        rw [← HN2.out] at hRy hpre
        simp only [encI] at hyy hRy
        have HRY := hid hRy
        have HPRE := hid hpre
        have HK9 := hid hK9
        clear hRy hJ HNX HN2 hpre hJ9 hK9 hKA KB KR
        gi_wp2_with ((refine HRY.out.mono ?_; rintro e W3 hE; obtain ⟨bb, eE, hE2⟩ := yield_two hE; clear hE; subst eE))
        · rename_i hb
          rcases hE2 with ⟨rfl, _⟩ | ⟨rfl, hJx, _⟩
          · cases hb
          · refine bodyPost_ret (results_none rfl _ _ _) rfl ?_
            exact ⟨⟨_, rfl⟩, .inr ⟨_, HPRE.out, hJx⟩⟩
        · rename_i hb
          rcases hE2 with ⟨rfl, hJ3, hk3⟩ | ⟨rfl, _⟩
          · go_roundw
            case rel => exact ⟨k + 1, by go_num, by omega, hJ3, HK9.out.trans hk3⟩
            case measure => simp [numOf]; omega
          · cases hb
      | false =>
        have HN2 := hid (show allA (z := (0 : Int)) S.l (k + 1) = allA (z := 0) S.l k by rw [HNX.out]; simp)
        clear HNX hpre
        gi_wp2
        go_roundw
        case rel => exact ⟨k + 1, by go_num, by omega, by rw [HN2.out]; exact HJ.out _ _ _ hJ ((Below.refl _ wr).alloc hS.size _), hS.trans (hKA _)⟩
        case measure => simp [numOf]; omega
    · obtain rfl : k = n := by omega
      gi_wp2
      go_end0
      exact ⟨⟨_, rfl⟩, .inl ⟨_, rfl, hJ⟩⟩
theorem all_seq (m : Nat) (hm : 1 ≤ m) (w0 : World) (Bx b : Nat) (most : Int) (S : Ar Int) (T : Nat → Prop) (hBx : w0.cell? ⟨Bx, 0, none⟩ = some (.pointer (some ⟨b, 0, none⟩))) (hBT : ¬ T Bx) (h300 : S.l.length ≤ 300) (hR : ∀ W, KS T w0 W → RdI W b most S) :
    SeqE Fence.wide m Try.prog 30 #[.pointer (some ⟨Bx, 0, none⟩)] encI T (fun ys => ys = allA (z := (0 : Int)) S.l S.l.length) (fun pre => pre <+: allA (z := (0 : Int)) S.l S.l.length) (allA (z := (0 : Int)) S.l S.l.length).length w0 :=
  fun lp J Jx W hW hJ _ hY h0 => all1_in m hm lp w0 Bx b most S T hBx hBT h300 hR J Jx W hW hJ hY h0
theorem All_any (bp : Option Addr) (w : World) :
    Calls Try.prog 19 #[.pointer bp] w (fun e w' => e = .returned (.func (.func 30) #[] #[.pointer (some ⟨w.heap.size, 0, none⟩)]) ∧
      Below w.heap.size w w' ∧ w'.heap.size = w.heap.size + 1 ∧ w'.cell? ⟨w.heap.size, 0, none⟩ = some (.pointer bp)) := by
  go_enter Try.func19, Try.ntmps19
  go_wp2
  go_ret
  exact ⟨rfl, (Below.refl _ w).alloc (Nat.le_refl _) _, by simp, by simp [go_sem]⟩
end Go.Proofs.Ytgaenonggnkknaa
