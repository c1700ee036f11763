/-
  Layer 02: the product's object with pairs: a new one, and the loop over its values. (Printed by mk2.py out of AreB, AreC, All.) No condition.
-/
import Derived.Test.YtgaenonggnkknaaLeaS
namespace Go.Proofs.Ytgaenonggnkknaa
open Go.RowKit
attribute [local go_sem] Oper.semAt_some
abbrev vP (x : P2) : List Value := [.int .i64 x.1, .int .i64 x.2]
abbrev ArT := @ArAt P2 68 70 vP 2
abbrev RdT := @ArRd P2 68 70 vP 2
/-- An element's three cells. -/
theorem TrdI_at {w : World} {b : Nat} {A : Option Addr} {l : List (Slot P2)} (h : Cells w A (tab (slV vP) l)) {k : Nat} (hk : k < l.length) : ∃ g o : Nat, A = some ⟨g, o, none⟩ ∧
    w.cell? ⟨g, o + k * 4, none⟩ = some (.int .i64 (slotA z2 l k).1.1) ∧ w.cell? ⟨g, o + k * 4 + 1, none⟩ = some (.int .i64 (slotA z2 l k).1.2) ∧ w.cell? ⟨g, o + k * 4 + 2, none⟩ = some (.bool (slotA z2 l k).2.1) ∧ w.cell? ⟨g, o + k * 4 + 3, none⟩ = some (.int .i64 (slotA z2 l k).2.2) := by
  obtain ⟨g, o, e, hc⟩ := h.tab_at (slV_length (c := 2) (fun _ => rfl)) (slot_at (z := z2) hk) (by omega)
  exact ⟨g, o, e, hc 0 _ rfl, hc 1 _ rfl, hc 2 _ rfl, hc 3 _ rfl⟩
theorem TNew_any (B : Nat) (most : Int) (w : World) (hB : B ≤ w.heap.size) :
    Calls Try.prog 20 #[.int .i64 most] w (fun e w' => ∃ b, e = .returned (.pointer (some ⟨b, 0, none⟩)) ∧ ArT B w' b (mostA most) ⟨[], 0, 0⟩ ∧ Below w.heap.size w w') := by
  obtain ⟨m, hm⟩ : ∃ m, mostA most = m := ⟨_, rfl⟩
  rw [hm]
  have key : ∀ W : World, W = w.alloc (.cells #[.int .i64 m, .slice none 0 0, .int .i64 0, .int .i64 0] 68) → ArT B W w.heap.size m ⟨[], 0, 0⟩ ∧ Below w.heap.size w W := by
    rintro _ rfl
    exact ⟨⟨hB, none, 0, Rec.new w _ _, rfl, .inl ⟨rfl, rfl⟩⟩, (Below.refl _ w).alloc (Nat.le_refl _) _⟩
  have K := hid key
  unfold mostA at hm
  clear key
  by_cases h1 : most < 0
  · obtain rfl : m = 0 := by omega
    clear hm
    go_enter Try.func20, Try.ntmps20
    go_wp2
    go_ret
    exact ⟨_, rfl, K.out _ rfl⟩
  · by_cases h2 : 4096 < most
    · obtain rfl : m = 4096 := by omega
      clear hm
      have h3 : 0 ≤ most := by omega
      go_enter Try.func20, Try.ntmps20
      go_wp2
      go_ret
      exact ⟨_, rfl, K.out _ rfl⟩
    · obtain rfl : m = most := by omega
      clear hm
      have h3 : 0 ≤ m := by omega
      have h4 : m ≤ 4096 := by omega
      go_enter Try.func20, Try.ntmps20
      go_wp2
      go_ret
      exact ⟨_, rfl, K.out _ rfl⟩
def encP (x : Int × P2) : Array Value := #[.int .i64 x.1, .agg #[.int .i64 x.2.1, .int .i64 x.2.2]]
set_option maxRecDepth 100000 in
set_option maxHeartbeats 1000000 in
theorem Tall1_in (m : Nat) (hm : 1 ≤ m) (lp : Nat) (w0 : World) (Bx b : Nat) (most : Int) (S : Ar P2) (T : Nat → Prop) (hBx : w0.cell? ⟨Bx, 0, none⟩ = some (.pointer (some ⟨b, 0, none⟩))) (hBT : ¬ T Bx) (h300 : S.l.length ≤ 300) (hR : ∀ W, KS T w0 W → RdT W b most S)
    (J Jx : List (Int × P2) → World → Prop) (W : World) (hW : KS T w0 W)
    (hJ : ∀ s A B, J s A → Below W.heap.size A B → J s B)
    (hY : ∀ pre x W1, W.heap.size ≤ W1.heap.size → J pre W1 → pre.length < (allA (z := z2) S.l S.l.length).length → pre ++ [x] <+: allA (z := z2) S.l S.l.length → YieldAt Fence.wide (m - 1) Try.prog lp (encP x) W1 fun e W' =>
      (e = .returned (.bool true) ∧ J (pre ++ [x]) W' ∧ KS (TT T w0.heap.size W.heap.size) W1 W') ∨ (e = .returned (.bool false) ∧ Jx (pre ++ [x]) W' ∧ KS (TT T w0.heap.size W.heap.size) W1 W'))
    (h0 : J [] W) :
    CallsIn Fence.wide m Try.prog 31 #[.func (.yield lp) #[] #[], .pointer (some ⟨Bx, 0, none⟩)] W fun e W' => (∃ v, e = .returned v) ∧
      ((∃ ys, ys = allA (z := z2) S.l S.l.length ∧ J ys W') ∨ (∃ pre, pre <+: allA (z := z2) S.l S.l.length ∧ Jx pre W')) := by
  have cbx := hW.cell hBT hBx
  have KR := hid (fun wr (hk : KS (TT T w0.heap.size W.heap.size) W wr) => hR wr (hW.on hk (Nat.le_refl _)))
  have KB := hid (fun wr (hk : KS (TT T w0.heap.size W.heap.size) W wr) => (hW.on hk (Nat.le_refl _)).cell hBT hBx)
  obtain ⟨A, cp, hrec, _⟩ := (hR W hW).ex
  have q1 := Rec.cell hrec 1
  simp at q1
  have HY := hid hY
  have HJ := hid hJ
  obtain ⟨n, en⟩ : ∃ n, S.l.length = n := ⟨_, rfl⟩
  rw [en] at HY ⊢ q1 h300
  have EN := hid en
  clear hBx hBT hJ hY hW hR hrec en
  refine callsIn_of_wp Try.func31 rfl trivial ?_ rfl
  simp only [Try.ntmps31, List.size_toArray, List.length_cons, List.length_nil, Nat.reduceAdd, Nat.reduceSub, Array.replicate_succ, Array.replicate_zero, List.push_toArray, List.append_toArray, List.nil_append, List.cons_append]
  gi_wp2
  clear cbx q1
  gi_loopw [12] (fun i wr => ∃ (k : Nat), i = .int .i64 k ∧ k ≤ n ∧ J (allA (z := z2) S.l k) wr ∧ KS (TT T w0.heap.size W.heap.size) W wr) (fun i _ => n - numOf i)
  case atStart => exact ⟨0, rfl, by omega, h0, KS.refl _ _⟩
  case round =>
    clear h0
    obtain ⟨k, rfl, hk, hJ, hS⟩ := hrel
    by_cases hlt : k < n
    · have cbx := KB.out wr hS
      obtain ⟨A, cp, hrec, hc⟩ := (KR.out wr hS).ex
      obtain ⟨g, o, rfl, c0, c0', c1, c2⟩ := TrdI_at (b := b) hc (k := k) (by rw [EN.out]; exact hlt)
      have q1 := Rec.cell hrec 1
      simp at q1
      rw [EN.out] at q1
      have HNX := hid (show allA (z := z2) S.l (k + 1) = allA (z := z2) S.l k ++ (if (slotA z2 S.l k).2.1 then [((k : Int), (slotA z2 S.l k).1)] else []) from rfl)
      have hpre := all_pre (z := z2) S.l (show k + 1 ≤ n by omega)
      obtain ⟨x, ex⟩ : ∃ x, slotA z2 S.l k = x := ⟨_, rfl⟩
      obtain ⟨⟨va, vb⟩, on, nx⟩ := x
      rw [ex] at c0 c0' c1 c2 HNX
      clear ex hc hrec
      have hKA : ∀ o, KS (TT T w0.heap.size W.heap.size) wr (wr.alloc o) := fun o => KS.of_below ((Below.refl _ wr).alloc (Nat.le_refl _) o)
      cases on with
      | true =>
        have HN2 := hid (show allA (z := z2) S.l (k + 1) = allA (z := z2) S.l k ++ [((k : Int), ((va, vb) : P2))] from HNX.out)
        rw [HN2.out] at hpre
        have hlo := hS.size
        have hJ9 := HJ.out _ _ _ hJ ((Below.refl _ wr).alloc hlo (.cells #[.int .i64 va, .int .i64 vb, .bool true, .int .i64 nx] 70))
        have hK9 := hS.trans (hKA (.cells #[.int .i64 va, .int .i64 vb, .bool true, .int .i64 nx] 70))
        obtain ⟨fy, ty, asy, bdy, hyy, hRy⟩ := HY.out (allA (z := z2) S.l k) ((k : Int), ((va, vb) : P2)) _ hK9.size hJ9 (prefix_length hpre) hpre
        rw [← HN2.out] at hRy hpre
        simp only [encP] at hyy hRy
        have HRY := hid hRy
        have HPRE := hid hpre
        have HK9 := hid hK9
        clear hRy hJ HNX HN2 hpre hJ9 hK9 hKA KB KR
        gi_wp2_with ((refine HRY.out.mono ?_; rintro e W3 hE; obtain ⟨bb, eE, hE2⟩ := yield_two hE; clear hE; subst eE))
        · rename_i hb
          rcases hE2 with ⟨rfl, _⟩ | ⟨rfl, hJx, _⟩
          · cases hb
          · refine bodyPost_ret (results_none rfl _ _ _) rfl ?_
            exact ⟨⟨_, rfl⟩, .inr ⟨_, HPRE.out, hJx⟩⟩
        · rename_i hb
          rcases hE2 with ⟨rfl, hJ3, hk3⟩ | ⟨rfl, _⟩
          · go_roundw
            case rel => exact ⟨k + 1, by go_num, by omega, hJ3, HK9.out.trans hk3⟩
            case measure => simp [numOf]; omega
          · cases hb
      | false =>
        have HN2 := hid (show allA (z := z2) S.l (k + 1) = allA (z := z2) S.l k by rw [HNX.out]; simp)
        clear HNX hpre
        gi_wp2
        go_roundw
        case rel => exact ⟨k + 1, by go_num, by omega, by rw [HN2.out]; exact HJ.out _ _ _ hJ ((Below.refl _ wr).alloc hS.size _), hS.trans (hKA _)⟩
        case measure => simp [numOf]; omega
    · obtain rfl : k = n := by omega
      gi_wp2
      go_end0
      exact ⟨⟨_, rfl⟩, .inl ⟨_, rfl, hJ⟩⟩
theorem Tall_seq (m : Nat) (hm : 1 ≤ m) (w0 : World) (Bx b : Nat) (most : Int) (S : Ar P2) (T : Nat → Prop) (hBx : w0.cell? ⟨Bx, 0, none⟩ = some (.pointer (some ⟨b, 0, none⟩))) (hBT : ¬ T Bx) (h300 : S.l.length ≤ 300) (hR : ∀ W, KS T w0 W → RdT W b most S) :
    SeqE Fence.wide m Try.prog 31 #[.pointer (some ⟨Bx, 0, none⟩)] encP T (fun ys => ys = allA (z := z2) S.l S.l.length) (fun pre => pre <+: allA (z := z2) S.l S.l.length) (allA (z := z2) S.l S.l.length).length w0 :=
  fun lp J Jx W hW hJ _ hY h0 => Tall1_in m hm lp w0 Bx b most S T hBx hBT h300 hR J Jx W hW hJ hY h0
theorem TAll_any (bp : Option Addr) (w : World) :
    Calls Try.prog 22 #[.pointer bp] w (fun e w' => e = .returned (.func (.func 31) #[] #[.pointer (some ⟨w.heap.size, 0, none⟩)]) ∧
      Below w.heap.size w w' ∧ w'.heap.size = w.heap.size + 1 ∧ w'.cell? ⟨w.heap.size, 0, none⟩ = some (.pointer bp)) := by
  go_enter Try.func22, Try.ntmps22
  go_wp2
  go_ret
  exact ⟨rfl, (Below.refl _ w).alloc (Nat.le_refl _) _, by simp, by simp [go_sem]⟩
end Go.Proofs.Ytgaenonggnkknaa
