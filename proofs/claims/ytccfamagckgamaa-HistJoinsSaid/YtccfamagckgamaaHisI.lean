/-
  Layer 34: the places of which some came, one by one: the iterator's contract. No condition.
-/
import Derived.Test.YtccfamagckgamaaHisU
import Derived.Test.YtccfamagckgamaaRangeE
import Derived.Test.YtccfamagckgamaaPastIn
import Derived.RangeFuncBox
import Derived.RangeFuncLeaves
import Derived.Shelf.Abstract
import Derived.WalkKit
import Derived.OwnWalkIn
import Derived.TacticsInMore
import Derived.LoopNIn
import Derived.LoopIn
namespace Go
open Go.RowKit
theorem wpListIn_load_mid {F : Fence} {n : Nat} {P : Program} {ops : Array Oper} {rest : List Oper} {op : Oper} {a : Act} {w : World} {Q : Exit → Act → World → Prop} (hgd : op.guard = none) (ty : TypeId) (x : Operand) (ho : op.op = .load ty x)
    (b o : Nat) (hx : a.eval x = .pointer (some ⟨b, o, none⟩)) (cs : List Value) (d : TypeDesc) (hc : w.rangeAt b o cs)
    (hu : P.underlying ty = some d) (hd : d.isRow = true) (hi : (P.info? ty).map (·.size) = some cs.length)
    (h : wpListIn F n P ops Q rest (a.put op.dst (.agg cs.toArray)) w) : wpListIn F n P ops Q (op :: rest) a w := by
  refine wpListIn_plain hgd fun K hK' => ?_
  unfold Oper.wpIn
  refine ⟨?_, ?_⟩
  · simp [Oper.about, ho]
  · rw [Oper.semAt_plain F _ _ (by rw [ho]; intro c hc'; cases hc')]
    simp only [execOp, ho, hx, Instr.loadAt, Instr.sureAddr, Sem.run_bind, Sem.run_pure, Result.andThen_ok, run_loadVar_mid w b o ty cs d hc hu hd hi]
    exact hK' _ _ h
end Go
namespace Go.Proofs.Ytccfamagckgamaa
open Go.RowKit Go.Shelf
attribute [local go_sem] Oper.semAt_some
/-- Of which some came. -/
def placesF (L : List Cm) : Nat → List (Int × Int)
  | 0 => []
  | k + 1 => placesF L k ++ (if 0 < atF L k then [((k : Int), atF L k)] else [])
theorem places_pre (L : List Cm) {j m : Nat} (h : j ≤ m) : placesF L j <+: placesF L m := by
  induction m with
  | zero => obtain rfl : j = 0 := by omega
            exact List.prefix_refl _
  | succ m ih =>
    by_cases e : j = m + 1
    · subst e; exact List.prefix_refl _
    · exact (ih (by omega)).trans (List.prefix_append _ _)
theorem prefix_length {α : Type} {a b : List α} {x : α} (h : a ++ [x] <+: b) : a.length < b.length := by
  have := h.length_le
  simp at this
  omega
theorem yield_two {e : Ending} {p q : Prop} (h : (e = .returned (.bool true) ∧ p) ∨ (e = .returned (.bool false) ∧ q)) : ∃ bb : Bool, e = .returned (.bool bb) ∧ ((bb = true ∧ p) ∨ (bb = false ∧ q)) := by
  rcases h with ⟨h, hp⟩ | ⟨h, hq⟩
  · exact ⟨true, h, .inl ⟨rfl, hp⟩⟩
  · exact ⟨false, h, .inr ⟨rfl, hq⟩⟩
set_option maxRecDepth 100000 in
set_option maxHeartbeats 1000000 in
theorem places1_in (m : Nat) (hm : 1 ≤ m) (lp : Nat) (w0 : World) (Bx bh : Nat) (L : List Cm) (hL : OkL L) (T : Nat → Prop) (hT : ∀ k, T k → k < w0.heap.size) (hBx : w0.cell? ⟨Bx, 0, none⟩ = some (.pointer (some ⟨bh, 0, none⟩))) (hBT : ¬ T Bx) (hh : HisAt w0 bh L) (hbT : ¬ T bh)
    (J Jx : List (Int × Int) → World → Prop) (W : World) (hW : KS T w0 W)
    (hJ : ∀ s A B, J s A → Below W.heap.size A B → J s B)
    (hY : ∀ pre x W1, W.heap.size ≤ W1.heap.size → J pre W1 → pre.length < (placesF L 65).length → pre ++ [x] <+: placesF L 65 → YieldAt Fence.wide (m - 1) Try.prog lp #[.int .i64 x.1, .int .i64 x.2] W1 fun e W' =>
      (e = .returned (.bool true) ∧ J (pre ++ [x]) W' ∧ KS (TT T w0.heap.size W.heap.size) W1 W') ∨ (e = .returned (.bool false) ∧ Jx (pre ++ [x]) W' ∧ KS (TT T w0.heap.size W.heap.size) W1 W'))
    (h0 : J [] W) :
    CallsIn Fence.wide m Try.prog 28 #[.func (.yield lp) #[] #[], .pointer (some ⟨Bx, 0, none⟩)] W fun e W' => (∃ v, e = .returned v) ∧
      ((∃ ys, ys = placesF L 65 ∧ J ys W') ∨ (∃ pre, pre <+: placesF L 65 ∧ Jx pre W')) := by
  have cbx := hW.cell hBT hBx
  have hhW : HisAt W bh L := (hW.block bh hh.lt hbT).trans hh
  have HROW := hid (show W.rangeAt bh 0 (cts L) from fun j v hj => by
    have hlt : j < 65 := by rw [← cts_length L]; exact (List.getElem?_eq_some_iff.1 hj).1
    have := HisAt.ct hhW hlt
    simp [cts, hlt] at hj
    rw [Nat.zero_add, this, hj])
  have HY := hid hY
  have HL := hid hL
  clear hBx hBT hh hbT hJ hhW hY hW hT hL
  refine callsIn_of_wp Try.func28 rfl trivial ?_ rfl
  simp only [Try.ntmps28, List.size_toArray, List.length_cons, List.length_nil, Nat.reduceAdd, Nat.reduceSub, Array.replicate_succ, Array.replicate_zero, List.push_toArray, List.append_toArray, List.nil_append, List.cons_append]
  gi_wp2_with (refine wpListIn_load_mid rfl 52 _ rfl bh 0 rfl (cts L) _ HROW.out Try.underlying52 rfl (by rw [cts_length]; kernel_rfl) ?_)
  clear cbx
  obtain ⟨arr, earr⟩ : ∃ arr, cts L = arr := ⟨_, rfl⟩
  have HARR := hid (fun k (hk : k < 65) => (by rw [← earr]; simp [cts, hk] : arr[k]? = some (.int .i64 (atF L k))))
  rw [earr]
  clear earr HROW
  gi_loopw [11] (fun i wr => ∃ (k : Nat), i = .int .i64 k ∧ k ≤ 65 ∧ J (placesF L k) wr ∧ W.heap.size ≤ wr.heap.size) (fun i _ => 65 - numOf i)
  case atStart => exact ⟨0, rfl, by omega, h0, Nat.le_refl _⟩
  case round =>
    clear h0
    obtain ⟨k, rfl, hk, hJ, hS⟩ := hrel
    by_cases hlt : k < 65
    · have hix := fun w => index_run arr k hlt _ (HARR.out k hlt) w
      have HNX := hid (show placesF L (k + 1) = placesF L k ++ (if 0 < atF L k then [((k : Int), atF L k)] else []) from rfl)
      have hpre := places_pre L (show k + 1 ≤ 65 by omega)
      by_cases hc : 0 < atF L k
      · have HN2 := hid (show placesF L (k + 1) = placesF L k ++ [((k : Int), atF L k)] by rw [HNX.out, if_pos hc])
        rw [HN2.out] at hpre
        obtain ⟨fy, ty, asy, bdy, hyy, hRy⟩ := HY.out (placesF L k) ((k : Int), atF L k) wr hS hJ (prefix_length hpre) hpre
        rw [← HN2.out] at hRy hpre
        have HRY := hid hRy
        have HPRE := hid hpre
        clear hRy hJ HNX HN2 hpre HARR
        gi_wp2_with ((refine HRY.out.mono ?_; rintro e W3 hE; obtain ⟨bb, eE, hE2⟩ := yield_two hE; clear hE; subst eE))
        · rename_i hb
          rcases hE2 with ⟨rfl, _⟩ | ⟨rfl, hJx, _⟩
          · cases hb
          · refine bodyPost_ret (results_none rfl _ _ _) rfl ?_
            exact ⟨⟨_, rfl⟩, .inr ⟨_, HPRE.out, hJx⟩⟩
        · rename_i hb
          rcases hE2 with ⟨rfl, hJ3, hk3⟩ | ⟨rfl, _⟩
          · go_roundw
            case rel => exact ⟨k + 1, by go_num, by omega, hJ3, Nat.le_trans hS hk3.size⟩
            case measure => simp [numOf]; omega
          · cases hb
      · have HN2 := hid (show placesF L (k + 1) = placesF L k by rw [HNX.out, if_neg hc, List.append_nil])
        clear HNX hpre HARR
        gi_wp2
        go_roundw
        case rel => exact ⟨k + 1, by go_num, by omega, by rw [HN2.out]; exact hJ, hS⟩
        case measure => simp [numOf]; omega
    · obtain rfl : k = 65 := by omega
      clear HARR
      gi_wp2
      go_end0
      exact ⟨⟨_, rfl⟩, .inl ⟨_, rfl, hJ⟩⟩
end Go.Proofs.Ytccfamagckgamaa
