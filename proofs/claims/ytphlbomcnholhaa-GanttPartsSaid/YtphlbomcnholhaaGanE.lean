/-
  Layer 36: rows of all cores; the law's own awake. No condition but on how many events.
-/
import Derived.Test.YtphlbomcnholhaaGanD
namespace Go.Proofs.Ytphlbomcnholhaa
open Go.RowKit
def rowsL (l : List Ev) (fr to : Int) : Nat → List UInt8
  | 0 => []
  | c + 1 => rowsL l fr to c ++ (rowF l c fr to ++ [10])
def coresN (cores : Int) : Nat := (min (max cores 0) 4).toNat
theorem rowF_length (l : List Ev) (core fr to : Int) : (rowF l core fr to).length ≤ 200 := by
  unfold rowF
  rw [row_length]
  unfold rowCnt
  split <;> omega
theorem rows_length (l : List Ev) (fr to : Int) : ∀ c, (rowsL l fr to c).length ≤ c * 201 := by
  intro c
  induction c with
  | zero => simp [rowsL]
  | succ c ih =>
    have := rowF_length l c fr to
    rw [rowsL, List.length_append, List.length_append, Nat.add_mul]
    simp
    omega
theorem row_nl (L : List UInt8) : (⟨L.toArray⟩ : ByteArray) ++ ⟨#[10]⟩ = ⟨(L ++ [10]).toArray⟩ := str_append L ⟨#[10]⟩
theorem size_of_list (L : List UInt8) : (⟨L.toArray⟩ : ByteArray).size = L.length := by simp [ByteArray.size]
set_option maxRecDepth 20000 in
set_option maxHeartbeats 1000000 in
theorem Rows_any (A : Option Addr) (ca n : Nat) (l : List Ev) (en : l.length = n) (hn : n ≤ 1000) (cores fr to : Int) (hf : U64 fr) (ht : U64 to) (w : World) (ha : Cells w A (tab evV l)) :
    Calls Try.prog 12 #[.slice A n ca, .int .i64 cores, .int .u64 fr, .int .u64 to] w (Gives (.string ⟨(rowsL l fr to (coresN cores)).toArray⟩) w) := by
  have HROW := hid (fun core w' (hb : Below w.heap.size w w') => Row_any A ca n l en hn core fr to hf ht w' (ha.below hb))
  clear en ha hf ht
  obtain ⟨c, hc⟩ : ∃ c, coresN cores = c := ⟨_, rfl⟩
  have hc2 : min (max cores 0) 4 = c := by rw [← hc]; unfold coresN; omega
  have hc4 : c ≤ 4 := by omega
  rw [hc]
  clear hc
  go_enter Try.func12, Try.ntmps12
  go_wp2
  clear hc2
  go_loopw [14] (fun i wr => ∃ (k : Nat), i = .int .i64 k ∧ k ≤ c ∧ Hid (Below w.heap.size w wr) ∧ Hid (Bld w.heap.size w.heap.size (rowsL l fr to k) wr)) (fun i _ => c - numOf i)
  case atStart => exact ⟨0, rfl, by omega, hid ((Below.refl _ w).alloc (Nat.le_refl _) _), hid (bld_new w)⟩
  case round =>
    obtain ⟨k, rfl, hk, HB, HBL⟩ := hrel
    have hsz := HB.out.size
    by_cases hlt2 : k < c
    · have hr := HROW.out k wr HB.out
      have HRL := hid (show rowsL l fr to (k + 1) = rowsL l fr to k ++ (rowF l k fr to ++ [10]) from rfl)
      have hlen := rows_length l fr to k
      have hl2 := rowF_length l k fr to
      have hl3 := size_of_list (rowF l k fr to ++ [10])
      rw [List.length_append] at hl3
      generalize rowsL l fr to k = L at HBL HRL hlen
      generalize rowF l k fr to = R at hr HRL hl2 hl3
      have HR := hid hr
      clear hr HROW
      have hl4 : L.length + (⟨(R ++ [10]).toArray⟩ : ByteArray).size ≤ 140737488355328 := by rw [hl3]; simp; omega
      have HL4 := hid hl4
      clear hl3 hl4
      go_wp2_with (go_at_call 8; (with_reducible refine HR.out.mono ?_); rintro _ _ ⟨rfl, x1, rfl⟩)
      rw [row_nl]
      have t1 := bld_below HBL.out (World.below_past wr x1)
      have t2 : w.heap.size ≤ (wr.past x1).heap.size := by simp [go_sem]; omega
      have t3 := writeS_any w.heap.size w.heap.size L ⟨(R ++ [10]).toArray⟩ _ t1 HL4.out t2
      refine t3.mono ?_
      clear t3
      rintro _ w5 ⟨rfl, hb5, hB5⟩
      go_wp2_with fail
      go_roundw
      case rel => exact ⟨k + 1, by go_num, by omega, hid ((HB.out.trans ((World.below_past wr x1).mono hsz)).trans hB5), hid (by rw [HRL.out]; exact hb5)⟩
      case measure => simp [numOf]; omega
    · obtain rfl : k = c := by omega
      go_wp2_with (go_at_call 17; refine (Try.Builder_String_any w.heap.size w.heap.size (rowsL l fr to k) _ HBL.out hsz).mono ?_; rintro _ w5 ⟨rfl, hB5⟩)
      go_ret
      exact Gives.mk rfl (HB.out.trans hB5)
def awL : List Ev := [⟨2, 2, 0, 0, 0⟩, ⟨4, 3, 0, 0, 0⟩, ⟨4, 2, 1, 0, 0⟩]
theorem aw1 : ranF awL 0 3 = (0, true) := by decide
theorem aw2 : rowF awL 0 1 5 = [46, 48, 48, 49, 49] := by decide
theorem aw3 : signS 10 = ⟨#[97]⟩ := by decide
theorem aw4 : rowsL awL 5 5 (coresN 2) = [49, 10, 46, 10] := by decide
set_option maxHeartbeats 1000000 in
theorem awake_any (w : World) : Calls Try.prog 5 #[] w (Gives (.bool true) w) := by
  obtain ⟨W, eW⟩ : ∃ W, W = w.alloc (.cells #[.int .u64 2, .int .i64 2, .int .i64 0, .int .i64 0, .int .i64 0, .int .u64 4, .int .i64 3, .int .i64 0, .int .i64 0, .int .i64 0, .int .u64 4, .int .i64 2, .int .i64 1, .int .i64 0, .int .i64 0] 34) := ⟨_, rfl⟩
  have hc : Cells W (some ⟨w.heap.size, 0, none⟩) (tab evV awL) := fun _ => ⟨w.heap.size, 0, rfl, fun i v hi => by rw [Nat.zero_add, eW, World.cell?_alloc_new, ← Array.getElem?_toList]; exact hi⟩
  have H1 := hid (show ∀ w', Below W.heap.size W w' → Calls Try.prog 6 #[.slice (some ⟨w.heap.size, 0, none⟩) 3 3, .int .i64 0, .int .u64 3] w' (Gives (.tuple #[.int .i64 0, .bool true]) w') from fun w' hb => by
    have := Ran_any (some ⟨w.heap.size, 0, none⟩) 3 3 awL rfl (by omega) 0 3 w' (hc.below hb)
    rwa [aw1] at this)
  have H2 := hid (show ∀ w', Below W.heap.size W w' → Calls Try.prog 8 #[.slice (some ⟨w.heap.size, 0, none⟩) 3 3, .int .i64 0, .int .u64 1, .int .u64 5] w' (Gives (.string ⟨#[46, 48, 48, 49, 49]⟩) w') from fun w' hb => by
    have := Row_any (some ⟨w.heap.size, 0, none⟩) 3 3 awL rfl (by omega) 0 1 5 (by unfold U64; omega) (by unfold U64; omega) w' (hc.below hb)
    rwa [aw2] at this)
  have H3 := hid (show ∀ w', Calls Try.prog 10 #[.int .i64 10] w' (Gives (.string ⟨#[97]⟩) w') from fun w' => by
    have := Sign_any 10 w'
    rwa [aw3] at this)
  have H4 := hid (show ∀ w', Below W.heap.size W w' → Calls Try.prog 12 #[.slice (some ⟨w.heap.size, 0, none⟩) 3 3, .int .i64 2, .int .u64 5, .int .u64 5] w' (Gives (.string ⟨#[49, 10, 46, 10]⟩) w') from fun w' hb => by
    have := Rows_any (some ⟨w.heap.size, 0, none⟩) 3 3 awL rfl (by omega) 2 5 5 (by unfold U64; omega) (by unfold U64; omega) w' (hc.below hb)
    rwa [aw4] at this)
  have EW := hid eW
  clear hc eW
  go_enter Try.func5, Try.ntmps5
  go_wp2_with fail
  rw [← EW.out]
  refine (H1.out W (Below.refl _ _)).mono ?_
  rintro _ _ ⟨rfl, x1, rfl⟩
  go_wp2_with (first | (go_at_call 8; refine (H2.out _ (World.below_past _ _)).mono ?_; rintro _ _ ⟨rfl, x2, rfl⟩) | (go_at_call 10; refine (H3.out _).mono ?_; rintro _ _ ⟨rfl, x3, rfl⟩) | (go_at_call 12; refine (H4.out _ (World.below_past _ _)).mono ?_; rintro _ _ ⟨rfl, x4, rfl⟩))
  go_ret
  exact Gives.mk rfl (below_trans' (by rw [EW.out]; exact (Below.refl _ _).alloc (Nat.le_refl _) _) (W.below_past _))
end Go.Proofs.Ytphlbomcnholhaa
