/-
  Layer 36: rows of signs. No condition but on how many events.
-/
import Derived.Test.YtphlbomcnholhaaGanC
import Derived.Test.YtphlbomcnholhaaBld
import Derived.RangeFuncBox
namespace Go.Proofs.Ytphlbomcnholhaa
open Go.RowKit
def cellS (r : Int × Bool) : ByteArray := if r.2 = true then signS r.1 else ⟨#[46]⟩
def rowL (l : List Ev) (core fr : Int) : Nat → List UInt8
  | 0 => []
  | k + 1 => rowL l core fr k ++ (cellS (ranF l core (fr + k))).data.toList
def rowCnt (fr to : Int) : Nat := if to < fr then 0 else (min (to - fr) 199).toNat + 1
def rowF (l : List Ev) (core fr to : Int) : List UInt8 := rowL l core fr (rowCnt fr to)
theorem sign_size (x : Int) : (signS x).size = 1 := by
  unfold signS
  split
  · rfl
  · rename_i h
    rw [ByteArray.size_extract, show signC.size = 64 from rfl]
    omega
theorem cell_length (r : Int × Bool) : (cellS r).data.toList.length = 1 := by
  unfold cellS
  split
  · rw [Array.length_toList]; exact sign_size r.1
  · rfl
theorem row_length (l : List Ev) (core fr : Int) : ∀ k, (rowL l core fr k).length = k := by
  intro k
  induction k with
  | zero => rfl
  | succ k ih => rw [rowL, List.length_append, ih, cell_length]
abbrev Bld (B b : Nat) (bs : List UInt8) (w : World) : Prop := Lib.IsBuilder 40 5 B b (Lib.byteCells bs) w
theorem bld_below {B b : Nat} {bs : List UInt8} {w w' : World} (h : Bld B b bs w) (hb : Below w.heap.size w w') : Bld B b bs w' := by
  have key : ∀ p, Lib.BuilderAt 40 5 B b p (Lib.byteCells bs) w → Lib.BuilderAt 40 5 B b p (Lib.byteCells bs) w' := by
    intro p h
    have hlt := h.lt
    obtain ⟨hB, v, hbk, hown, hne⟩ := h
    exact ⟨hB, v, (hb.block b hlt).trans hbk, own_below hown hb (Nat.le_refl _), hne⟩
  exact h.imp (key _) (key _)
theorem bld_new (w : World) : Bld w.heap.size w.heap.size [] (w.alloc (.cells #[.pointer none, .slice none 0 0] 40)) := by
  refine .inl ⟨Nat.le_refl _, .slice none 0 0, World.alloc_heap_new w _, ⟨rfl, .inl ⟨rfl, rfl⟩⟩, by simp [Value.ownBlock]⟩
theorem writeS_any (B b : Nat) (bs : List UInt8) (s : ByteArray) (w : World) (h : Bld B b bs w) (hlen : bs.length + s.size ≤ 140737488355328) (hBw : B ≤ w.heap.size) :
    Calls Try.prog 15 #[.pointer (some ⟨b, 0, none⟩), .string s] w fun e w' => e = .returned (.tuple #[.int .i64 s.size, .nilIface]) ∧ Bld B b (bs ++ s.data.toList) w' ∧ Below B w w' := by
  refine (WriteString_any B b (Lib.byteCells bs) s w h (by rw [Lib.byteCells_length]; exact hlen) hBw).mono ?_
  rintro _ _ ⟨rfl, h1, h2⟩
  refine ⟨rfl, .inr ?_, h2⟩
  rw [Lib.strCells_eq] at h1
  simpa [Lib.byteCells] using h1
theorem writeB_any (B b : Nat) (bs : List UInt8) (c : UInt8) (w : World) (h : Bld B b bs w) (hlen : bs.length + 1 ≤ 140737488355328) (hBw : B ≤ w.heap.size) :
    Calls Try.prog 16 #[.pointer (some ⟨b, 0, none⟩), .int .u8 c.toNat] w fun e w' => e = .returned .nilIface ∧ Bld B b (bs ++ [c]) w' ∧ Below B w w' := by
  refine (WriteByte_any B b (Lib.byteCells bs) c.toNat w h (by rw [Lib.byteCells_length]; exact hlen) hBw).mono ?_
  rintro _ _ ⟨rfl, h1, h2⟩
  refine ⟨rfl, .inr ?_, h2⟩
  simpa [Lib.byteCells] using h1
def numOf : Value → Nat | .int _ z => z.toNat | _ => 0
set_option maxHeartbeats 4000000 in
theorem Row_any (A : Option Addr) (ca n : Nat) (l : List Ev) (en : l.length = n) (hn : n ≤ 1000) (core fr to : Int) (hf : U64 fr) (ht : U64 to) (w : World) (ha : Cells w A (tab evV l)) :
    Calls Try.prog 8 #[.slice A n ca, .int .i64 core, .int .u64 fr, .int .u64 to] w (Gives (.string ⟨(rowF l core fr to).toArray⟩) w) := by
  have EN := hid en
  have HA := hid ha
  have HRAN := hid (fun time w' (hb : Below w.heap.size w w') => Ran_any A ca n l en hn core time w' (ha.below hb))
  have HF := hid hf
  have HT := hid ht
  have hf' := hf
  have ht' := ht
  unfold U64 at hf' ht'
  clear en ha hf ht
  by_cases hlt : to < fr
  · have hc : rowF l core fr to = [] := by unfold rowF rowCnt; rw [if_pos hlt]; rfl
    rw [hc]
    go_enter Try.func8, Try.ntmps8
    go_wp2
    go_ret
    exact Gives.mk rfl (by repeat (first | exact Below.refl _ _ | refine RowKit.Below.alloc' ?_ _))
  · obtain ⟨c, hc⟩ : ∃ c, rowCnt fr to = c := ⟨_, rfl⟩
    have hrow : rowF l core fr to = rowL l core fr c := by unfold rowF; rw [hc]
    have hc2 : (c : Int) = min (to - fr) 199 + 1 := by rw [← hc]; unfold rowCnt; rw [if_neg hlt]; omega
    rw [hrow]
    have w1 : IntKind.u64.wrap (to - fr) = to - fr := by rw [IntKind.wrap_u64]; omega
    have w2 : IntKind.u64.wrap (min (to - fr) 199 + 1) = c := by rw [IntKind.wrap_u64]; omega
    have HC2 := hid hc2
    clear hc hrow hc2
    go_enter Try.func8, Try.ntmps8
    go_wp2
    go_loopw [21] (fun i wr => ∃ (k : Nat), i = .int .u64 k ∧ k ≤ c ∧ Hid (Below w.heap.size w wr) ∧ Hid (Bld w.heap.size w.heap.size (rowL l core fr k) wr)) (fun i _ => c - numOf i)
    case atStart => exact ⟨0, rfl, by omega, hid ((Below.refl _ w).alloc (Nat.le_refl _) _), hid (bld_new w)⟩
    case round =>
      obtain ⟨k, rfl, hk, HB, HBL⟩ := hrel
      clear w1 w2
      have hsz := HB.out.size
      by_cases hlt2 : k < c
      · have w3 : IntKind.u64.wrap (fr + k) = fr + k := by have := HC2.out; rw [IntKind.wrap_u64]; omega
        have w4 : IntKind.u64.wrap ((k : Int) + 1) = (k : Int) + 1 := by have := HC2.out; rw [IntKind.wrap_u64]; omega
        have hr := HRAN.out (fr + k) wr HB.out
        have HRL := hid (show rowL l core fr (k + 1) = rowL l core fr k ++ (cellS (ranF l core (fr + k))).data.toList from rfl)
        have hlen := row_length l core fr k
        have hk200 : k ≤ 200 := by have := HC2.out; omega
        generalize rowL l core fr k = L at HBL HRL hlen
        generalize ranF l core (fr + k) = r at hr HRL
        obtain ⟨who, ok⟩ := r
        have HR := hid hr
        clear hr HRAN HA
        cases ok
        · go_wp2_with (first | (go_at_call 6; (with_reducible refine HR.out.mono ?_); rintro _ _ ⟨rfl, x1, rfl⟩) | (go_at_call 16; refine (writeB_any w.heap.size w.heap.size L 46 _ (bld_below HBL.out (World.below_past _ _)) (by omega) (by simp [go_sem]; omega)).mono ?_; rintro _ w5 ⟨rfl, hb5, hB5⟩))
          go_roundw
          case rel => exact ⟨k + 1, by go_num, by omega, hid ((HB.out.trans ((World.below_past wr x1).mono hsz)).trans hB5), hid (by rw [HRL.out]; exact hb5)⟩
          case measure => simp [numOf]; omega
        · have hss := sign_size who
          go_wp2_with (first | (go_at_call 6; (with_reducible refine HR.out.mono ?_); rintro _ _ ⟨rfl, x1, rfl⟩) | (go_at_call 10; refine (Sign_any who _).mono ?_; rintro _ _ ⟨rfl, x2, rfl⟩) | (go_at_call 15; refine (writeS_any w.heap.size w.heap.size L (signS who) _ (bld_below HBL.out (World.below_past _ _)) (by omega) (by simp [go_sem]; omega)).mono ?_; rintro _ w5 ⟨rfl, hb5, hB5⟩))
          go_roundw
          case rel => exact ⟨k + 1, by go_num, by omega, hid ((HB.out.trans ((World.below_past wr (x1.and x2)).mono hsz)).trans hB5), hid (by rw [HRL.out]; exact hb5)⟩
          case measure => simp [numOf]; omega
      · obtain rfl : k = c := by omega
        go_wp2_with (go_at_call 17; refine (Try.Builder_String_any w.heap.size w.heap.size (rowL l core fr k) _ HBL.out hsz).mono ?_; rintro _ w5 ⟨rfl, hB5⟩)
        go_ret
        exact Gives.mk rfl (HB.out.trans hB5)
theorem str_append (a : List UInt8) (s : ByteArray) : (⟨a.toArray⟩ : ByteArray) ++ s = ⟨(a ++ s.data.toList).toArray⟩ := by
  apply ByteArray.ext
  simp [ByteArray.data_append]
set_option maxRecDepth 20000 in
set_option maxHeartbeats 4000000 in
theorem RRow_any (A : Option Addr) (ca n : Nat) (l : List Ev) (en : l.length = n) (hn : n ≤ 1000) (core fr to : Int) (hf : U64 fr) (ht : U64 to) (w : World) (ha : Cells w A (tab evV l)) :
    Calls Try.prog 9 #[.slice A n ca, .int .i64 core, .int .u64 fr, .int .u64 to] w (Gives (.string ⟨(rowF l core fr to).toArray⟩) w) := by
  have HRAN := hid (fun time w' (hb : Below w.heap.size w w') => RRan_any A ca n l en hn core time w' (ha.below hb))
  have hf' := hf
  have ht' := ht
  unfold U64 at hf' ht'
  clear en ha hf ht
  obtain ⟨c, hc⟩ : ∃ c, rowCnt fr to = c := ⟨_, rfl⟩
  have hrow : rowF l core fr to = rowL l core fr c := by unfold rowF; rw [hc]
  have hc2 : (to < fr ∧ c = 0) ∨ (fr ≤ to ∧ (c : Int) = min (to - fr) 199 + 1) := by
    rw [← hc]; unfold rowCnt
    split
    · exact .inl ⟨by omega, rfl⟩
    · exact .inr ⟨by omega, by omega⟩
  rw [hrow]
  have HC2 := hid hc2
  clear hc hrow hc2
  go_enter Try.func9, Try.ntmps9
  go_wp2
  go_loopw [9, 10] (fun s i wr => ∃ (k : Nat) (x : Past), i = .int .i64 k ∧ k ≤ c ∧ wr = w.past x ∧ s = .string ⟨(rowL l core fr k).toArray⟩) (fun _ i _ => c - numOf i)
  case atStart => exact ⟨0, _, rfl, by omega, World.past_refl w, rfl⟩
  case round =>
    obtain ⟨k, x, rfl, hk, rfl, rfl⟩ := hrel
    have v1 : IntKind.u64.wrap (k : Int) = k := by have := HC2.out; rw [IntKind.wrap_u64]; omega
    by_cases hlt2 : k < c
    · have h200 : (k : Int) < 200 := by have := HC2.out; omega
      have w3 : IntKind.u64.wrap (fr + k) = fr + k := by have := HC2.out; rw [IntKind.wrap_u64]; omega
      have w4 : IntKind.i64.wrap ((k : Int) + 1) = (k : Int) + 1 := by rw [IntKind.wrap_i64]; omega
      have g1 : decide (fr + (k : Int) < fr) = false := by rw [decide_eq_false_iff_not]; omega
      have g2 : decide (to < fr + (k : Int)) = false := by have := HC2.out; rw [decide_eq_false_iff_not]; omega
      have hr := HRAN.out (fr + k) (w.past x) (World.below_past w x)
      have HRL := hid (show rowL l core fr (k + 1) = rowL l core fr k ++ (cellS (ranF l core (fr + k))).data.toList from rfl)
      have hlen := row_length l core fr k
      generalize rowL l core fr k = L at HRL hlen
      generalize ranF l core (fr + k) = r at hr HRL
      obtain ⟨who, ok⟩ := r
      have HR := hid hr
      clear hr HRAN
      cases ok
      · go_wp2_with (go_at_call 7; (with_reducible refine HR.out.mono ?_); rintro _ _ ⟨rfl, x1, rfl⟩)
        go_roundw
        case rel => exact ⟨k + 1, _, by go_num, by omega, rfl, by rw [HRL.out, str_append]; rfl⟩
        case measure => simp [numOf]; omega
      · have hss := sign_size who
        go_wp2_with (first | (go_at_call 7; (with_reducible refine HR.out.mono ?_); rintro _ _ ⟨rfl, x1, rfl⟩) | (go_at_call 11; refine (RSign_any who _).mono ?_; rintro _ _ ⟨rfl, x2, rfl⟩))
        go_roundw
        case rel => exact ⟨k + 1, _, by go_num, by omega, rfl, by rw [HRL.out, str_append]; rfl⟩
        case measure => simp [numOf]; omega
    · obtain rfl : k = c := by omega
      clear HRAN
      by_cases h200 : (k : Int) < 200
      · obtain ⟨t, et⟩ : ∃ t, IntKind.u64.wrap (fr + k) = t := ⟨_, rfl⟩
        have ht2 : t < fr ∨ to < t := by
          rw [← et, IntKind.wrap_u64]
          have := HC2.out
          omega
        clear HC2
        by_cases g1 : t < fr
        all_goals
          go_wp2
          go_ret
          exact Gives.mk rfl (World.below_past w x)
      · go_wp2
        go_ret
        exact Gives.mk rfl (World.below_past w x)
end Go.Proofs.Ytphlbomcnholhaa
