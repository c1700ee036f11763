/-
  Layer 43: the order by deadlines, by the program. No condition but that they are ints.
-/
import Derived.Test.YtjkmakaahghddaaRtaH
namespace Go.Proofs.Ytjkmakaahghddaa
open Go.RowKit
theorem ins_zero (v f : Value) (w : World) (R : World → Prop) (h : R w) :
    Calls Try.prog 30 #[v, .int .i64 0, .int .i64 0, f] w (fun e w' => e = .returned (.tuple #[]) ∧ R w') := by
  have H := hid h
  clear h
  go_enter Try.func30, Try.ntmps30
  go_wp2
  go_loopw [8] (fun i wr => i = .int .i64 1 ∧ wr = w) (fun _ _ => 0)
  case atStart => exact ⟨rfl, rfl⟩
  case round =>
    obtain ⟨rfl, rfl⟩ := hrel
    go_wp2
    go_end0
    exact ⟨rfl, H.out⟩
theorem stable_of (v f : Value) (n : Nat) (hn : n < 20) (w : World) (R : World → Prop) (h : Calls Try.prog 30 #[v, .int .i64 0, .int .i64 n, f] w (fun e w' => e = .returned (.tuple #[]) ∧ R w')) :
    Calls Try.prog 27 #[v, .int .i64 n, f] w (fun e w' => e = .returned (.tuple #[]) ∧ R w') := by
  have H := hid h
  clear h
  go_enter Try.func27, Try.ntmps27
  go_wp2
  go_loopw [7, 8] (fun a i wr => a = .int .i64 0 ∧ i = .int .i64 20 ∧ wr = w) (fun _ _ _ => 0)
  case atStart => exact ⟨rfl, rfl, rfl⟩
  case round =>
    obtain ⟨rfl, rfl, rfl⟩ := hrel
    go_wp2_with fail
    refine H.out.mono ?_
    rintro _ w2 ⟨rfl, h2⟩
    have H2 := hid h2
    clear h2
    go_wp2_with fail
    go_loopw [6] (fun i wr => i = .int .i64 20 ∧ wr = w2) (fun _ _ => 0)
    case atStart => exact ⟨rfl, rfl⟩
    case round =>
      obtain ⟨rfl, rfl⟩ := hrel
      go_wp2
      go_end0
      exact ⟨rfl, H2.out⟩
theorem sort_of (A : Option Addr) (c : Nat) (f : Value) (n : Nat) (hn : n < 20) (w : World) (R : World → Prop) (h : Calls Try.prog 30 #[.slice A n c, .int .i64 0, .int .i64 n, f] w (fun e w' => e = .returned (.tuple #[]) ∧ R w')) :
    Calls Try.prog 17 #[.slice A n c, f] w (fun e w' => e = .returned (.tuple #[]) ∧ R w') := by
  have H := hid (stable_of (.slice A n c) f n hn w R h)
  clear h
  go_enter Try.func17, Try.ntmps17
  go_wp2_with fail
  refine H.out.mono ?_
  rintro _ w2 ⟨rfl, h2⟩
  have H2 := hid h2
  clear h2
  go_wp2
  go_end0
  exact ⟨rfl, H2.out⟩
def idK (k : Nat) : List Int := (List.range k).map fun (i : Nat) => (i : Int)
theorem idK_succ (k : Nat) : idK (k + 1) = idK k ++ [(k : Int)] := by simp [idK, List.range_succ]
theorem idK_at {k i : Nat} (h : i < k) : atL (idK k) i = i := by simp [idK, atL, h]
theorem idK_length (k : Nat) : (idK k).length = k := by simp [idK]
def riseF (l : List Wk) : List Int := if mayF l = true then riseK (dlF l) l.length else []
set_option maxHeartbeats 2000000 in
theorem Rise_any (A : Option Addr) (ca n : Nat) (l : List Wk) (w : World) (hw : LsW l n ca A w) :
    Calls Try.prog 8 #[.slice A n ca] w (GivesOwn 3 1 (riseF l).length (i64s (riseF l)) w) := by
  obtain ⟨i0, hi, hz0, hz1, hz2⟩ := info_parts info_i64
  obtain ⟨w0, e0⟩ : ∃ w0, w0 = w.alloc (.cells #[.slice A n ca] 22) := ⟨_, rfl⟩
  have hb0 : Below w.heap.size w w0 := by rw [e0]; exact (Below.refl _ _).alloc (Nat.le_refl _) _
  have hw0 : LsW l n ca A w0 := hw.below hb0
  have hbx : w0.cell? ⟨w.heap.size, 0, none⟩ = some (.slice A n ca) := by rw [e0]; simp [go_sem]
  have hs0 : w.heap.size < w0.heap.size := by rw [e0]; simp
  have hM := hw0.may
  have HB0 := hid hb0
  have HW0 := hid hw0
  have E0 := hid e0
  have hlen := hw.len
  cases hm : mayF l with
  | false =>
    have hf : riseF l = [] := by simp [riseF, hm]
    rw [hm] at hM
    rw [hf]
    have HM := hid hM
    clear hM hm hf hw hw0 hb0 e0 hlen
    go_enter Try.func8, Try.ntmps8
    go_upto_region 1 with fail
    rw [← E0.out]
    go_wp2_with ((go_at_call 15; refine (HM.out).mono ?_; rintro _ _ ⟨rfl, _, rfl⟩))
    go_ret
    exact ⟨none, 0, rfl, RowKit.Below.past HB0.out _, World.ownsRow_nil _ _ _ _⟩
  | true =>
    have hf : riseF l = riseK (dlF l) n := by simp [riseF, hm, hlen]
    have hl : (riseF l).length = n := by rw [hf, riseK_length]
    have h6 : n ≤ 6 := (hw0.wks hm).six
    rw [hm] at hM
    rw [hl, hf]
    have HM := hid hM
    clear hM hm hf hl hw hw0 hb0 e0 hlen
    go_enter Try.func8, Try.ntmps8
    go_upto_region 1 with fail
    rw [← E0.out]
    go_wp2_with ((go_at_call 15; refine (HM.out).mono ?_; rintro _ _ ⟨rfl, _, rfl⟩))
    go_loopw [3, 10] (fun v i wr => ∃ (k : Nat) (x : Past), i = .int .i64 k ∧ k ≤ n ∧ wr = w0.past x ∧ Hid ((w0.past x).ownsRow w0.heap.size 3 1 v k (i64s (idK k)))) (fun _ i _ => n - (intOf i).toNat)
    case atStart => exact ⟨0, _, rfl, by omega, rfl, hid (World.ownsRow_nil _ _ _ _)⟩
    case round =>
      obtain ⟨k, x, rfl, hk, rfl, HO⟩ := hrel
      by_cases hlt : k < n
      · go_wp2_with (at_builtin; refine wpList_push rfl (.tmp 13) (.tmp 15) 25 rfl 3 i0 (.int .i64 0) 1 8 Try.underlying25 hi hz0 hz1 hz2 rfl (by decide) (w0 := w0) ?_ _ _ _ rfl (HO.out) _ (#[.int .i64 k]) ?_ rfl rfl ?_ ?_ ?_ ?_; (· (repeat (first | exact Below.refl _ _ | refine RowKit.Below.past ?_ _ | refine RowKit.Below.alloc' ?_ _ | refine RowKit.Below.drew' ?_ | refine RowKit.Below.drewN' ?_ _ | refine RowKit.Below.setCell' ?_ (by simp [go_sem]) _))); (· simp [go_sem]); (· simp [Value.oneCell']); (· omega); (· (unfold maxLen; omega)); intro x1 g1 cap1 hown1)
        go_roundw
        case rel =>
          refine ⟨k + 1, _, by go_num, by omega, rfl, hid ?_⟩
          rw [idK_succ, ← i64s_snoc]
          exact hown1
        case measure => simp [intOf]; omega
      · obtain rfl : k = n := by omega
        obtain ⟨A', c', rfl⟩ := own_shape HO.out
        have hR : Hid (Calls Try.prog 30 #[.slice A' k c', .int .i64 0, .int .i64 k, .func (.func 18) #[] #[.pointer (some ⟨w.heap.size, 0, none⟩)]] (w0.past x) (fun e w' => e = .returned (.tuple #[]) ∧ (Below w0.heap.size w0 w' ∧ w'.ownsRow w0.heap.size 3 1 (.slice A' k c') k (i64s (riseK (dlF l) k))))) := hid (by
          by_cases h0 : k = 0
          · subst h0
            exact ins_zero _ _ _ _ ⟨w0.below_past x, HO.out⟩
          · obtain ⟨g, c2, e, hg⟩ := own_succ HO.out (by omega)
            injection e with e1 _ e2
            subst e1; subst e2
            refine (insSort_any A ca k l w.heap.size w0 HW0.out hbx g c' (idK k) (w0.past x) (by omega) (fun i hi => idK_at hi) ⟨w0.below_past x, HO.out⟩).mono ?_
            rintro _ w' ⟨rfl, hrw⟩
            exact ⟨rfl, hrw.below, hrw.own⟩)
        have hS := hid (sort_of A' c' _ k (by omega) (w0.past x) _ hR.out)
        clear hR
        go_wp2_with fail
        refine hS.out.mono ?_
        rintro _ w5 ⟨rfl, hb5, ho5⟩
        have HB5 := hid (below_trans' HB0.out hb5)
        have HO5 := hid (own_base ho5 (show w.heap.size ≤ w0.heap.size by omega))
        clear hb5 ho5
        go_wp2
        go_ret
        exact ⟨A', c', rfl, HB5.out, HO5.out⟩
end Go.Proofs.Ytjkmakaahghddaa
