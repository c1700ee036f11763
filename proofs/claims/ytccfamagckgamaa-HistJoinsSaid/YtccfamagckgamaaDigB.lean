/-
  The document's product of numbers of digits (layer 1's reference). No condition but on lengths.
-/
import Derived.Test.YtccfamagckgamaaDigA
import Derived.BigQuiet
namespace Go.Proofs.Ytccfamagckgamaa
open Go.RowKit
def mulC (a : List Int) (y : Int) : Nat → Int
  | 0 => 0
  | j + 1 => (atD a j * y + mulC a y j) / 65536
def mulX (a : List Int) (y : Int) (j : Nat) : Int := atD a j * y + mulC a y j
def rowK (a : List Int) (y : Int) (i j : Nat) : List Int := List.replicate i 0 ++ (List.range j).map fun t => mulX a y t % 65536
def rowD (a : List Int) (y : Int) (i : Nat) : List Int := rowK a y i a.length ++ [mulC a y a.length]
def timesK (a b : List Int) : Nat → List Int
  | 0 => [0]
  | i + 1 => sumD (timesK a b i) (rowD a (atD b i) i)
def timesD (a b : List Int) : List Int := timesK a b b.length
theorem mul_small {x y : Int} (hx : 0 ≤ x ∧ x < 65536) (hy : 0 ≤ y ∧ y < 65536) : 0 ≤ x * y ∧ x * y ≤ 4294836225 := by
  refine ⟨Int.mul_nonneg hx.1 hy.1, ?_⟩
  have a := Int.mul_le_mul_of_nonneg_left (show y ≤ 65535 by omega) hx.1
  omega
theorem mulC_in {a : List Int} (ha : Digs a) {y : Int} (hy : 0 ≤ y ∧ y < 65536) (j : Nat) : 0 ≤ mulC a y j ∧ mulC a y j < 65536 := by
  induction j with
  | zero => simp [mulC]
  | succ j ih => have := mul_small (ha.at j) hy; simp only [mulC]; omega
theorem rowK_length (a : List Int) (y : Int) (i j : Nat) : (rowK a y i j).length = i + j := by simp [rowK]
theorem rowD_length (a : List Int) (y : Int) (i : Nat) : (rowD a y i).length = i + a.length + 1 := by simp [rowD, rowK]; omega
theorem rowD_digs {a : List Int} (ha : Digs a) {y : Int} (hy : 0 ≤ y ∧ y < 65536) (i : Nat) : Digs (rowD a y i) := by
  intro x hx
  simp only [rowD, rowK, List.mem_append, List.mem_replicate, List.mem_map, List.mem_range, List.mem_singleton] at hx
  rcases hx with (⟨_, rfl⟩ | ⟨t, _, rfl⟩) | rfl
  · omega
  · omega
  · exact mulC_in ha hy _
theorem timesK_digs (a b : List Int) (i : Nat) : Digs (timesK a b i) := by
  cases i with
  | zero => intro x hx; simp [timesK] at hx; omega
  | succ i => exact sum_digs _ _
theorem timesK_length (a b : List Int) (i : Nat) : (timesK a b i).length ≤ a.length + 2 * i + 1 := by
  induction i with
  | zero => simp [timesK]
  | succ i ih =>
    have : (timesK a b (i + 1)).length = lonD (timesK a b i) (rowD a (atD b i) i) + 1 := by simp [timesK, sumD, sumK]
    rw [this]
    unfold lonD
    rw [rowD_length]
    split <;> omega
set_option maxHeartbeats 4000000 in
theorem Times_ref (A B : Option Addr) (ca cb : Nat) (a b : List Int) (w : World) (hla : a.length ≤ 1000) (hlb : b.length ≤ 1000) (da : Digs a) (db : Digs b) (ha : Cells w A (u64s a)) (hb : Cells w B (u64s b)) :
    Calls Try.prog 35 #[.slice A a.length ca, .slice B b.length cb] w (GivesOwn 27 1 (timesD a b).length (u64s (timesD a b)) w) := by
  obtain ⟨i0, hi, hz0, hz1, hz2⟩ := info_parts info_u64
  obtain ⟨n, en⟩ : ∃ n, a.length = n := ⟨_, rfl⟩
  obtain ⟨m, em⟩ : ∃ m, b.length = m := ⟨_, rfl⟩
  rw [en, em]
  rw [en] at hla
  rw [em] at hlb
  have EN := hid en
  have EM := hid em
  clear en em
  go_enter Try.func35, Try.ntmps35
  go_wp2
  go_loopw [5, 6] (fun out i wr => ∃ (k : Nat) (C : Option Addr) (cap : Nat), i = .int .i64 k ∧ k ≤ m ∧ out = .slice C (timesK a b k).length cap ∧ Hid (Below w.heap.size w wr) ∧ Hid (wr.ownsRow w.heap.size 27 1 (.slice C (timesK a b k).length cap) (timesK a b k).length (u64s (timesK a b k)))) (fun _ i _ => m - (intOf i).toNat)
  case atStart =>
    refine ⟨0, _, _, rfl, by omega, rfl, hid ?_, hid ?_⟩
    · (repeat (first | exact Below.refl _ _ | refine RowKit.Below.past ?_ _ | refine RowKit.Below.alloc' ?_ _ | refine RowKit.Below.drew' ?_ | refine RowKit.Below.drewN' ?_ _ | refine RowKit.Below.setCell' ?_ (by simp [go_sem]) _))
    · exact World.ownsRow_lit _ _ 1 (Nat.le_refl _) (by unfold maxLen; omega) (by simp)
  case round =>
    obtain ⟨k, C, cap, rfl, hk, rfl, HB, HO⟩ := hrel
    by_cases hlt : k < m
    · have hy := db.at k
      obtain ⟨y, ey⟩ : ∃ y, atD b k = y := ⟨_, rfl⟩
      have EY := hid ey
      rw [ey] at hy
      have hcb := hb.below HB.out
      have hca := ha.below HB.out
      obtain ⟨b2, o2, rfl, hc2⟩ := u64_at hcb (show k < b.length by have := EM.out; omega)
      rw [ey] at hc2
      clear hcb ey
      obtain ⟨wo, rfl⟩ : ∃ wo : World, wo = wr := ⟨_, rfl⟩
      go_wp2_with (at_make; refine wpList_make_full _ rfl (.tmp 18) (.tmp 18) 67 rfl wo.heap.size 27 i0 (.int .u64 0) 1 Try.underlying67 hi hz0 hz1 .i64 .i64 _ _ k rfl rfl rfl rfl ?_ ?_ (Nat.le_refl _) ?_; (· rw [hz2]; omega); (· unfold maxLen; omega); intro w2 hrow hg2; have hb2 := (Below.refl wo.heap.size wo).grown hg2 (Nat.le_refl _) (fun _ h => by cases h); obtain ⟨x2, rfl⟩ := past_of hb2; have hrow := hid hrow; clear hg2 hb2)
      go_loopw [7, 8, 9] (fun r c j wr => ∃ (t : Nat) (x : Past), j = .int .i64 t ∧ t ≤ n ∧ wr = wo.past x ∧ c = .int .u64 (mulC a y t) ∧ Hid ((wo.past x).ownsRow wo.heap.size 27 1 r (k + t) (u64s (rowK a y k t)))) (fun _ _ j _ => n - (intOf j).toNat)
      case atStart =>
        refine ⟨0, _, rfl, by omega, rfl, rfl, hid ?_⟩
        have := hrow.out
        simpa [rowK, u64s, toList_madeCells_one, Value.cells] using this
      case round =>
        obtain ⟨t, x, rfl, ht, rfl, rfl, HR⟩ := hrel
        by_cases hlt2 : t < n
        · obtain ⟨b1, o1, rfl, hc1⟩ := u64_at hca (show t < a.length by have := EN.out; omega)
          obtain ⟨p, q⟩ := da.at t
          obtain ⟨r, s⟩ := mul_small ⟨p, q⟩ hy
          obtain ⟨u, v⟩ := mulC_in da hy t
          have e1 : IntKind.u64.wrap (atD a t * y) = atD a t * y := by rw [IntKind.wrap_u64]; omega
          have e2 : IntKind.u64.wrap (atD a t * y + mulC a y t) = mulX a y t := by rw [IntKind.wrap_u64]; unfold mulX; omega
          have e3 : 0 ≤ mulX a y t := by unfold mulX; omega
          have e4 : IntKind.u64.wrap ((mulX a y t).tdiv 65536) = mulC a y (t + 1) := by
            have hs : mulC a y (t + 1) = (atD a t * y + mulC a y t) / 65536 := rfl
            rw [Int.tdiv_eq_ediv_of_nonneg e3, IntKind.wrap_u64, hs]; unfold mulX; omega
          clear hca
          go_wp2_with fail
          refine wp_region_past (by kernel_rfl) (by kernel_rfl) ?_
          repeat (go_big_quiet_step ((fail)))
          refine wpQuiet_nil ?_
          rintro _ ⟨_, rfl⟩
          go_wp2_with (at_builtin; refine wpList_push rfl (.tmp 37) (.tmp 40) 67 rfl 27 i0 (.int .u64 0) 1 8 Try.underlying67 hi hz0 hz1 hz2 rfl (by decide) (w0 := wo) ?_ _ _ _ rfl (own_and HR.out _) _ (#[.int .u64 (mulX a y t % 65536)]) ?_ rfl rfl ?_ ?_ ?_ ?_; (· (repeat (first | exact Below.refl _ _ | refine RowKit.Below.past ?_ _ | refine RowKit.Below.alloc' ?_ _ | refine RowKit.Below.drew' ?_ | refine RowKit.Below.drewN' ?_ _ | refine RowKit.Below.setCell' ?_ (by simp [go_sem]) _))); (· simp [go_sem]); (· simp [Value.oneCell']); (· omega); (· (unfold maxLen; omega)); intro x1 g1 cap1 hown1)
          go_roundw
          case rel =>
            refine ⟨t + 1, _, by go_num, by omega, rfl, rfl, hid ?_⟩
            have e5 : rowK a y k (t + 1) = rowK a y k t ++ [mulX a y t % 65536] := by simp [rowK, List.range_succ]
            rw [e5, ← u64s_snoc]
            exact hown1
          case measure => simp [intOf]; omega
        · obtain rfl : t = n := by omega
          have hmc := mulC_in da hy t
          obtain ⟨p, q⟩ := hmc
          go_wp2_with (at_builtin; refine wpList_push rfl (.tmp 44) (.tmp 46) 67 rfl 27 i0 (.int .u64 0) 1 8 Try.underlying67 hi hz0 hz1 hz2 rfl (by decide) (w0 := wo) ?_ _ _ _ rfl (HR.out) _ (#[.int .u64 (mulC a y t)]) ?_ rfl rfl ?_ ?_ ?_ ?_; (· (repeat (first | exact Below.refl _ _ | refine RowKit.Below.past ?_ _ | refine RowKit.Below.alloc' ?_ _ | refine RowKit.Below.drew' ?_ | refine RowKit.Below.drewN' ?_ _ | refine RowKit.Below.setCell' ?_ (by simp [go_sem]) _))); (· simp [go_sem]); (· simp [Value.oneCell']); (· omega); (· (unfold maxLen; omega)); intro x1 g1 cap1 hown1)
          have hrd : (rowD a y k).length = k + t + 1 := by have := EN.out; rw [rowD_length]; omega
          have hrow2 : (wo.past x1).ownsRow wo.heap.size 27 1 (.slice (some ⟨g1, 0, none⟩) (k + t + 1) cap1) (k + t + 1) (u64s (rowD a y k)) := by
            have e6 : u64s (rowD a y k) = u64s (rowK a y k t) ++ [.int .u64 (mulC a y t)] := by rw [u64s_snoc, rowD, EN.out]
            rw [e6]; exact hown1
          have hL := timesK_length a b k
          rw [← hrd] at hrow2
          have hs := Sum_any C (some ⟨g1, 0, none⟩) cap cap1 (timesK a b k) (rowD a y k) (wo.past x1) (by have := EN.out; omega) (by omega) (timesK_digs a b k) (rowD_digs da hy k) ((Cells.of_own HO.out).past x1) (Cells.of_own hrow2)
          rw [hrd] at hs
          refine hs.mono ?_
          rintro _ w5 ⟨D, cd, rfl, hb5, ho5⟩
          have hso : sumD (timesK a b k) (rowD a y k) = timesK a b (k + 1) := by rw [timesK, EY.out]
          rw [hso] at ho5 ⊢
          have hbo := HB.out
          have hb6 : Below w.heap.size w w5 := below_trans' hbo (below_trans' (wo.below_past x1) hb5)
          have ho6 := hid (own_base ho5 (show w.heap.size ≤ (wo.past x1).heap.size by simp [go_sem]; have := hbo.size; omega))
          have hb6 := hid hb6
          clear hb5 ho5 hs hrow2 hown1 hbo
          go_wp2
          go_roundw
          case rel => exact ⟨k + 1, D, cd, by go_num, by omega, rfl, hb6, ho6⟩
          case measure => simp [intOf]; omega
    · obtain rfl : k = m := by omega
      have ht : timesK a b k = timesD a b := by rw [timesD, EM.out]
      rw [ht] at HO
      go_wp2
      go_ret
      refine ⟨C, cap, ?_, HB.out, HO.out⟩
      rw [← ht]; rfl
end Go.Proofs.Ytccfamagckgamaa
