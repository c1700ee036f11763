/-
  Layer 21: the document's state, and who has the least V in it. No condition.
-/
import Derived.Test.YthlogfclgakhkaaDoorBanI
import Derived.Test.YthlogfclgakhkaaDoorHas
import Derived.Deep.RegionLaw
namespace Go.Proofs.YthlogfclgakhkaaDoor
open Go.RowKit Go.Shelf
attribute [local go_sem] Oper.semAt_some
set_option maxHeartbeats 400000 in
theorem rbring_any (a lo hi : Int) (h : lo ≤ hi) (w : World) : Calls Tryd.prog 12 #[.int .i64 a, .int .i64 lo, .int .i64 hi] w (fun e w' => e = .returned (.int .i64 (bringF a lo hi)) ∧ w' = w) := by
  go_enter Tryd.func12, Tryd.ntmps12
  go_wp2
  all_goals (go_ret; refine ⟨?_, rfl⟩; simp [bringF]; omega)
theorem take_atD {l : List Int} {k : Nat} (h : k < l.length) : l.take k ++ [atD l k] = l.take (k + 1) := by
  rw [List.take_add_one]; unfold atD; simp [h]
def maskN (wt k : Nat) : Nat := wt &&& (2 ^ k - 1)
theorem mask_zero (wt : Nat) : maskN wt 0 = 0 := by unfold maskN; simp
theorem mask_lt (wt k : Nat) : maskN wt k < 2 ^ k := by
  unfold maskN
  rw [Nat.and_two_pow_sub_one_eq_mod]
  exact Nat.mod_lt _ (Nat.two_pow_pos k)
theorem mask_succ (wt k : Nat) : maskN wt (k + 1) = if wt.testBit k = true then maskN wt k + 2 ^ k else maskN wt k := by
  unfold maskN
  rw [Nat.and_two_pow_sub_one_eq_mod, Nat.and_two_pow_sub_one_eq_mod, Nat.mod_pow_succ, Nat.testBit_eq_decide_div_mod_eq]
  have := Nat.mod_two_eq_zero_or_one (wt / 2 ^ k)
  rcases this with h | h <;> simp [h]
theorem mask_bit (wt k : Nat) : (maskN wt k).testBit k = false := Nat.testBit_lt_two_pow (mask_lt wt k)
/-- A state of the document's, at block d. -/
structure StAt (B : Nat) (w : World) (d : Nat) (p u s : Int) (wt n : Nat) (V : List Int) (A : Option Addr) (c : Nat) (m : Nat) (A2 : Option Addr) (c2 : Nat) (L : List Int) : Prop where
  ob : Rec w d 31 #[.int .i64 p, .int .i64 u, .int .i64 s, .int .u64 (wt : Int), .slice A n c, .slice A2 m c2]
  v : w.ownsRow B 22 1 (.slice A n c) n (u64s V)
  g : w.ownsRow B 3 1 (.slice A2 m c2) m (i64s L)
section
variable {B : Nat} {w w3 : World} {d : Nat} {p u s : Int} {wt n : Nat} {V : List Int} {A : Option Addr} {c m : Nat} {A2 : Option Addr} {c2 : Nat} {L : List Int}
theorem StAt.far (h : StAt B w d p u s wt n V A c m A2 c2 L) (hb : Below w.heap.size w w3) : StAt B w3 d p u s wt n V A c m A2 c2 L :=
  ⟨h.ob.below hb (Nat.le_refl _), own_below h.v hb (Nat.le_refl _), own_below h.g hb (Nat.le_refl _)⟩
theorem StAt.drew (h : StAt B w d p u s wt n V A c m A2 c2 L) : StAt B w.drew d p u s wt n V A c m A2 c2 L := ⟨h.ob, h.v, h.g⟩
theorem StAt.pushV (h : StAt B w d p u s wt n V A c m A2 c2 L) {g3 c3 n' : Nat} {V' : List Int} (ho : w3.ownsRow B 22 1 (.slice (some ⟨g3, 0, none⟩) n' c3) n' (u64s V')) (hg : w.grownBy w3 (Value.slice A n c).ownBlock) :
    StAt B (w3.setCell ⟨d, 4, none⟩ (.slice (some ⟨g3, 0, none⟩) n' c3)) d p u s wt n' V' (some ⟨g3, 0, none⟩) c3 m A2 c2 L := by
  have hr := h.ob.grown h.v hg (by decide)
  have hgr := own_keptT h.g (KeptT.grown (b := d) (ts := fun t => t = 22) h.v hg rfl) h.ob (by decide) (by decide)
  refine ⟨?_, own_setB ho hr (by decide) 4 _, own_setB hgr hr (by decide) 4 _⟩
  have := hr.set 4 (.slice (some ⟨g3, 0, none⟩) n' c3)
  simpa using this
theorem StAt.pushG (h : StAt B w d p u s wt n V A c m A2 c2 L) {g3 c3 m' : Nat} {L' : List Int} (ho : w3.ownsRow B 3 1 (.slice (some ⟨g3, 0, none⟩) m' c3) m' (i64s L')) (hg : w.grownBy w3 (Value.slice A2 m c2).ownBlock) :
    StAt B (w3.setCell ⟨d, 5, none⟩ (.slice (some ⟨g3, 0, none⟩) m' c3)) d p u s wt n V A c m' (some ⟨g3, 0, none⟩) c3 L' := by
  have hr := h.ob.grown h.g hg (by decide)
  have hvr := own_keptT h.v (KeptT.grown (b := d) (ts := fun t => t = 3) h.g hg rfl) h.ob (by decide) (by decide)
  refine ⟨?_, own_setB hvr hr (by decide) 5 _, own_setB ho hr (by decide) 5 _⟩
  have := hr.set 5 (.slice (some ⟨g3, 0, none⟩) m' c3)
  simpa using this
theorem StAt.setW (h : StAt B w d p u s wt n V A c m A2 c2 L) (wt' : Nat) : StAt B (w.setCell ⟨d, 3, none⟩ (.int .u64 (wt' : Int))) d p u s wt' n V A c m A2 c2 L := by
  refine ⟨?_, own_setB h.v h.ob (by decide) 3 _, own_setB h.g h.ob (by decide) 3 _⟩
  have := h.ob.set 3 (.int .u64 (wt' : Int))
  simpa using this
end
set_option maxRecDepth 100000 in
set_option maxHeartbeats 8000000 in
theorem Of_any {w : World} {wt : Nat} {p u s : Int} {V G : List Int} {cs : Array Value} (h : BIn w wt p u s V G cs) :
    Calls Tryd.prog 5 #[.agg cs] w (fun e w' => ∃ A c A2 c2, e = .returned (.agg #[.int .i64 p, .int .i64 u, .int .i64 s, .int .u64 ((ofS wt p u s V G).wt : Int), .slice A (ofS wt p u s V G).v.length c, .slice A2 (ofS wt p u s V G).v.length c2]) ∧ Cells w' A (u64s (ofS wt p u s V G).v) ∧ Below w.heap.size w w') := by
  obtain ⟨gv, ov, cv, AW, cw, rfl, h2, h3, h4, h5, hV, hG⟩ := h.ex
  have hw64 := h.w64
  obtain ⟨i0, hi, hz0, hz1, hz2⟩ := info_parts info_i64
  obtain ⟨j0, hj, jz0, jz1, jz2⟩ := info_parts info_u64
  have HI := hid hi
  have HJ := hid hj
  have HV := hid hV
  have HG := hid hG
  have HW := hid (fun x W => rbring_any x 1 16 (by omega) W)
  obtain ⟨nv, env⟩ : ∃ n, V.length = n := ⟨_, rfl⟩
  obtain ⟨nw, enw⟩ : ∃ n, G.length = n := ⟨_, rfl⟩
  rw [env] at h2 h4 ⊢
  rw [enw] at h3 h5 ⊢
  obtain ⟨K, eK⟩ : ∃ K, w.heap.size = K := ⟨_, rfl⟩
  obtain ⟨w1, ew1⟩ : ∃ W, W = ((w.alloc (.cells (ban6 wt p u s (.slice (some ⟨gv, ov, none⟩) nv cv) (.slice AW nw cw)) 28)).alloc (.cells #[.int .i64 0, .int .i64 0, .int .i64 0, .int .u64 0, .slice none 0 0, .slice none 0 0] 31)).alloc (.cells #[.int .i64 p, .int .i64 u, .int .i64 s, .int .u64 0, .slice none 0 0, .slice none 0 0] 31) := ⟨_, rfl⟩
  have hb1 : Below w.heap.size w w1 := by rw [ew1]; exact (((Below.refl _ w).alloc (Nat.le_refl _) _).alloc (by simp) _).alloc (by simp; omega) _
  have hr1 : Rec w1 K 28 (ban6 wt p u s (.slice (some ⟨gv, ov, none⟩) nv cv) (.slice AW nw cw)) := by rw [ew1, ← eK]; exact ((Rec.new w _ _).alloc _).alloc _
  have hr2 : Rec w1 (K + 1) 31 #[.int .i64 0, .int .i64 0, .int .i64 0, .int .u64 0, .slice none 0 0, .slice none 0 0] := by
    rw [ew1, ← eK]
    have := Rec.new (w.alloc (.cells (ban6 wt p u s (.slice (some ⟨gv, ov, none⟩) nv cv) (.slice AW nw cw)) 28)) 31 #[.int .i64 0, .int .i64 0, .int .i64 0, .int .u64 0, .slice none 0 0, .slice none 0 0]
    rw [World.size_alloc] at this
    exact this.alloc _
  have hr3 : Rec w1 (K + 1 + 1) 31 #[.int .i64 p, .int .i64 u, .int .i64 s, .int .u64 0, .slice none 0 0, .slice none 0 0] := by
    rw [ew1, ← eK]
    have := Rec.new ((w.alloc (.cells (ban6 wt p u s (.slice (some ⟨gv, ov, none⟩) nv cv) (.slice AW nw cw)) 28)).alloc (.cells #[.int .i64 0, .int .i64 0, .int .i64 0, .int .u64 0, .slice none 0 0, .slice none 0 0] 31)) 31 #[.int .i64 p, .int .i64 u, .int .i64 s, .int .u64 0, .slice none 0 0, .slice none 0 0]
    rw [World.size_alloc, World.size_alloc] at this
    exact this
  unfold ban6 at ew1 ⊢
  have EW1 := hid ew1
  have HB1 := hid hb1
  have HR1 := hid hr1
  have HR2 := hid hr2
  have HR3 := hid hr3
  have ENV := hid env
  have ENW := hid enw
  have EK := hid eK
  clear ew1 hb1 hr1 hr2 hr3 env enw eK hV hG h hi hj
  go_enter Tryd.func5, Tryd.ntmps5
  go_upto_region 2 with (fail)
  rw [← EW1.out, EK.out]
  go_wp2_with fail
  go_loopw [4] (fun i wr => ∃ (k : Nat) (A : Option Addr) (c : Nat) (A2 : Option Addr) (c2 : Nat) (L : List Int), i = .int .i64 (k : Int) ∧ k ≤ 8 ∧ k ≤ nv ∧ k ≤ nw ∧ Hid (StAt (K + 1 + 1) wr (K + 1 + 1) p u s (maskN wt k) k (V.take k) A c k A2 c2 L) ∧ Hid (Below (K + 1 + 1) w1 wr)) (fun i _ => 8 - natI i)
  case atStart =>
    refine ⟨0, none, 0, none, 0, [], rfl, by omega, by omega, by omega, hid ⟨?_, World.ownsRow_nil _ _ _ _, World.ownsRow_nil _ _ _ _⟩, hid (Below.refl _ _)⟩
    rw [mask_zero]; exact HR3.out
  case round =>
    clear HR3
    obtain ⟨k, A, c, A2, c2, L, rfl, hk8, hkv, hkw, HS, HB⟩ := hrel
    have hBw : K + 1 + 1 ≤ wr.heap.size := by have := HB.out.size; have := Rec.lt HS.out.ob; omega
    have hw1s : w.heap.size ≤ wr.heap.size := by rw [EK.out]; omega
    have HBW := hid (show Below w.heap.size w wr from HB1.out.trans (HB.out.mono (by rw [EK.out]; omega)))
    have r1 := hid ((HB.out.block K (by omega)).trans HR1.out : Rec wr K 28 _)
    have b4 := (Rec.cell r1.out 4)
    have b5 := (Rec.cell r1.out 5)
    simp [ban6] at b4 b5
    have d4 := Rec.cell HS.out.ob 4
    have f4 := Rec.frozen HS.out.ob 4
    simp at d4
    have hdl := Rec.lt HS.out.ob
    by_cases hlt : k < 8 ∧ k < nv ∧ k < nw
    · obtain ⟨hk1, hk2, hk3⟩ := hlt
      have hd8 : decide ((k : Int) < 8) = true := by simp; omega
      obtain ⟨g5, o5, e5, cx⟩ := u64_at (HV.out.keep (below_cell HBW.out (Nat.le_refl _))) (k := k) (by rw [ENV.out]; exact hk2)
      cases e5
      obtain ⟨x, ex⟩ : ∃ x, atD V k = x := ⟨_, rfl⟩
      rw [ex] at cx
      have HTK := hid (show u64s (V.take k) ++ [.int .u64 x] = u64s (V.take (k + 1)) by rw [← ex, u64s_snoc, take_atD (by rw [ENV.out]; exact hk2)])
      clear ex
      go_upto_region 5 with (fail)
      go_cut [36] from 28 to 37 (fun _ wx => ∃ g3 c3, Hid (StAt (K + 1 + 1) wx (K + 1 + 1) p u s (maskN wt k) (k + 1) (V.take (k + 1)) (some ⟨g3, 0, none⟩) c3 k A2 c2 L) ∧ Hid (Below (K + 1 + 1) w1 wx) ∧ K + 1 + 1 ≤ wx.heap.size)
      case first =>
       go_region_law ((first | (refine step_pushB rfl (.tmp 29) (.tmp 35) 25 rfl 22 j0 (.int .u64 0) 1 8 Tryd.underlying25 HJ.out jz0 jz1 jz2 rfl (by decide) (K + 1 + 1) ?_ (.slice A k c) k (u64s (V.take k)) ?_ HS.out.v.drew _ #[.int .u64 x] ?_ rfl rfl ?_ ?_ ?_ ?_; (· exact hBw); (· rfl); (· simp [go_sem]); (· simp [Value.oneCell']); (· omega); (· unfold maxLen; omega); intro w3 g3 c3 ho3 hg3 _; have HO3 := hid ho3; have HG3 := hid hg3; have HR3 := hid (Rec.grown (Rec.drew HS.out.ob) HS.out.v.drew hg3 (by decide)); have f13 : w3.frozen? ⟨K + 1 + 1, 4, none⟩ = false := Rec.frozen HR3.out 4; have hlt3 := Rec.lt HR3.out; have d13 : w3.cell? ⟨K + 1 + 1, 4, none⟩ = some (.slice A k c) := (by rw [Rec.cell HR3.out]; simp); clear ho3 hg3) | fail))
       all_goals
        go_wp2_with fail
        go_meet
        case rel =>
          exact ⟨g3, c3, hid (HS.out.drew.pushV (V' := V.take (k + 1)) (by rw [← HTK.out]; exact HO3.out) HG3.out), hid (((HB.out.drew).grown HG3.out hBw (fun k hk => (HS.out.v.drew.lt k hk).1)).setCell (p := ⟨K + 1 + 1, 4, none⟩) (Nat.le_refl _) (.slice (some ⟨g3, 0, none⟩) (k + 1) c3)), by have := HG3.out.size; simp [World.setCell]; exact Nat.le_trans hBw this⟩
      case rest =>
        obtain ⟨g3, c3, HS4, HB4, hB4⟩ := hcut
        obtain ⟨w4, ew4⟩ : ∃ W : World, W = wc := ⟨_, rfl⟩
        rw [← ew4] at HS4 HB4 hB4 ⊢
        have r2 := hid ((HB4.out.block K (by omega)).trans HR1.out : Rec w4 K 28 _)
        have HBW4 := hid (show Below w.heap.size w w4 from HB1.out.trans (HB4.out.mono (by rw [EK.out]; omega)))
        clear ew4 b4 b5 d4 f4 hdl cx HTK r1
        have b5 := Rec.cell r2.out 5
        have d5 := Rec.cell HS4.out.ob 5
        have f5 := Rec.frozen HS4.out.ob 5
        have hdl := Rec.lt HS4.out.ob
        simp [ban6] at b5 d5
        obtain ⟨gw, ow, eA, cy⟩ := i64_at (HG.out.keep (below_cell HBW4.out (Nat.le_refl _))) (k := k) (by rw [ENW.out]; exact hk3)
        subst eA
        obtain ⟨y, ey⟩ : ∃ y, atL G k = y := ⟨_, rfl⟩
        rw [ey] at cy
        clear ey
        obtain ⟨y2, ey2⟩ : ∃ z, bringF y 1 16 = z := ⟨_, rfl⟩
        have HY := hid (ey2 ▸ HW.out y)
        clear ey2
        go_upto_region 6 with (fail)
        go_cut [47] from 38 to 48 (fun _ wx => ∃ g5 c5, Hid (StAt (K + 1 + 1) wx (K + 1 + 1) p u s (maskN wt k) (k + 1) (V.take (k + 1)) (some ⟨g3, 0, none⟩) c3 (k + 1) (some ⟨g5, 0, none⟩) c5 (L ++ [y2])) ∧ Hid (Below (K + 1 + 1) w1 wx) ∧ K + 1 + 1 ≤ wx.heap.size)
        case first =>
         go_region_law ((first | (refine step_pushB rfl (.tmp 39) (.tmp 46) 26 rfl 3 i0 (.int .i64 0) 1 8 Tryd.underlying26 HI.out hz0 hz1 hz2 rfl (by decide) (K + 1 + 1) ?_ (.slice A2 k c2) k (i64s L) ?_ HS4.out.g.drew _ #[.int .i64 y2] ?_ rfl rfl ?_ ?_ ?_ ?_; (· exact hB4); (· rfl); (· simp [go_sem]); (· simp [Value.oneCell']); (· omega); (· unfold maxLen; omega); intro w5 g5 c5 ho5 hg5 _; have HO5 := hid ho5; have HG5 := hid hg5; have HR5 := hid (Rec.grown (Rec.drew HS4.out.ob) HS4.out.g.drew hg5 (by decide)); have f15 : w5.frozen? ⟨K + 1 + 1, 5, none⟩ = false := Rec.frozen HR5.out 5; have hlt5 := Rec.lt HR5.out; have d15 : w5.cell? ⟨K + 1 + 1, 5, none⟩ = some (.slice A2 k c2) := (by rw [Rec.cell HR5.out]; simp); clear ho5 hg5) | (go_simp; refine (HY.out _).mono ?_; rintro _ w7 ⟨rfl, h7⟩; rw [h7]; clear h7 w7)))
         all_goals
          go_wp2_with fail
          go_meet
          case rel =>
            exact ⟨g5, c5, hid (HS4.out.drew.pushG (L' := L ++ [y2]) (by rw [← i64s_snoc]; exact HO5.out) HG5.out), hid (((HB4.out.drew).grown HG5.out hB4 (fun k hk => (HS4.out.g.drew.lt k hk).1)).setCell (p := ⟨K + 1 + 1, 5, none⟩) (Nat.le_refl _) (.slice (some ⟨g5, 0, none⟩) (k + 1) c5)), by have := HG5.out.size; simp [World.setCell]; exact Nat.le_trans hB4 this⟩
        case rest =>
          obtain ⟨g5, c5, HS6, HB6, hB6⟩ := hcut
          obtain ⟨w6, ew6⟩ : ∃ W : World, W = wc := ⟨_, rfl⟩
          rw [← ew6] at HS6 HB6 hB6 ⊢
          have r3 := hid ((HB6.out.block K (by omega)).trans HR1.out : Rec w6 K 28 _)
          clear ew6 b5 d5 f5 hdl cy r2 HS4 HB4 HS HB HBW HBW4 HY
          have b0 := Rec.cell r3.out 0
          have d3 := Rec.cell HS6.out.ob 3
          have f3 := Rec.frozen HS6.out.ob 3
          have hdl := Rec.lt HS6.out.ob
          simp [ban6] at b0 d3
          have HHS := hid (fun W => RHasN_any wt k (by omega) W)
          have HMS := hid (mask_succ wt k)
          have HWT := hid (fun (hb : maskN wt k + 2 ^ k < 18446744073709551616) W => RWithN_any (maskN wt k) k (by omega) (mask_bit wt k) hb W)
          have hml := mask_lt wt k
          have h2k : 2 ^ k ≤ 2 ^ 8 := Nat.pow_le_pow_right (by omega) hk8
          rcases Bool.eq_false_or_eq_true (wt.testBit k) with hb | hb
          · rw [hb] at HHS
            rw [hb, if_pos rfl] at HMS
            have HWT2 := hid (HWT.out (by omega))
            obtain ⟨m1, em1⟩ : ∃ z, maskN wt k = z := ⟨_, rfl⟩
            obtain ⟨m2, em2⟩ : ∃ z, m1 + 2 ^ k = z := ⟨_, rfl⟩
            rw [em1] at d3 HWT2 HMS
            rw [em2] at HWT2 HMS
            clear hb hml h2k HWT em1 em2
            go_wp2_with (first | (go_at_call 11; refine (HHS.out _).mono ?_; rintro _ w7 ⟨rfl, h7⟩; rw [h7]; clear h7 w7) | (go_at_call 13; refine (HWT2.out _).mono ?_; rintro _ _ ⟨rfl, x8, rfl⟩))
            go_roundw
            case rel => exact ⟨k + 1, some ⟨g3, 0, none⟩, c3, some ⟨g5, 0, none⟩, c5, L ++ [y2], by go_num, by omega, by omega, by omega, hid (by rw [HMS.out]; have := (HS6.out.setW m2).far ((w6.setCell ⟨K + 1 + 1, 3, none⟩ (.int .u64 (m2 : Int))).below_past x8); exact this), hid ((HB6.out.setCell (p := ⟨K + 1 + 1, 3, none⟩) (Nat.le_refl _) (.int .u64 (m2 : Int))).trans ((World.below_past _ x8).mono (by simp [World.setCell]; omega)))⟩
            case measure => simp [natI]; omega
          · rw [hb] at HHS
            rw [hb, if_neg (by simp)] at HMS
            clear hb hml h2k HWT
            go_wp2_with (first | (go_at_call 11; refine (HHS.out _).mono ?_; rintro _ w7 ⟨rfl, h7⟩; rw [h7]; clear h7 w7) | fail)
            go_roundw
            case rel => exact ⟨k + 1, some ⟨g3, 0, none⟩, c3, some ⟨g5, 0, none⟩, c5, L ++ [y2], by go_num, by omega, by omega, by omega, hid (by rw [HMS.out]; exact HS6.out), HB6⟩
            case measure => simp [natI]; omega
    · have hkn : k = min (min nv nw) 8 := by omega
      have HOF := hid (show (ofS wt p u s V G).wt = maskN wt k ∧ (ofS wt p u s V G).v = V.take k by unfold ofS maskN; rw [ENV.out, ENW.out, hkn]; exact ⟨rfl, rfl⟩)
      have HLK := hid (show (V.take k).length = k by rw [List.length_take, ENV.out]; omega)
      have e2 := HR2.out
      have r2 := hid ((HB.out.block (K + 1) (by omega)).trans HR2.out : Rec wr (K + 1) 31 _)
      have d0 := Rec.cell HS.out.ob 0
      have d1 := Rec.cell HS.out.ob 1
      have d2 := Rec.cell HS.out.ob 2
      have d3 := Rec.cell HS.out.ob 3
      have d5 := Rec.cell HS.out.ob 5
      simp at d0 d1 d2 d3 d5
      have t0 := Rec.cell r2.out 0
      have t1 := Rec.cell r2.out 1
      have t2 := Rec.cell r2.out 2
      have t3 := Rec.cell r2.out 3
      have t4 := Rec.cell r2.out 4
      have t5 := Rec.cell r2.out 5
      simp at t0 t1 t2 t3 t4 t5
      have g0 := Rec.frozen r2.out 0
      have g1 := Rec.frozen r2.out 1
      have g2 := Rec.frozen r2.out 2
      have g3 := Rec.frozen r2.out 3
      have g4 := Rec.frozen r2.out 4
      have g5 := Rec.frozen r2.out 5
      have hdl2 := Rec.lt r2.out
      have hcase : nv ≤ k ∨ (k < nv ∧ nw ≤ k) ∨ (k < nv ∧ k < nw ∧ 8 ≤ k) := by omega
      clear hkn hlt e2
      rcases hcase with h1 | ⟨h1, h2⟩ | ⟨h1, h2, h3⟩
      all_goals
        go_wp2_with fail
        refine bodyPost_ret (v := .agg #[.int .i64 p, .int .i64 u, .int .i64 s, .int .u64 (maskN wt k : Int), .slice A k c, .slice A2 k c2]) (by simp [results, Tryd.results5, go_sem, t0, t1, t2, t3, t4, t5, g0, g1, g2, g3, g4, g5]) rfl ?_
        refine ⟨A, c, A2, c2, by rw [HOF.out.1, HOF.out.2, HLK.out], ?_, ?_⟩
        · rw [HOF.out.2]
          have hbz : Below wr.heap.size wr wr := Below.refl _ _
          have hap : ∀ q : Nat, A = some ⟨q, 0, none⟩ → K + 1 + 1 ≤ q := fun q e => (HS.out.v.lt q (by rw [e]; rfl)).1
          intro hne
          obtain ⟨b1, o1, e1, hc⟩ := (Cells.of_own HS.out.v) hne
          refine ⟨b1, o1, e1, fun i v hi => ?_⟩
          have h0 : b1 ≠ K + 1 := by
            have hp : 0 < k := by
              rcases Nat.eq_zero_or_pos k with h0 | h0
              · subst h0; simp [u64s] at hne
              · exact h0
            obtain ⟨g, cc, ee, hg⟩ := own_succ HS.out.v hp
            rw [e1] at ee
            cases ee
            omega
          have e : ∀ (W : World) (j : Nat) (z : Value), (W.setCell ⟨K + 1, j, none⟩ z).cell? ⟨b1, o1 + i, none⟩ = W.cell? ⟨b1, o1 + i, none⟩ := fun W j z => World.cell?_setCell_other W ⟨K + 1, j, none⟩ ⟨b1, o1 + i, none⟩ z (fun e => h0 (congrArg Addr.block e).symm)
          rw [e, e, e, e, e, e]
          exact hc i v hi
        · have hK1 : w.heap.size ≤ K + 1 := by have := EK.out; omega
          exact (((((((HB1.out.trans (HB.out.mono (by rw [EK.out]; omega))).setCell (p := ⟨K + 1, 0, none⟩) hK1 _).setCell (p := ⟨K + 1, 1, none⟩) hK1 _).setCell (p := ⟨K + 1, 2, none⟩) hK1 _).setCell (p := ⟨K + 1, 3, none⟩) hK1 _).setCell (p := ⟨K + 1, 4, none⟩) hK1 _).setCell (p := ⟨K + 1, 5, none⟩) hK1 _)
end Go.Proofs.YthlogfclgakhkaaDoor
