/-
  Layer 21: a play of one's own. No condition.
-/
import Derived.Test.YthlogfclgakhkaaDoorBanP
import Derived.Laws.Bits64b
namespace Go.Proofs.YthlogfclgakhkaaDoor
open Go.RowKit Go.Shelf
attribute [local go_sem] Oper.semAt_some
def ofS (wt : Nat) (p u s : Int) (V G : List Int) : Bn :=
  { p := p, u := u, s := s, wt := wt &&& (2 ^ (min (min V.length G.length) 8) - 1), v := V.take (min (min V.length G.length) 8), g := G.take (min (min V.length G.length) 8) }
def ban6 (wt : Nat) (p u s : Int) (v g : Value) : Array Value := #[.int .u64 (wt : Int), .int .i64 p, .int .i64 u, .int .i64 s, v, g]
theorem mask_pow (n : Nat) (h : n ≤ 8) : IntKind.u64.wrap (IntKind.u64.wrap ((2 : Int) ^ n) - 1) = ((2 ^ n - 1 : Nat) : Int) := by
  have h2 : 2 ^ n ≤ 2 ^ 8 := Nat.pow_le_pow_right (by omega) h
  have h3 := Nat.two_pow_pos n
  have e : (2 : Int) ^ n = ((2 ^ n : Nat) : Int) := by simp
  rw [e]
  generalize 2 ^ n = x at h2 h3 ⊢
  rw [IntKind.wrap_u64, IntKind.wrap_u64]
  omega
theorem u64s_take2 (l : List Int) (n : Nat) : u64s (l.take n) = (u64s l).take n := by simp [u64s, List.map_take]
theorem drew_trans {w W : World} (h : Below w.drew.heap.size w.drew W) : Below w.heap.size w W := (Below.refl _ w).drew.trans h
set_option maxRecDepth 100000 in
set_option maxHeartbeats 4000000 in
theorem of_any (wt : Nat) (hwt : wt < 18446744073709551616) (p u s : Int) (gv ov cv nv : Nat) (V : List Int) (ev : V.length = nv) (hcv : nv ≤ cv) (AW : Option Addr) (cw nw : Nat) (G : List Int) (eg : G.length = nw) (hcw : nw ≤ cw) (hnv : nv ≤ 12) (hnw : nw ≤ 12) (w : World) (hV : Cells w (some ⟨gv, ov, none⟩) (u64s V)) (hG : Cells w AW (i64s G)) :
    Calls Tryd.prog 14 #[.agg (ban6 wt p u s (.slice (some ⟨gv, ov, none⟩) nv cv) (.slice AW nw cw))] w (fun e w' => ∃ b, e = .returned (.pointer (some ⟨b, 0, none⟩)) ∧ PlAt w.heap.size w' b (ofS wt p u s V G) ∧ Below w.heap.size w w') := by
  obtain ⟨n, en⟩ : ∃ n, min (min nv nw) 8 = n := ⟨_, rfl⟩
  have hnv1 : n ≤ nv := by omega
  have hnw1 : n ≤ nw := by omega
  have hn8 : n ≤ 8 := by omega
  have HS := hid (show ofS wt p u s V G = { p := p, u := u, s := s, wt := wt &&& (2 ^ n - 1), v := V.take n, g := G.take n } by unfold ofS; rw [ev, eg, en])
  have HM := hid (mask_pow n hn8)
  have hmin : min (min (nv : Int) (nw : Int)) 8 = (n : Int) := by omega
  have EN := hid en
  have HV := hid hV
  have HG := hid hG
  unfold ban6
  clear hV hG en
  have hmin2 : (if (8 : Int) < (if nw < nv then (nw : Int) else (nv : Int)) then (8 : Int) else if nw < nv then (nw : Int) else (nv : Int)) = (n : Int) := by
    split <;> split at * <;> omega
  clear hmin
  have HMIN := hid hmin2
  have HCL : Hid (∀ W, Below w.heap.size w W → Calls Tryd.prog 21 #[.slice (some ⟨gv, ov, none⟩) n cv] W (GivesOwn 22 1 n (u64s (V.take n)) W)) := hid (by
    intro W hb
    rcases Nat.eq_zero_or_pos n with h0 | h0
    · subst h0
      exact clone_zero _ _ _
    · exact clone_any _ _ _ _ (by rw [List.length_take]; omega) h0 (by omega) _ (by rw [u64s_take2]; exact (HV.out.below hb).take n))
  obtain ⟨w1, ew1⟩ : ∃ W, W = w.alloc (.cells (ban6 wt p u s (.slice (some ⟨gv, ov, none⟩) nv cv) (.slice AW nw cw)) 28) := ⟨_, rfl⟩
  have hb1 : Below w.heap.size w w1 := by rw [ew1]; exact (Below.refl _ w).alloc (Nat.le_refl _) _
  have hr1 : Rec w1 w.heap.size 28 (ban6 wt p u s (.slice (some ⟨gv, ov, none⟩) nv cv) (.slice AW nw cw)) := by rw [ew1]; exact Rec.new w _ _
  have HB1 := hid hb1
  have HBC := hid (fun W (hW : Below w1.heap.size w1 W) => (show W.cell? ⟨w.heap.size, 0, none⟩ = some (.int .u64 (wt : Int)) ∧ W.cell? ⟨w.heap.size, 1, none⟩ = some (.int .i64 p) ∧ W.cell? ⟨w.heap.size, 2, none⟩ = some (.int .i64 u) ∧ W.cell? ⟨w.heap.size, 3, none⟩ = some (.int .i64 s) ∧ W.cell? ⟨w.heap.size, 4, none⟩ = some (.slice (some ⟨gv, ov, none⟩) nv cv) ∧ W.cell? ⟨w.heap.size, 5, none⟩ = some (.slice AW nw cw) by
    have h := hr1.below hW (Nat.le_refl _)
    exact ⟨Rec.cell h 0, Rec.cell h 1, Rec.cell h 2, Rec.cell h 3, Rec.cell h 4, Rec.cell h 5⟩))
  obtain ⟨q0, q1, q2, q3, q4, q5⟩ := HBC.out w1 (Below.refl _ _)
  unfold ban6 at ew1
  have EW1 := hid ew1
  clear ew1 hb1 hr1 hmin2
  have h2n : 2 ^ n ≤ 256 := by have := Nat.pow_le_pow_right (n := 2) (by omega) hn8; exact this
  have hand : bits .and .u64 (wt : Int) ((2 ^ n - 1 : Nat) : Int) = ((wt &&& (2 ^ n - 1) : Nat) : Int) := bits_and_u64_nat _ _ hwt (by omega)
  have HAND := hid hand
  clear hand h2n hwt
  have i0 : (0 : Int) ≤ (n : Int) := by omega
  have i1 : (n : Int) ≤ (cv : Int) := by omega
  have i2 : (n : Int) ≤ (cw : Int) := by omega
  go_enter Tryd.func14, Tryd.ntmps14
  go_upto_region 2 with (fail)
  rw [HMIN.out, ← EW1.out]
  go_region_held3 (fun w' => w'.cell? ⟨w.heap.size, 0, none⟩ = some (.int .u64 (wt : Int)) ∧ w'.cell? ⟨w.heap.size, 1, none⟩ = some (.int .i64 p) ∧ w'.cell? ⟨w.heap.size, 2, none⟩ = some (.int .i64 u) ∧ w'.cell? ⟨w.heap.size, 3, none⟩ = some (.int .i64 s) ∧ w'.cell? ⟨w.heap.size, 4, none⟩ = some (.slice (some ⟨gv, ov, none⟩) nv cv) ∧ w'.cell? ⟨w.heap.size, 5, none⟩ = some (.slice AW nw cw)) ((first | (simp [go_sem, *]; done) | (simp [go_sem, *, World.cell?_alloc_some]; done))) (first | (go_at_call 21; (with_reducible refine (HCL.out _ (HB1.out.trans ((Below.refl _ w1).drew.mono (by have := HB1.out.size; omega)))).mono ?_); rintro _ w2 ⟨A2, c2, rfl, hb2, ho2⟩; have HB2 := hid hb2; have HO2 := hid ho2; clear hb2 ho2; obtain ⟨y0, y1, y2, y3, y4, y5⟩ := HBC.out w2 (drew_trans HB2.out)))
  obtain ⟨w3, ew3⟩ : ∃ W, W = w2.alloc (.cells #[.int .i64 p, .int .i64 u, .int .i64 s, .int .u64 (bits .and .u64 (wt : Int) (IntKind.u64.wrap (IntKind.u64.wrap ((2 : Int) ^ n) - 1))), .slice A2 n c2, .slice AW n cw] 47) := ⟨_, rfl⟩
  have hr3 : Rec w3 w2.heap.size 47 #[.int .i64 p, .int .i64 u, .int .i64 s, .int .u64 (bits .and .u64 (wt : Int) (IntKind.u64.wrap (IntKind.u64.wrap ((2 : Int) ^ n) - 1))), .slice A2 n c2, .slice AW n cw] := by rw [ew3]; exact Rec.new w2 _ _
  have hb3 : Below w2.heap.size w2 w3 := by rw [ew3]; exact (Below.refl _ w2).alloc (Nat.le_refl _) _
  have hb12 := drew_trans HB2.out
  have hs1 := HB1.out.size
  have hs2 : w1.heap.size ≤ w2.heap.size := hb12.size
  have HFIN : Hid (PlAt w.heap.size w3 w2.heap.size (ofS wt p u s V G) ∧ Below w.heap.size w w3) := hid (by
    have hbw3 : Below w.heap.size w w3 := (HB1.out.trans (hb12.mono hs1)).trans (hb3.mono (by omega))
    refine ⟨⟨by omega, A2, c2, AW, cw, ?_, ?_, ?_, ?_, ?_, ?_⟩, hbw3⟩
    · rw [HS.out]
      show Rec w3 w2.heap.size 47 #[.int .i64 p, .int .i64 u, .int .i64 s, .int .u64 ((wt &&& (2 ^ n - 1) : Nat) : Int), .slice A2 (V.take n).length c2, .slice AW (V.take n).length cw]
      rw [List.length_take, show min n V.length = n by omega, ← HAND.out, ← HM.out]
      exact hr3
    · rw [HS.out]
      show w3.ownsRow w.heap.size 22 1 (.slice A2 (V.take n).length c2) (V.take n).length (u64s (V.take n))
      rw [List.length_take, show min n V.length = n by omega]
      exact own_below (own_base HO2.out (by simp; omega)) hb3 (Nat.le_refl _)
    · rw [HS.out]
      show Cells w3 AW (i64s (G.take n))
      rw [show i64s (G.take n) = (i64s G).take n by simp [i64s, List.map_take]]
      exact (HG.out.below hbw3).take n
    · rw [HS.out]
      show (G.take n).length = (V.take n).length
      rw [List.length_take, List.length_take]; omega
    · intro g e
      have := (HO2.out.lt g (by rw [e]; rfl)).2
      omega
    · intro g o e hne
      rw [HS.out] at hne
      have hne' : G.take n ≠ [] := hne
      have : G ≠ [] := fun e0 => hne' (by rw [e0]; simp)
      obtain ⟨b1, o1, e1, hc⟩ := HG.out (by simpa [i64s] using this)
      rw [e] at e1
      injection e1 with e1
      injection e1 with e1 e2
      subst e1; subst e2
      have hlen : 0 < G.length := List.length_pos_iff.2 this
      exact World.block_lt_of_cell? w _ (hc 0 _ (List.getElem?_eq_getElem (by simpa [i64s] using hlen))))
  rw [← ew3]
  clear ew3 hr3 hb3 hb12 hs1 hs2 HO2 HB2 y0 y1 y2 y3 y4 y5 q0 q1 q2 q3 q4 q5
  go_wp2_with fail
  go_ret
  exact ⟨_, rfl, HFIN.out.1, HFIN.out.2⟩
end Go.Proofs.YthlogfclgakhkaaDoor
