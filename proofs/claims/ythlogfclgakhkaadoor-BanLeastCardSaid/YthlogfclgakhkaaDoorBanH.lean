/-
  Layer 21: whose turns, and how many ticks are ahead of one. No condition (the table of the library's that is read is a fact that is asked for).
-/
import Derived.Test.YthlogfclgakhkaaDoorBanG
import Derived.Test.YthlogfclgakhkaaDoorPushB
namespace Go.Proofs.YthlogfclgakhkaaDoor
open Go.RowKit Go.Shelf
attribute [local go_sem] Oper.semAt_some
theorem info_i64 : (Tryd.prog.info? 3).map (fun i => (i.zero, i.size, i.bytes)) = some (some (.int .i64 0), 1, 8) := by kernel_rfl
def lenS : Value → Nat | .slice _ n _ => n | _ => 0
theorem next_ok {B b : Nat} {w : World} {S : Bn} (h : PlAt B w b S) (hZ : Tz w) (hB : B ≤ w.heap.size) (hZB : 0 < B) (ok : OkS S) :
    Calls Tryd.prog 19 #[.pointer (some ⟨b, 0, none⟩)] w (fun e w' => e = .returned (.tuple #[.int .i64 (nxP S), .int .i64 (nxN S)]) ∧ PlAt B w' b (nxS S) ∧ Below B w w' ∧ KeptT b (fun t => t = 22) w w') := by
  obtain ⟨k, e, hk, _⟩ := ok.next
  exact next_any h hZ hB hZB ok.l8 ok.wt ok.u k e hk (ok.v k hk)
/-- What a state tells. -/
structure BIn (w : World) (wt : Nat) (p u s : Int) (V G : List Int) (cs : Array Value) : Prop where
  w64 : wt < 18446744073709551616
  ex : ∃ gv ov cv AW cw, cs = ban6 wt p u s (.slice (some ⟨gv, ov, none⟩) V.length cv) (.slice AW G.length cw) ∧ V.length ≤ cv ∧ G.length ≤ cw ∧ V.length ≤ 12 ∧ G.length ≤ 12 ∧ Cells w (some ⟨gv, ov, none⟩) (u64s V) ∧ Cells w AW (i64s G)
theorem BIn.below {w w' : World} {wt : Nat} {p u s : Int} {V G : List Int} {cs : Array Value} (h : BIn w wt p u s V G cs) (hb : Below w.heap.size w w') : BIn w' wt p u s V G cs := by
  obtain ⟨gv, ov, cv, AW, cw, h1, h2, h3, h4, h5, h6, h7⟩ := h.ex
  exact ⟨h.w64, gv, ov, cv, AW, cw, h1, h2, h3, h4, h5, h6.below hb, h7.below hb⟩
theorem BIn.of {w w1 : World} {wt : Nat} {p u s : Int} {V G : List Int} {cs : Array Value} (h : BIn w wt p u s V G cs) (hb : Below w.heap.size w w1) :
    Calls Tryd.prog 14 #[.agg cs] w1 (fun e w' => ∃ b, e = .returned (.pointer (some ⟨b, 0, none⟩)) ∧ PlAt w1.heap.size w' b (ofS wt p u s V G) ∧ Below w1.heap.size w1 w') := by
  obtain ⟨gv, ov, cv, AW, cw, rfl, h2, h3, h4, h5, h6, h7⟩ := h.ex
  exact of_any wt h.w64 p u s gv ov cv V.length V rfl h2 AW cw G.length G rfl h3 h4 h5 w1 (h6.below hb) (h7.below hb)
theorem ban_six {w : World} {wt : Nat} {p u s : Int} {V G : List Int} {cs : Array Value} (h : BIn w wt p u s V G cs) : ∃ v g, cs = #[.int .u64 (wt : Int), .int .i64 p, .int .i64 u, .int .i64 s, v, g] := by
  obtain ⟨gv, ov, cv, AW, cw, h1, _⟩ := h.ex
  exact ⟨_, _, h1⟩
theorem PlAt.wtc {B : Nat} {w : World} {b : Nat} {S : Bn} (h : PlAt B w b S) : w.cell? ⟨b, 2 + 1, none⟩ = some (.int .u64 (S.wt : Int)) := h.cells.2.2.2
set_option maxRecDepth 100000 in
set_option maxHeartbeats 4000000 in
theorem order_none {w : World} {wt : Nat} {p u s : Int} {V G : List Int} {cs : Array Value} (h : BIn w wt p u s V G cs) (h0 : (ofS wt p u s V G).wt = 0) (n : Nat) (hn : n ≤ 64) :
    Calls Tryd.prog 8 #[.agg cs, .int .i64 (n : Int)] w (Gives (.slice none 0 0) w) := by
  obtain ⟨v, g, rfl⟩ := ban_six h
  have hb1 := (Below.refl w.heap.size w).alloc (Nat.le_refl _) (.cells #[.int .u64 (wt : Int), .int .i64 p, .int .i64 u, .int .i64 s, v, g] 28)
  have HO := hid (h.of hb1)
  have HB1 := hid hb1
  have H0 := hid h0
  clear h h0 hb1
  go_enter Tryd.func8, Tryd.ntmps8
  go_upto_region 2 with (go_at_call 14; refine HO.out.mono ?_; rintro _ w2 ⟨b, rfl, h2, hb2⟩; have H2 := hid h2; have HB2 := hid (below_trans' HB1.out hb2); clear h2 hb2)
  have c3 := H2.out.wtc
  rw [H0.out] at c3
  go_wp2_with fail
  go_loopw [6] (fun o wr => o = .slice none 0 0 ∧ wr = w2) (fun _ _ => 0)
  case atStart => exact ⟨rfl, rfl⟩
  case round =>
    obtain ⟨rfl, rfl⟩ := hrel
    go_wp2_with fail
    go_ret
    exact Gives.mk rfl HB2.out
theorem PlAt.grown {B b : Nat} {w w' : World} {S : Bn} (h : PlAt B w b S) {e : TypeId} {base size n : Nat} {v : Value} {xs : List Value} (ho : w.ownsRow base e size v n xs) (hg : w.grownBy w' v.ownBlock) (he1 : 47 ≠ e) (he2 : e ≠ 22) (hbase : B ≤ base) : PlAt B w' b S := by
  obtain ⟨A, c', Ag, cg, h1, h2, h3, h4, h5, h6⟩ := h.ex
  have hk := KeptT.grown (b := b) (ts := fun t => t = e) ho hg rfl
  refine ⟨h.big, A, c', Ag, cg, h1.grown ho hg he1, own_keptT h2 hk h1 (by decide) (fun e2 => he2 e2.symm), ?_, h4, h5, h6⟩
  intro hne
  obtain ⟨b1, o1, e1, hc⟩ := h3 hne
  refine ⟨b1, o1, e1, fun i v' hi => ?_⟩
  have hlt := h6 b1 o1 e1 (fun e0 => hne (by rw [e0]; rfl))
  rw [World.cell?_of_block (hg.block b1 (World.block_lt_of_cell? w _ (hc i v' hi)) (fun e2 => by have := (ho.lt b1 e2.symm).1; omega))]
  exact hc i v' hi
/-- A row of ints of the call's own, behind a turn. -/
theorem own_next {B b base n : Nat} {w w' : World} {S : Bn} {v : Value} {xs : List Value} (h : PlAt B w b S) (ho : w.ownsRow base 3 1 v n xs) (hk : KeptT b (fun t => t = 22) w w') : w'.ownsRow base 3 1 v n xs := by
  obtain ⟨A, c', Ag, cg, h1, _⟩ := h.ex
  exact own_keptT ho hk h1 (by decide) (by decide)
set_option maxRecDepth 100000 in
set_option maxHeartbeats 4000000 in
theorem order_some {w : World} {wt : Nat} {p u s : Int} {V G : List Int} {cs : Array Value} (h : BIn w wt p u s V G cs) (ok : OkS (ofS wt p u s V G)) (hZ : Tz w) (n : Nat) (hn : n ≤ 64) :
    Calls Tryd.prog 8 #[.agg cs, .int .i64 (n : Int)] w (GivesOwn 3 1 n (i64s (ordK n (ofS wt p u s V G))) w) := by
  obtain ⟨i0, hi, hz0, hz1, hz2⟩ := info_parts info_i64
  obtain ⟨v, g, rfl⟩ := ban_six h
  have hb1 := (Below.refl w.heap.size w).alloc (Nat.le_refl _) (.cells #[.int .u64 (wt : Int), .int .i64 p, .int .i64 u, .int .i64 s, v, g] 28)
  have HO := hid (h.of hb1)
  have HB1 := hid hb1
  obtain ⟨S, eS⟩ : ∃ S, ofS wt p u s V G = S := ⟨_, rfl⟩
  rw [eS] at HO ok ⊢
  have OK := hid ok
  have HZ := hid hZ
  have hzlt := hZ.lt
  clear h hb1 eS ok hZ
  go_enter Tryd.func8, Tryd.ntmps8
  go_upto_region 2 with (go_at_call 14; refine HO.out.mono ?_; rintro _ w2 ⟨b, rfl, h2, hb2⟩; have H2 := hid h2; have HB2 := hid (below_trans' HB1.out hb2); clear h2 hb2)
  obtain ⟨B, eB⟩ : ∃ B, (w.alloc (.cells #[.int .u64 (wt : Int), .int .i64 p, .int .i64 u, .int .i64 s, v, g] 28)).heap.size = B := ⟨_, rfl⟩
  have hBw : w.heap.size ≤ B := by rw [← eB]; simp
  rw [eB] at H2
  have hB2 : B ≤ w2.heap.size := by have := H2.out.lt; have := H2.out.big; omega
  have HB2' := hid (Below.refl B w2)
  clear eB
  go_wp2_with fail
  go_loopw [6, 7, 8] (fun o _ _ wr => ∃ (k : Nat) (A : Option Addr) (c : Nat), o = .slice A k c ∧ k ≤ n ∧ Hid (wr.ownsRow B 3 1 (.slice A k c) k (i64s (ordK k S))) ∧ Hid (PlAt B wr b (stK k S)) ∧ Hid (Below w.heap.size w wr) ∧ B ≤ wr.heap.size) (fun o _ _ _ => n - lenS o)
  case atStart => exact ⟨0, none, 0, rfl, Nat.zero_le _, hid (World.ownsRow_nil _ _ _ _), H2, HB2, hB2⟩
  case round =>
    clear H2 HB2 HB2' hB2
    obtain ⟨k, A, c, rfl, hk, HOW, HP, HBW, hBr⟩ := hrel
    have okk := OK.out.st k
    have c3 := HP.out.wtc
    obtain ⟨wt', ewt⟩ : ∃ x, (stK k S).wt = x := ⟨_, rfl⟩
    rw [ewt] at c3
    have hw0 : ((wt' : Int) != 0) = true := by have := okk.w0; rw [ewt] at this; simp; omega
    have HOK := hid okk
    have HN := hid (next_ok HP.out (HZ.out.below HBW.out) hBr (by have := hzlt; omega) okk)
    clear ewt okk
    obtain ⟨x, ex⟩ : ∃ x, nxP (stK k S) = x := ⟨_, rfl⟩
    have HX := hid (show i64s (ordK k S) ++ [.int .i64 x] = i64s (ordK (k + 1) S) by rw [i64s_snoc, ordK_succ, ex])
    rw [ex] at HN
    clear ex
    by_cases hlt : k < n
    · go_upto_region 5 with (go_at_call 19; refine HN.out.mono ?_; rintro _ w3 ⟨rfl, h3, hb3, hk3⟩; have HP3 := hid h3; have HO3 := hid (own_next HP.out HOW.out hk3); have HB3 := hid (HBW.out.trans (hb3.mono hBw)); have hB3 : B ≤ w3.heap.size := (Nat.le_trans hBr hk3.size); clear h3 hb3 hk3)
      go_wp2_with (at_builtin; refine wpList_pushB rfl (.tmp 28) (.tmp 30) 26 rfl 3 i0 (.int .i64 0) 1 8 Tryd.underlying26 hi hz0 hz1 hz2 rfl (by decide) B hB3 (.slice A k c) k (i64s (ordK k S)) rfl HO3.out _ #[.int .i64 x] rfl rfl rfl (by simp [Value.oneCell']) (by omega) (by unfold maxLen; omega) ?_; intro w4 g4 cap4 ho4 hg4 _; have HP4 := hid (HP3.out.grown HO3.out hg4 (by decide) (by decide) (Nat.le_refl _)); have HB4 := hid (HB3.out.grown hg4 HB3.out.size (fun k hk => by have := (HO3.out.lt k hk).1; omega)); have hB4 : B ≤ w4.heap.size := Nat.le_trans hB3 hg4.size; have HO4 := hid ho4; clear ho4 hg4)
      go_roundw
      case rel => exact ⟨k + 1, some ⟨g4, 0, none⟩, cap4, by go_num, by omega, hid (by rw [← HX.out]; exact HO4.out), hid (by rw [stK_succ]; exact HP4.out), HB4, hB4⟩
      case measure => simp [lenS]; omega
    · obtain rfl : k = n := by omega
      go_wp2_with fail
      go_ret
      exact ⟨A, c, rfl, HBW.out, own_base HOW.out hBw⟩
def natI : Value → Nat | .int _ z => z.toNat | _ => 0
set_option maxRecDepth 100000 in
set_option maxHeartbeats 4000000 in
theorem ticks_any {w : World} {wt : Nat} {p u s : Int} {V G : List Int} {cs : Array Value} (h : BIn w wt p u s V G cs) (ok : OkS (ofS wt p u s V G)) (hZ : Tz w) (q : Nat) (hq : (ofS wt p u s V G).wt.testBit q = true) :
    Calls Tryd.prog 9 #[.agg cs, .int .i64 (q : Int)] w (Gives (.int .i64 (ticksF 1000 (ofS wt p u s V G) q 0)) w) := by
  obtain ⟨v, g, rfl⟩ := ban_six h
  have hb1 := (Below.refl w.heap.size w).alloc (Nat.le_refl _) (.cells #[.int .u64 (wt : Int), .int .i64 p, .int .i64 u, .int .i64 s, v, g] 28)
  have HO := hid (h.of hb1)
  have HB1 := hid hb1
  obtain ⟨S, eS⟩ : ∃ S, ofS wt p u s V G = S := ⟨_, rfl⟩
  rw [eS] at HO ok hq ⊢
  have OK := hid ok
  have HZ := hid hZ
  have hzlt := hZ.lt
  have h8 : S.wt < 256 := Nat.lt_of_lt_of_le ok.wt (Nat.pow_le_pow_right (n := 2) (by omega) ok.l8)
  have HHS := hid (fun W => (show Calls Tryd.prog 20 #[.int .u64 (S.wt : Int), .int .i64 (q : Int)] W (Gives (.bool true) W) by
    have := Has_any (S.wt : Int) (q : Int) W ⟨by omega, by omega⟩
    rwa [hasF_nat _ _ (by have := bits_lt ok.wt hq; have := ok.l8; omega), hq] at this))
  clear h hb1 eS ok hZ hq h8
  go_enter Tryd.func9, Tryd.ntmps9
  go_upto_region 2 with (go_at_call 14; refine HO.out.mono ?_; rintro _ w2 ⟨b, rfl, h2, hb2⟩; have H2 := hid h2; have HB2 := hid (below_trans' HB1.out hb2); clear h2 hb2)
  obtain ⟨B, eB⟩ : ∃ B, (w.alloc (.cells #[.int .u64 (wt : Int), .int .i64 p, .int .i64 u, .int .i64 s, v, g] 28)).heap.size = B := ⟨_, rfl⟩
  have hBw : w.heap.size ≤ B := by rw [← eB]; simp
  rw [eB] at H2
  have hB2 : B ≤ w2.heap.size := by have := H2.out.lt; have := H2.out.big; omega
  clear eB
  have c3 := H2.out.wtc
  obtain ⟨wt', ewt⟩ : ∃ x, S.wt = x := ⟨_, rfl⟩
  rw [ewt] at c3 HHS
  clear ewt
  go_upto_region 5 with (go_at_call 20; refine (HHS.out _).mono ?_; rintro _ _ ⟨rfl, x2, rfl⟩)
  obtain ⟨w3, ew3⟩ : ∃ W, W = w2.past x2 := ⟨_, rfl⟩
  have hb3 : Below w2.heap.size w2 w3 := by rw [ew3]; exact w2.below_past x2
  have H3 := hid (H2.out.far hb3)
  have HB3 := hid (HB2.out.trans (hb3.mono HB2.out.size))
  have hB3 : B ≤ w3.heap.size := Nat.le_trans hB2 hb3.size
  rw [← ew3]
  clear ew3 hb3 H2 HB2 hB2 HHS c3
  go_wp2_with fail
  go_loopw [6, 7, 8, 18] (fun t _ _ i wr => ∃ (k : Nat) (y : Int), i = .int .i64 (k : Int) ∧ t = .int .i64 y ∧ k ≤ 1000 ∧ 0 ≤ y ∧ y ≤ 16 * k ∧ Hid (ticksF 1000 S q 0 = ticksF (1000 - k) (stK k S) q y) ∧ Hid (PlAt B wr b (stK k S)) ∧ Hid (Below w.heap.size w wr) ∧ B ≤ wr.heap.size) (fun _ _ _ i _ => 1000 - natI i)
  case atStart => exact ⟨0, 0, rfl, rfl, by omega, by omega, by omega, hid rfl, H3, HB3, hB3⟩
  case round =>
    clear H3 HB3 hB3
    obtain ⟨k, y, rfl, rfl, hk, hy0, hy1, HT, HP, HBW, hBr⟩ := hrel
    have okk := OK.out.st k
    have HN := hid (next_ok HP.out (HZ.out.below HBW.out) hBr (by have := hzlt; omega) okk)
    have HST := hid (stK_succ k S)
    by_cases hlt : k < 1000
    · obtain ⟨m, em⟩ : ∃ m, 1000 - k = m + 1 := ⟨1000 - k - 1, by omega⟩
      have HT2 := hid (show ticksF 1000 S q 0 = if nxP (stK k S) = q then y else ticksF m (nxS (stK k S)) q (y + nxN (stK k S)) by rw [HT.out, em]; rfl)
      have hN := nxN_le (stK k S)
      have EM := hid em
      obtain ⟨x, ex⟩ : ∃ x, nxP (stK k S) = x := ⟨_, rfl⟩
      obtain ⟨z, ez⟩ : ∃ z, nxN (stK k S) = z := ⟨_, rfl⟩
      rw [ex, ez] at HN HT2
      rw [ez] at hN
      clear ex ez okk em HT
      have hz1 := hN.1
      have hz2 := hN.2
      clear hN
      rcases beq_cases x (q : Int) with hx | hx
      · have hx2 : x = (q : Int) := by simpa using hx
        have HR := hid (show ticksF 1000 S q 0 = y by rw [HT2.out, if_pos hx2])
        clear hx2 HT2
        go_wp2_with (go_at_call 19; refine HN.out.mono ?_; rintro _ w4 ⟨rfl, h4, hb4, hk4⟩; have HB4 := hid (HBW.out.trans (hb4.mono hBw)); clear h4 hb4 hk4)
        go_ret
        exact Gives.mk (by rw [HR.out]; rfl) HB4.out
      · have hx2 : ¬ x = (q : Int) := by simpa using hx
        have HR := hid (show ticksF 1000 S q 0 = ticksF m (nxS (stK k S)) q (y + z) by rw [HT2.out, if_neg hx2])
        clear hx2 HT2
        go_wp2_with (go_at_call 19; refine HN.out.mono ?_; rintro _ w4 ⟨rfl, h4, hb4, hk4⟩; have HP4 := hid h4; have HB4 := hid (HBW.out.trans (hb4.mono hBw)); have hB4 : B ≤ w4.heap.size := (Nat.le_trans hBr hk4.size); clear h4 hb4 hk4)
        go_roundw
        case rel => exact ⟨k + 1, y + z, by go_num, rfl, by omega, by omega, by omega, hid (by rw [HR.out, HST.out, show 1000 - (k + 1) = m by have := EM.out; omega]), hid (by rw [HST.out]; exact HP4.out), HB4, hB4⟩
        case measure => simp [natI]; omega
    · obtain rfl : k = 1000 := by omega
      have HR := hid (show ticksF 1000 S q 0 = -1 by rw [HT.out]; rfl)
      clear HT HN okk
      go_wp2_with fail
      go_ret
      exact Gives.mk (by rw [HR.out]; rfl) HBW.out
end Go.Proofs.YthlogfclgakhkaaDoor
