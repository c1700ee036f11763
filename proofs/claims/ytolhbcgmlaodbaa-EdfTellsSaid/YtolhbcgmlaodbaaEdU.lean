/-
  Layer 42: Run, by the document. No condition.
-/
import Derived.Test.YtolhbcgmlaodbaaEdO
import Derived.Test.YtolhbcgmlaodbaaEdT
import Derived.ArgAppend
import Derived.Test.YtolhbcgmlaodbaaAppB
import Derived.Test.YtolhbcgmlaodbaaRegSplit
import Derived.Deep.CutRange
import Derived.StillTailTactics
import Derived.Deep.RegionLaw
namespace Go.Proofs.Ytolhbcgmlaodbaa
open Go Go.RowKit
def aL : List Wk := [⟨1, 2, 2⟩, ⟨2, 4, 4⟩]
def aL3 : List Wk := [⟨1, 2, 2⟩, ⟨2, 4, 4⟩, ⟨1, 2, 2⟩]
theorem aL_may : mayF aL = true := by kernel_rfl
theorem aL3_may : mayF aL3 = true := by kernel_rfl
theorem aL_who : whoE aL 4 = [0, 1, 0, 1] := by kernel_rfl
theorem aL_miss : missE aL 4 = -1 := by kernel_rfl
theorem aL_ld : ldE aL = (1, 1) := by kernel_rfl
theorem aL3_fits : fitsN aL3 9 = 4 := by kernel_rfl
theorem aL_dem : demE aL 4 = 4 := by kernel_rfl
theorem info_wk : (Try.prog.info? 37).map (fun i => (i.zero, i.size, i.bytes)) = some (some (.agg #[.int .i64 0, .int .i64 0, .int .i64 0]), 3, 24) := by kernel_rfl
set_option maxRecDepth 100000 in
set_option maxHeartbeats 4000000 in
theorem awake_any (w : World) : Calls Try.prog 7 #[] w (Gives (.bool true) w) := by
  obtain ⟨s, es⟩ : ∃ s, w.heap.size = s := ⟨_, rfl⟩
  obtain ⟨w1, ew1⟩ : ∃ w1, w1 = w.alloc (.cells #[.int .i64 1, .int .i64 2, .int .i64 2, .int .i64 2, .int .i64 4, .int .i64 4] 37) := ⟨_, rfl⟩
  have hb1 : Below w.heap.size w w1 := by rw [ew1]; exact (Below.refl _ w).alloc (Nat.le_refl _) _
  have hs1 : w1.heap.size = s + 1 := by rw [ew1]; simp [es]
  have ho1 : w1.ownsRow s 37 3 (.slice (some ⟨s, 0, none⟩) 2 2) 2 (tab wkV aL) := by
    have h5 := World.ownsRow_lit (base := s) (size := 3) (e := 37) w #[.int .i64 1, .int .i64 2, .int .i64 2, .int .i64 2, .int .i64 4, .int .i64 4] 2 (by omega) (by unfold maxLen; omega) rfl
    rw [es] at h5
    rw [ew1]; exact h5
  have EW1 := hid ew1
  have HB1 := hid hb1
  have HO1 := hid ho1
  have HRUN := hid (Run_any (some ⟨s, 0, none⟩) 2 2 aL rfl aL_may 4 w1 (Cells.of_own ho1))
  rw [show longE 4 = 4 from by decide, aL_who, aL_miss] at HRUN
  clear ew1 hb1 ho1
  go_enter Try.func7, Try.ntmps7
  go_upto_region 2 with (fail)
  rw [← EW1.out]
  go_wp2_with fail
  refine HRUN.out.mono ?_
  rintro _ w2 ⟨R, c, rfl, hb2, hR⟩
  have HO2 := hid (own_below HO1.out hb2 (Nat.le_refl _))
  have HLD := hid (Load_any (some ⟨s, 0, none⟩) 2 2 aL rfl aL_may w2 (Cells.of_own HO2.out))
  rw [aL_ld] at HLD
  have HB2 := hid (HB1.out.trans (hb2.mono HB1.out.size))
  have HR2 := hid hR
  have hs2 := hb2.size
  clear hb2 hR HRUN
  go_upto_region 4 with (go_at_call 10; refine HLD.out.mono ?_; rintro _ _ ⟨rfl, x1, rfl⟩)
  obtain ⟨w3, ew3⟩ : ∃ W, W = w2.past x1 := ⟨_, rfl⟩
  have hb3 : Below w2.heap.size w2 w3 := by rw [ew3]; exact w2.below_past _
  rw [← ew3]
  have HO3 := hid (own_below HO2.out hb3 (Nat.le_refl _))
  have HR3 := hid (own_below HR2.out hb3 (Nat.le_refl _))
  have HB3 := hid (HB2.out.trans (hb3.mono HB2.out.size))
  have hs3 : w2.heap.size ≤ w3.heap.size := hb3.size
  obtain ⟨g, o, eg, c0, c1, c2⟩ := wk_at (Cells.of_own HO3.out) (k := 0) (by decide)
  injection eg with eg
  injection eg with eg1 eg2 _
  subst eg1; subst eg2
  rw [show wk aL 0 = ⟨1, 2, 2⟩ from rfl] at c0 c1 c2
  simp at c0 c1 c2
  obtain ⟨i0, ii, iz0, iz1, iz2⟩ := info_parts info_wk
  have HII := hid ii
  clear ew3 HLD ii hb3
  obtain ⟨W, eW⟩ : ∃ W, W = w3.alloc (.cells #[.int .i64 1, .int .i64 2, .int .i64 2] 37) := ⟨_, rfl⟩
  have hbW : Below w3.heap.size w3 W := by rw [eW]; exact (Below.refl _ w3).alloc (Nat.le_refl _) _
  have HOW := hid (own_below HO3.out hbW (Nat.le_refl _))
  have HCW := hid (show ∀ j u, (tab wkV aL)[j]? = some u → W.cell? ⟨s, 0 + j, none⟩ = some u from by
    obtain ⟨g, o, e, hc⟩ := Cells.of_own HOW.out (by decide)
    injection e with e
    injection e with e1 e2 _
    subst e1; subst e2
    exact hc)
  have HNW := hid (show ∀ j u, ([.int .i64 1, .int .i64 2, .int .i64 2] : List Value)[j]? = some u → W.cell? ((⟨w3.heap.size, 0, none⟩ : Addr).add j) = some u from by
    intro j u hj
    have : (⟨w3.heap.size, 0, none⟩ : Addr).add j = ⟨w3.heap.size, j, none⟩ := by unfold Addr.add; split <;> simp_all
    rw [this, eW, World.cell?_alloc_new]
    simpa using hj)
  have EW := hid eW
  have HBW := hid hbW
  clear eW hbW
  go_wp2_with (at_builtin; rw [← EW.out]; refine wpList_append_arg W rfl (.tmp 22) (.tmp 26) 22 rfl 37 i0 (.agg #[.int .i64 0, .int .i64 0, .int .i64 0]) 3 24 Try.underlying22 HII.out iz0 iz1 iz2 rfl (by decide) s 0 2 2 (tab wkV aL) rfl rfl HCW.out ⟨w3.heap.size, 0, none⟩ 1 1 [.int .i64 1, .int .i64 2, .int .i64 2] rfl rfl HNW.out (by simp [Value.oneCell']) (fun h => absurd h (by omega)) (by unfold maxLen; omega) (by omega) (fun h => absurd h (by omega)) ?_; intro _ v4 w4 ho4 hg4; obtain ⟨g4, c4, rfl, _⟩ := own_succ ho4 (by omega); have HO4 := hid ho4; have HG4 := hid hg4; clear ho4 hg4)
  have hb4 : Below W.heap.size W w4 := Below.grown (Below.refl _ W) HG4.out (Nat.le_refl _) (fun k h => by cases h)
  have hb34 : Below w3.heap.size w3 w4 := below_trans' HBW.out hb4
  have HFI := hid (Fits_any (some ⟨g4, 0, none⟩) c4 3 aL3 rfl aL3_may 9 w4 (Cells.of_own HO4.out))
  rw [show (farE 9).toNat = 9 from by decide, aL3_fits] at HFI
  refine HFI.out.mono ?_
  rintro _ _ ⟨rfl, x5, rfl⟩
  obtain ⟨w5, ew5⟩ : ∃ w5, w5 = w4.past x5 := ⟨_, rfl⟩
  have hb45 : Below w4.heap.size w4 w5 := by rw [ew5]; exact w4.below_past _
  have hb35 : Below w3.heap.size w3 w5 := below_trans' hb34 hb45
  rw [← ew5]
  have HO5 := hid (own_below HO3.out hb35 (Nat.le_refl _))
  have HR5 := hid (own_below HR3.out hb35 (Nat.le_refl _))
  have HB5 := hid (HB3.out.trans (hb35.mono HB3.out.size))
  obtain ⟨gr, cr, er, _⟩ := own_succ HR5.out (by omega)
  injection er with er1 _ er2
  subst er1
  subst er2
  obtain ⟨g', o', e', hc⟩ := Cells.of_own HR5.out (by decide)
  injection e' with e'
  injection e' with e1' e2' _
  subst e1'; subst e2'
  have r0 := hc 0 _ rfl
  have r1 := hc 1 _ rfl
  have r2 := hc 2 _ rfl
  have r3 := hc 3 _ rfl
  simp at r0 r1 r2 r3
  have HDE := hid (Demand_any (some ⟨s, 0, none⟩) 2 2 aL rfl aL_may 4 w5 (Cells.of_own HO5.out))
  rw [show farE 4 = 4 from by decide, aL_dem] at HDE
  clear hc ew5 hb35 hb45 hb34 hb4 HFI c0 c1 c2
  go_wp2_with (go_at_call 13; refine HDE.out.mono ?_; rintro _ _ ⟨rfl, x6, rfl⟩)
  go_ret
  exact Gives.mk rfl (HB5.out.trans (RowKit.Below.mono (by (repeat (first | exact Below.refl _ _ | refine RowKit.Below.past ?_ _ | refine RowKit.Below.alloc' ?_ _ | refine RowKit.Below.drew' ?_ | refine RowKit.Below.drewN' ?_ _ | refine RowKit.Below.setCell' ?_ (by simp [go_sem]) _))) HB5.out.size))
end Go.Proofs.Ytolhbcgmlaodbaa
namespace Go.Proofs.Ytolhbcgmlaodbaa
open Go Go.RowKit
theorem info_job : (Try.prog.info? tJb).map (fun i => (i.zero, i.size, i.bytes)) = some (some (.agg #[.int .i64 0, .int .i64 0, .int .i64 0]), 3, 24) := by kernel_rfl
theorem djt_one (l : List Dj) : ∀ u ∈ tab djV l, u.oneCell' = true := by
  intro u hu
  simp only [tab, List.mem_flatMap] at hu
  obtain ⟨x, _, hx⟩ := hu
  simp [djV] at hx
  rcases hx with rfl | rfl | rfl <;> rfl
theorem keep_next {D : List Dj} {k t : Nat} {x : Dj} (h : D[k]? = some x) : keepJ (D.take (k + 1)) t = keepJ (D.take k) t ++ if (t : Int) < x.due then [x] else [] := by
  obtain ⟨hk, rfl⟩ := List.getElem?_eq_some_iff.1 h
  unfold keepJ
  rw [List.take_succ_eq_append_getElem hk, List.filter_append]
  congr 1
  by_cases g : (t : Int) < (D[k]).due
  · rw [if_pos g, List.filter_cons_of_pos (by simpa using g), List.filter_nil]
  · rw [if_neg g, List.filter_cons_of_neg (by simpa using g), List.filter_nil]
theorem miss_next {D : List Dj} {k t : Nat} {x : Dj} (h : D[k]? = some x) (ms : Int) : missJ (D.take (k + 1)) t ms = if (t : Int) < x.due then missJ (D.take k) t ms else if missJ (D.take k) t ms < 0 then (t : Int) else missJ (D.take k) t ms := by
  obtain ⟨hk, rfl⟩ := List.getElem?_eq_some_iff.1 h
  have e : dueJ (D.take (k + 1)) t = (dueJ (D.take k) t || decide ((D[k]).due ≤ (t : Int))) := by
    unfold dueJ
    rw [List.take_succ_eq_append_getElem hk, List.any_append]; simp
  unfold missJ
  rw [e]
  by_cases g : (t : Int) < (D[k]).due
  · rw [if_pos g, decide_eq_false (by omega), Bool.or_false]
  · rw [if_neg g, decide_eq_true (by omega), Bool.or_true, Bool.true_and]
    by_cases hm : ms < 0
    · rw [decide_eq_true hm, Bool.and_true, if_pos rfl]
      cases dueJ (D.take k) t
      · simp only [Bool.false_eq_true, if_false]; rw [if_pos hm]
      · simp only [if_true]; rw [if_neg (by omega)]
    · rw [decide_eq_false hm, Bool.and_false]
      simp only [Bool.false_eq_true, if_false]; rw [if_neg hm]
/-- The rows of the document's Run: the jobs, the ticks. -/
structure RS (w W : World) (vJ : Value) (D : List Dj) (vO : Value) (o : List Int) : Prop where
  oj : W.ownsRow w.heap.size tJb 3 vJ D.length (tab djV D)
  oo : W.ownsRow w.heap.size 3 1 vO o.length (i64s o)
  bl : Below w.heap.size w W
section
variable {w W W' : World} {vJ vO : Value} {D D' : List Dj} {o : List Int}
theorem RS.ap (h : RS w W vJ D vO o) : Apart vO vJ := apart_types h.oo h.oj (by decide)
theorem RS.far (h : RS w W vJ D vO o) (hb : Below W.heap.size W W') : RS w W' vJ D vO o := ⟨own_below h.oj hb (Nat.le_refl _), own_below h.oo hb (Nat.le_refl _), h.bl.trans (hb.mono h.bl.size)⟩
theorem dtab_snoc (l : List Dj) (x : Dj) : tab djV (l ++ [x]) = tab djV l ++ djV x := by simp [tab]
/-- The jobs are changed. -/
theorem RS.job (h : RS w W vJ D vO o) {vJ' : Value} (ho : W'.ownsRow w.heap.size tJb 3 vJ' D'.length (tab djV D')) (hg : W.grownBy W' vJ.ownBlock) : RS w W' vJ' D' vO o :=
  ⟨ho, own_apart h.oo hg h.ap, Below.grown h.bl hg h.bl.size (fun k hk => (h.oj.lt k hk).1)⟩
/-- A tick is written. -/
theorem RS.out (h : RS w W vJ D vO o) {vO' : Value} {o' : List Int} (ho : W'.ownsRow w.heap.size 3 1 vO' o'.length (i64s o')) (hg : W.grownBy W' vO.ownBlock) : RS w W' vJ D vO' o' :=
  ⟨own_apart h.oj hg (apart_types h.oj h.oo (by decide)), ho, Below.grown h.bl hg h.bl.size (fun k hk => (h.oo.lt k hk).1)⟩
end
theorem apart_swp {v v' : Value} (h : Apart v v') : Apart v' v := by
  rcases h with h | h | h
  · exact .inr (.inl h)
  · exact .inl h
  · exact .inr (.inr fun e => h e.symm)
/-- Beside them those that stay. -/
structure R3 (w W : World) (vJ : Value) (D : List Dj) (vO : Value) (o : List Int) (vS : Value) (E : List Dj) : Prop where
  rs : RS w W vJ D vO o
  os : W.ownsRow w.heap.size tJb 3 vS E.length (tab djV E)
  sj : Apart vS vJ
theorem R3.push {w W W' : World} {vJ vO vS vS' : Value} {D E E' : List Dj} {o : List Int} (h : R3 w W vJ D vO o vS E) (ho : W'.ownsRow w.heap.size tJb 3 vS' E'.length (tab djV E')) (hg : W.grownBy W' vS.ownBlock) (ha : ∀ v' : Value, Apart v' vS → (∀ k, v'.ownBlock = some k → k < W.heap.size) → Apart v' vS') : R3 w W' vJ D vO o vS' E' :=
  ⟨⟨own_apart h.rs.oj hg (apart_swp h.sj), own_apart h.rs.oo hg (apart_types h.rs.oo h.os (by decide)), Below.grown h.rs.bl hg h.rs.bl.size (fun k hk => (h.os.lt k hk).1)⟩, ho, apart_swp (ha vJ (apart_swp h.sj) (fun k hk => (h.rs.oj.lt k hk).2))⟩
theorem R3.far {w W W' : World} {vJ vO vS : Value} {D E : List Dj} {o : List Int} (h : R3 w W vJ D vO o vS E) (hb : Below W.heap.size W W') : R3 w W' vJ D vO o vS E := ⟨h.rs.far hb, own_below h.os hb (Nat.le_refl _), h.sj⟩
theorem R3.take {w W : World} {vJ vO vS : Value} {D E : List Dj} {o : List Int} (h : R3 w W vJ D vO o vS E) : RS w W vS E vO o := ⟨h.os, h.rs.oo, h.rs.bl⟩
theorem i64s_snoc (o : List Int) (x : Int) : i64s (o ++ [x]) = i64s o ++ [.int .i64 x] := by simp [i64s]
theorem arr_length (l : List Wk) (t : Nat) : ∀ k, (arrK l t k).length ≤ k
  | 0 => Nat.le_refl _
  | k + 1 => by
    have := arr_length l t k
    rw [arrK, List.length_append]
    split <;> simp <;> omega
theorem tick_length (D : List Dj) : (tickJ D).2.length ≤ D.length := by
  rcases best_spec D with ⟨rfl, _⟩ | ⟨b, hb, hbl, _⟩
  · exact Nat.le_refl _
  · unfold tickJ
    rw [hb]
    simp only
    split
    · have := List.length_eraseIdx_le D b; exact this
    · rw [List.length_set]; exact Nat.le_refl _
theorem run_length (l : List Wk) : ∀ t, (runK l t).1.length ≤ t * l.length
  | 0 => Nat.zero_le _
  | t + 1 => by
    have h1 := run_length l t
    have h2 := tick_length (keepJ (runK l t).1 t ++ arrK l t l.length)
    have h3 := arr_length l t l.length
    have h4 : (keepJ (runK l t).1 t).length ≤ (runK l t).1.length := List.length_filter_le _ _
    rw [List.length_append] at h2
    rw [Nat.add_mul, Nat.one_mul]
    exact Nat.le_trans h2 (by omega)
theorem who_succ (l : List Wk) (t : Nat) : whoE l (t + 1) = whoE l t ++ [(tickJ (keepJ (runK l t).1 t ++ arrK l t l.length)).1] := rfl
theorem tab_drop {α : Type} {f : α → List Value} {c : Nat} (hf : ∀ x, (f x).length = c) (l : List α) (m : Nat) : (tab f l).drop (m * c) = tab f (l.drop m) := by
  have h1 : tab f l = tab f (l.take m) ++ tab f (l.drop m) := by
    have h2 : tab f (l.take m ++ l.drop m) = tab f (l.take m) ++ tab f (l.drop m) := by simp only [tab, List.flatMap_append]
    rw [← h2, List.take_append_drop]
  by_cases hm : m ≤ l.length
  · rw [h1, List.drop_append_of_le_length (by rw [tab_length hf, List.length_take]; exact Nat.mul_le_mul_right _ (by omega)), List.drop_eq_nil_of_le (by rw [tab_length hf, List.length_take]; exact Nat.mul_le_mul_right _ (by omega)), List.nil_append]
  · rw [List.drop_eq_nil_of_le (by rw [tab_length hf]; exact Nat.mul_le_mul_right _ (by omega)), List.drop_eq_nil_of_le (by omega)]
    rfl
theorem RS.drew {w W : World} {vJ vO : Value} {D : List Dj} {o : List Int} (h : RS w W vJ D vO o) : RS w W.drew vJ D vO o := h.far (Below.refl _ _).drew
/-- One job's left is written. -/
theorem RS.put {w W : World} {g m c k : Nat} {D : List Dj} {vO : Value} {o : List Int} (h : RS w W (.slice (some ⟨g, 0, none⟩) m c) D vO o) (em : D.length = m) {x : Dj} (hk : D[k]? = some x) (v : Int) : RS w (W.setCell ⟨g, k * 3 + 2, none⟩ (.int .i64 v)) (.slice (some ⟨g, 0, none⟩) m c) (D.set k ⟨x.w, x.due, v⟩) vO o := by
  subst em
  have hst := h.oj.stored (k * 3 + 2) (.int .i64 v)
  rw [tab_set1 djV_length (by decide) hk (by decide) (y := ⟨x.w, x.due, v⟩) rfl] at hst
  exact h.job (by rw [List.length_set]; exact hst.1) hst.2
theorem arr_le {l : List Wk} (ho : ∀ x ∈ l, WkOk x) (t : Nat) : ∀ k, ∀ x ∈ arrK l t k, x.left ≤ 100
  | 0, _, h => by cases h
  | k + 1, x, h => by
    rw [arrK] at h
    rcases List.mem_append.1 h with h | h
    · exact arr_le ho t k x h
    · split at h
      · rw [List.mem_singleton.1 h]; exact (wk_ok ho k).1.2
      · cases h
theorem tick_le {D : List Dj} (h : ∀ x ∈ D, x.left ≤ 100) : ∀ x ∈ (tickJ D).2, x.left ≤ 100 := by
  intro x hx
  rcases best_spec D with ⟨rfl, _⟩ | ⟨b, hb, hbl, _⟩
  · cases hx
  · rw [tick_some hb] at hx
    simp only at hx
    split at hx
    · exact h x (List.mem_of_mem_eraseIdx hx)
    · rcases List.mem_or_eq_of_mem_set hx with hx | rfl
      · exact h x hx
      · have := h _ (List.mem_of_getElem? (dj_get hbl)); simp only; omega
theorem run_le {l : List Wk} (ho : ∀ x ∈ l, WkOk x) : ∀ t, ∀ j ∈ (runK l t).1, j.left ≤ 100
  | 0, j, h => by cases h
  | t + 1, j, h => by
    rw [runK] at h
    refine tick_le (fun x hx => ?_) j h
    rcases List.mem_append.1 hx with hx | hx
    · exact run_le ho t x (List.mem_filter.1 hx).1
    · exact arr_le ho t _ x hx
theorem run_left {l : List Wk} (ho : ∀ x ∈ l, WkOk x) (t : Nat) : ∀ x ∈ keepJ (runK l t).1 t ++ arrK l t l.length, 1 ≤ x.left ∧ x.left ≤ 100 := fun x hx => by
  rcases List.mem_append.1 hx with hx | hx
  · exact ⟨run_pos ho t x (List.mem_filter.1 hx).1, run_le ho t x (List.mem_filter.1 hx).1⟩
  · exact ⟨arr_pos ho t _ x hx, arr_le ho t _ x hx⟩
set_option maxRecDepth 100000 in
set_option maxHeartbeats 4000000 in
theorem RRun_any (A : Option Addr) (ca n : Nat) (l : List Wk) (en : l.length = n) (hm : mayF l = true) (u : Nat) (hu : u ≤ 300) (w : World) (ha : Cells w A (tab wkV l)) :
    Calls Try.prog 14 #[.slice A n ca, .int .i64 (u : Int)] w (fun e w' => ∃ R c, e = .returned (.tuple #[.slice R u c, .int .i64 (missE l u)]) ∧ Below w.heap.size w w' ∧ w'.ownsRow w.heap.size 3 1 (.slice R u c) u (i64s (whoE l u))) := by
  obtain ⟨h6, hok⟩ := wks_ok hm
  rw [en] at h6
  have HA := hid ha
  have EN := hid en
  have HOK := hid hok
  have HI := hid (info_parts info_i64)
  have HJ := hid (info_parts info_job)
  clear ha en hm hok
  have HS0 := hid (show RS w w (.slice none 0 0) [] (.slice none 0 0) [] from ⟨World.ownsRow_nil _ _ _ _, World.ownsRow_nil _ _ _ _, Below.refl _ _⟩)
  go_enter Try.func14, Try.ntmps14
  go_wp2_with fail
  go_loopw [6, 7, 8, 9, 10, 11, 12, 13] (fun v6 v7 v8 v9 _ _ _ _ wr => ∃ (t m : Nat) (D : List Dj) (R1 R2 : Option Addr) (c1 c2 : Nat) (ms : Int), v6 = .slice R1 m c1 ∧ v7 = .slice R2 t c2 ∧ v8 = .int .i64 ms ∧ v9 = .int .i64 (t : Int) ∧ t ≤ u ∧ Hid (D.length = m) ∧ Hid (D = (runK l t).1) ∧ Hid (ms = (runK l t).2.2) ∧ Hid (RS w wr (.slice R1 m c1) D (.slice R2 t c2) (whoE l t))) (fun _ _ _ v9 _ _ _ _ _ => u + 1 - (intOf v9).toNat)
  case atStart => exact ⟨0, 0, [], none, none, 0, 0, -1, rfl, rfl, rfl, rfl, Nat.zero_le _, hid rfl, hid rfl, hid rfl, HS0⟩
  case round =>
    clear HS0
    obtain ⟨t, m, D, R1, R2, c1, c2, ms, rfl, rfl, rfl, rfl, ht, HDM, HD, HMS, HR⟩ := hrel
    have HRS := hid (run_succ l t)
    have hm18 : m ≤ 1800 := by
      have h1 := run_length l t
      rw [← HD.out, HDM.out, EN.out] at h1
      have h2 : t * n ≤ 300 * 6 := Nat.mul_le_mul (by omega) h6
      omega
    obtain ⟨i0, ii, iz0, iz1, iz2⟩ := HI.out
    obtain ⟨j0, ji, jz0, jz1, jz2⟩ := HJ.out
    have HII := hid ii
    have HJI := hid ji
    have hBs := HR.out.bl.size
    have H30 := hid (show R3 w wr (.slice R1 m c1) D (.slice R2 t c2) (whoE l t) (.slice none 0 0) (keepJ (D.take 0) t) from ⟨HR.out, World.ownsRow_nil _ _ _ _, .inl rfl⟩)
    have HM0 := hid (show ms = missJ (D.take 0) t ms from rfl)
    clear ii ji
    go_wp2_with fail
    go_loopw [8, 10, 11] (fun v8 v10 v11 wx => ∃ (k mS : Nat) (S : Option Addr) (cS : Nat) (mm : Int), v8 = .int .i64 mm ∧ v10 = .slice S mS cS ∧ v11 = .int .i64 (k : Int) ∧ k ≤ m ∧ mS ≤ k ∧ Hid (mm = missJ (D.take k) t ms) ∧ Hid ((keepJ (D.take k) t).length = mS) ∧ Hid (R3 w wx (.slice R1 m c1) D (.slice R2 t c2) (whoE l t) (.slice S mS cS) (keepJ (D.take k) t))) (fun _ _ v11 _ => m - (intOf v11).toNat)
    case atStart => exact ⟨0, 0, none, 0, ms, rfl, rfl, rfl, Nat.zero_le _, Nat.le_refl _, HM0, hid rfl, H30⟩
    case round =>
      clear H30 HM0
      obtain ⟨k, mS, S, cS, mm, rfl, rfl, rfl, hk, hmS, HMM, HES, H3⟩ := hrel
      by_cases hlt : k < m
      · have hoj := H3.out.rs.oj
        rw [HDM.out] at hoj
        obtain ⟨g, o, eA, q0, q1, q2⟩ := dj_at (Cells.of_own hoj) (show k < D.length by rw [HDM.out]; exact hlt)
        subst eA
        have hx := dj_get (show k < D.length by rw [HDM.out]; exact hlt)
        have HKN := hid (keep_next (t := t) hx)
        have HMN := hid (miss_next (t := t) hx ms)
        rw [← HMM.out] at HMN
        obtain ⟨⟨xw, xd, xl⟩, ex⟩ : ∃ x, dj D k = x := ⟨_, rfl⟩
        rw [ex] at q0 q1 q2 HKN HMN
        simp only at q0 q1 q2 HKN HMN
        have e1 : IntKind.i64.wrap ((k : Int) + 1) = (k : Int) + 1 := by rw [IntKind.wrap_i64]; omega
        obtain ⟨E, eE⟩ : ∃ E, keepJ (D.take k) t = E := ⟨_, rfl⟩
        rw [eE] at HES H3 HKN
        have hgl := World.block_lt_of_cell? _ _ q0
        simp only at hgl
        clear ex hx eE hoj
        by_cases hd : (t : Int) < xd
        · have HKE := hid (show keepJ (D.take (k + 1)) t = E ++ [⟨xw, xd, xl⟩] by rw [HKN.out, if_pos hd])
          have HME := hid (show mm = missJ (D.take (k + 1)) t ms by rw [HMN.out, if_pos hd])
          have hos := H3.out.os
          rw [HES.out] at hos
          have HOS := hid hos
          have hB3 := H3.out.rs.bl.size
          clear hos HKN HMN
          go_wp2_with (at_builtin; go_must (refine wpList_pushB rfl (.tmp 32) (.tmp 37) 57 rfl tJb j0 (.agg #[.int .i64 0, .int .i64 0, .int .i64 0]) 3 24 Try.underlying57 HJI.out jz0 jz1 jz2 rfl (by decide) w.heap.size hB3 (.slice S mS cS) mS (tab djV E) rfl HOS.out _ #[.int .i64 (xw : Int), .int .i64 xd, .int .i64 xl] rfl rfl rfl (by simp [Value.oneCell']) (by omega) (by unfold maxLen; omega) ?_; intro w5 g5 c5 ho5 hg5 ha5; have H5 := hid (R3.push (E' := E ++ [⟨xw, xd, xl⟩]) H3.out (by rw [List.length_append, HES.out, dtab_snoc]; exact ho5) hg5 ha5); clear ho5 hg5 ha5))
          exact ⟨⟨k + 1, mS + 1, _, c5, mm, rfl, rfl, by go_num, by omega, by omega, HME, hid (by rw [HKE.out, List.length_append, HES.out]; rfl), hid (by rw [HKE.out]; exact H5.out)⟩, by simp [intOf]; omega⟩
        · have HKE := hid (show keepJ (D.take (k + 1)) t = E by rw [HKN.out, if_neg hd, List.append_nil])
          have HME := hid (show (if mm < 0 then (t : Int) else mm) = missJ (D.take (k + 1)) t ms by rw [HMN.out, if_neg hd])
          clear HKN HMN
          by_cases hmm : mm < 0
          · rw [if_pos hmm] at HME
            go_wp2_with fail
            exact ⟨⟨k + 1, mS, S, cS, t, rfl, rfl, by go_num, by omega, by omega, HME, hid (by rw [HKE.out]; exact HES.out), hid (by rw [HKE.out]; exact H3.out)⟩, by simp [intOf]; omega⟩
          · rw [if_neg hmm] at HME
            go_wp2_with fail
            exact ⟨⟨k + 1, mS, S, cS, mm, rfl, rfl, by go_num, by omega, by omega, HME, hid (by rw [HKE.out]; exact HES.out), hid (by rw [HKE.out]; exact H3.out)⟩, by simp [intOf]; omega⟩
      · obtain rfl : k = m := by omega
        have hta : D.take k = D := List.take_of_length_le (Nat.le_of_eq HDM.out)
        rw [hta] at HMM HES H3
        obtain ⟨E, eE⟩ : ∃ E, keepJ D t = E := ⟨_, rfl⟩
        rw [eE] at HES H3
        have HKE := hid eE
        have HQ0 := hid (show RS w wr (.slice S mS cS) (E ++ arrK l t 0) (.slice R2 t c2) (whoE l t) from by rw [arrK, List.append_nil]; exact H3.out.take)
        have HL0 := hid (show (E ++ arrK l t 0).length = mS by rw [arrK, List.append_nil]; exact HES.out)
        clear hta eE H3 hlt hk
        go_wp2_with fail
        go_loopw [6, 12] (fun v6 v12 wx => ∃ (i mQ : Nat) (Q : Option Addr) (cQ : Nat), v6 = .slice Q mQ cQ ∧ v12 = .int .i64 (i : Int) ∧ i ≤ n ∧ mQ ≤ mS + i ∧ Hid ((E ++ arrK l t i).length = mQ) ∧ Hid (RS w wx (.slice Q mQ cQ) (E ++ arrK l t i) (.slice R2 t c2) (whoE l t))) (fun _ v12 _ => n - (intOf v12).toNat)
        case atStart => exact ⟨0, mS, S, cS, rfl, rfl, Nat.zero_le _, Nat.le_refl _, HL0, HQ0⟩
        case round =>
          clear HQ0 HL0
          obtain ⟨i, mQ, Q, cQ, rfl, rfl, hi, hmQ, HLQ, HQ⟩ := hrel
          by_cases hin : i < n
          · obtain ⟨gA, oA, rfl, a0, a1, a2⟩ := wk_at (HA.out.below HQ.out.bl) (k := i) (by rw [EN.out]; exact hin)
            have hxk := wk_ok HOK.out i
            have HAR := hid (show arrK l t (i + 1) = arrK l t i ++ if (t : Int) % (wk l i).p = 0 then [⟨i, t + (wk l i).d, (wk l i).c⟩] else [] from rfl)
            obtain ⟨y, ey⟩ : ∃ y, wk l i = y := ⟨_, rfl⟩
            rw [ey] at a0 a1 a2 hxk HAR
            obtain ⟨c', p, d⟩ := y
            simp only at a0 a1 a2 HAR
            have hd : 1 ≤ d ∧ d ≤ 1000 := hxk.2.2
            have hp : 1 ≤ p ∧ p ≤ 1000 := hxk.2.1
            have hc : 1 ≤ c' ∧ c' ≤ 100 := hxk.1
            have hzp : ¬ p = 0 := by omega
            have hgA := World.block_lt_of_cell? _ _ a0
            simp only at hgA
            clear ey hxk
            by_cases hz : (t : Int) % p = 0
            · have HAN := hid (show E ++ arrK l t (i + 1) = (E ++ arrK l t i) ++ [⟨i, t + d, c'⟩] by rw [HAR.out, if_pos hz, List.append_assoc])
              have hoj := HQ.out.oj
              rw [HLQ.out] at hoj
              have HOJ := hid hoj
              have hBQ := HQ.out.bl.size
              have e3 : IntKind.i64.wrap ((t : Int) + d) = (t : Int) + d := by rw [IntKind.wrap_i64]; omega
              clear HAR hoj
              go_upto_region 20 with (fail)
              refine wp_region_split (S := (fun W => W.cell? ⟨gA, oA + i * 3 + 2, none⟩ = some (.int .i64 d) ∧ W.cell? ⟨gA, oA + i * 3, none⟩ = some (.int .i64 c'))) 16 (by kernel_rfl) (by kernel_rfl) ?_ (fun hHeld => ?_)
              · (first | (simp [go_sem, *]; done))
              simp only [List.take_succ_cons, List.take_zero, List.drop_succ_cons, List.drop_zero]
              refine wpAnyH_take (i := 0) (v := ?_) rfl (by kernel_rfl) (by kernel_rfl) (by kernel_rfl) (fun _ _ _ h => h) (Or.inl ⟨by rfl, ?_⟩) (by assumption) ?_
              rotate_left
              · intro w hSw; (try dsimp only at hSw); go_simp; try with_reducible rfl
              try simp only [put_simp]
              refine wpAnyH_take (i := 1) (v := ?_) rfl (by kernel_rfl) (by kernel_rfl) (by kernel_rfl) (fun _ _ _ h => h) (Or.inl ⟨by rfl, ?_⟩) (by assumption) ?_
              rotate_left
              · intro w hSw; (try dsimp only at hSw); go_simp; try with_reducible rfl
              try simp only [put_simp]
              refine wpAnyH_take (i := 2) (v := ?_) rfl (by kernel_rfl) (by kernel_rfl) (by kernel_rfl) (fun _ _ _ h => h) (Or.inl ⟨by rfl, ?_⟩) (by assumption) ?_
              rotate_left
              · intro w hSw; (try dsimp only at hSw); go_simp; try with_reducible rfl
              try simp only [put_simp]
              refine wpAnyH_take (i := 3) (v := ?_) rfl (by kernel_rfl) (by kernel_rfl) (by kernel_rfl) (fun _ _ _ h => h) (Or.inl ⟨by rfl, ?_⟩) (by assumption) ?_
              rotate_left
              · intro w hSw; (try dsimp only at hSw); go_simp; try with_reducible rfl
              try simp only [put_simp]
              refine wpAnyH_take (i := 4) (v := ?_) rfl (by kernel_rfl) (by kernel_rfl) (by kernel_rfl) (fun _ _ _ h => h) (Or.inl ⟨by rfl, ?_⟩) (by assumption) ?_
              rotate_left
              · intro w hSw; (try dsimp only at hSw); go_simp; try with_reducible rfl
              try simp only [put_simp]
              refine wpAnyH_take (i := 5) (v := ?_) rfl (by kernel_rfl) (by kernel_rfl) (by kernel_rfl) (fun _ _ _ h => h) (Or.inl ⟨by rfl, ?_⟩) (by assumption) ?_
              rotate_left
              · intro w hSw; (try dsimp only at hSw); go_simp; try with_reducible rfl
              try simp only [put_simp]
              refine wpAnyH_take (i := 6) (v := ?_) rfl (by kernel_rfl) (by kernel_rfl) (by kernel_rfl) (fun _ _ _ h => h) (Or.inl ⟨by rfl, ?_⟩) (by assumption) ?_
              rotate_left
              · intro w hSw; (try dsimp only at hSw); go_simp; try with_reducible rfl
              try simp only [put_simp]
              refine wpAnyH_take (i := 7) (v := ?_) rfl (by kernel_rfl) (by kernel_rfl) (by kernel_rfl) (fun _ _ _ h => h) (Or.inl ⟨by rfl, ?_⟩) (by assumption) ?_
              rotate_left
              · intro w hSw; (try dsimp only at hSw); go_simp; try with_reducible rfl
              try simp only [put_simp]
              refine wpAnyH_take (i := 8) (v := ?_) rfl (by kernel_rfl) (by kernel_rfl) (by kernel_rfl) (fun _ _ _ h => h) (Or.inl ⟨by rfl, ?_⟩) (by assumption) ?_
              rotate_left
              · intro w hSw; (try dsimp only at hSw); go_simp; try with_reducible rfl
              try simp only [put_simp]
              refine wpAnyH_take (i := 9) (v := ?_) rfl (by kernel_rfl) (by kernel_rfl) (by kernel_rfl) (fun _ _ _ h => h) (Or.inl ⟨by rfl, ?_⟩) (by assumption) ?_
              rotate_left
              · intro w hSw; (try dsimp only at hSw); go_simp; try with_reducible rfl
              try simp only [put_simp]
              refine wpAnyH_take (i := 10) (v := ?_) rfl (by kernel_rfl) (by kernel_rfl) (by kernel_rfl) (fun _ _ _ h => h) (Or.inl ⟨by rfl, ?_⟩) (by assumption) ?_
              rotate_left
              · intro w hSw; (try dsimp only at hSw); go_simp; try with_reducible rfl
              try simp only [put_simp]
              refine wpAnyH_take (i := 11) (v := ?_) rfl (by kernel_rfl) (by kernel_rfl) (by kernel_rfl) (fun _ _ _ h => h) (Or.inl ⟨by rfl, ?_⟩) (by assumption) ?_
              rotate_left
              · intro w hSw; (try dsimp only at hSw); go_simp; try with_reducible rfl
              try simp only [put_simp]
              refine wpAnyH_take (i := 12) (v := ?_) rfl (by kernel_rfl) (by kernel_rfl) (by kernel_rfl) (fun _ _ _ h => h) (Or.inl ⟨by rfl, ?_⟩) (by assumption) ?_
              rotate_left
              · intro w hSw; (try dsimp only at hSw); go_simp; try with_reducible rfl
              try simp only [put_simp]
              refine wpAnyH_take (i := 13) (v := ?_) rfl (by kernel_rfl) (by kernel_rfl) (by kernel_rfl) (fun _ _ _ h => h) (Or.inl ⟨by rfl, ?_⟩) (by assumption) ?_
              rotate_left
              · intro w hSw; (try dsimp only at hSw); go_simp; try with_reducible rfl
              try simp only [put_simp]
              refine wpAnyH_take (i := 14) (v := ?_) rfl (by kernel_rfl) (by kernel_rfl) (by kernel_rfl) (fun _ _ _ h => h) (Or.inl ⟨by rfl, ?_⟩) (by assumption) ?_
              rotate_left
              · intro w hSw; (try dsimp only at hSw); go_simp; try with_reducible rfl
              try simp only [put_simp]
              refine wpAnyH_ready (rs := [15]) (by kernel_rfl) (by simp) ?_
              refine AllReadyH.cons rfl (fun K hK => ?_) ?_
              · go_simp
                refine hK.out _ _ ?_ (fun hHeld => ?_)
                · (first | (simp [go_sem, *]; done))
                clear hK K
                try simp only [put_simp]
                refine wpAnyH_done (by kernel_rfl) ?_ _
                change wpList _ _ _ _ _ _
                go_wp2_with (at_builtin; go_must (refine wpList_pushB (w := wr.drew) rfl (.tmp 57) (.tmp 72) 57 rfl tJb j0 (.agg #[.int .i64 0, .int .i64 0, .int .i64 0]) 3 24 Try.underlying57 HJI.out jz0 jz1 jz2 rfl (by decide) w.heap.size hBQ (.slice Q mQ cQ) mQ (tab djV (E ++ arrK l t i)) rfl HOJ.out _ #[.int .i64 (i : Int), .int .i64 ((t : Int) + d), .int .i64 c'] rfl rfl rfl (by simp [Value.oneCell']) (by omega) (by unfold maxLen; omega) ?_; intro w5 g5 c5 ho5 hg5 ha5; have H5 := hid (RS.job (D' := (E ++ arrK l t i) ++ [⟨i, t + d, c'⟩]) HQ.out.drew (by rw [List.length_append, HLQ.out, dtab_snoc]; exact ho5) hg5); clear ho5 hg5 ha5))
                exact ⟨⟨i + 1, mQ + 1, _, c5, rfl, by go_num, by omega, by omega, hid (by rw [HAN.out, List.length_append, HLQ.out]; rfl), hid (by rw [HAN.out]; exact H5.out)⟩, by simp [intOf]; omega⟩
              exact AllReadyH.nil
            · have HAN := hid (show E ++ arrK l t (i + 1) = E ++ arrK l t i by rw [HAR.out, if_neg hz, List.append_nil])
              have hz2 : ((t : Int) % p == 0) = false := by simpa using hz
              clear HAR
              go_wp2_with fail
              exact ⟨⟨i + 1, mQ, Q, cQ, rfl, by go_num, by omega, by omega, hid (by rw [HAN.out]; exact HLQ.out), hid (by rw [HAN.out]; exact HQ.out)⟩, by simp [intOf]; omega⟩
          · obtain rfl : i = n := by omega
            obtain ⟨X, eX⟩ : ∃ X, E ++ arrK l t i = X := ⟨_, rfl⟩
            have hX : keepJ (runK l t).1 t ++ arrK l t l.length = X := by rw [← HD.out, HKE.out, EN.out]; exact eX
            have HLE := run_left HOK.out t
            have hRS := HRS.out
            have hWN := who_succ l t
            rw [hX] at HLE hRS hWN
            rw [← HD.out, ← HMS.out, ← HMM.out] at hRS
            have HRN := hid (show (runK l (t + 1)).1 = (tickJ X).2 by rw [hRS])
            have HMN := hid (show (runK l (t + 1)).2.2 = mm by rw [hRS])
            have HWN := hid hWN
            rw [eX] at HLQ HQ
            have HLE := hid HLE
            have hmQ2 : mQ ≤ 1806 := by omega
            clear eX hX hRS hWN HRS hin hi HES HKE
            by_cases htu : t = u
            · subst htu
              have HME := hid (show mm = missE l t by unfold missE; rw [← HD.out, ← HMS.out]; exact HMM.out)
              clear HMM HMN HRN HWN
              go_wp2_with fail
              go_ret2
              refine ⟨R2, c2, by rw [← HME.out]; rfl, HQ.out.bl, ?_⟩
              have := HQ.out.oo
              rw [who_length] at this
              exact this
            · have hFA := first_any Q cQ mQ X HLQ.out (by omega) wr (Cells.of_own (by have := HQ.out.oj; rw [HLQ.out] at this; exact this))
              have hoo := HQ.out.oo
              rw [who_length] at hoo
              have hBQ := HQ.out.bl.size
              rcases best_spec X with ⟨rfl, eb⟩ | ⟨b, eb, hbl, -⟩
              · rw [eb] at hFA
                simp only [bestI] at hFA
                have HFA := hid hFA
                have HOO := hid hoo
                rw [tick_none rfl] at HRN HWN
                have e1 : IntKind.i64.wrap ((t : Int) + 1) = (t : Int) + 1 := by rw [IntKind.wrap_i64]; omega
                clear hFA hoo eb
                go_wp2_with (first | (go_at_call 28; refine HFA.out.mono ?_; rintro _ _ ⟨rfl, y2, rfl⟩; have H2 := hid (HQ.out.far (wr.below_past y2)); obtain ⟨w2, ew2⟩ : ∃ w2, wr.past y2 = w2 := ⟨_, rfl⟩; rw [ew2] at H2 ⊢; have hB2 := H2.out.bl.size; have HO2 := hid (show w2.ownsRow w.heap.size 3 1 (.slice R2 t c2) t (i64s (whoE l t)) from (by have := H2.out.oo; rw [who_length] at this; exact this))) | (at_builtin; go_must (refine wpList_pushB rfl (.tmp 81) (.tmp 82) 24 rfl 3 i0 (.int .i64 0) 1 8 Try.underlying24 HII.out iz0 iz1 iz2 rfl (by decide) w.heap.size hB2 (.slice R2 t c2) t (i64s (whoE l t)) rfl HO2.out _ #[.int .i64 (-1)] rfl rfl rfl (by simp [Value.oneCell']) (by omega) (by unfold maxLen; omega) ?_; intro w5 g5 c5 ho5 hg5 ha5; have H5 := hid (RS.out (o' := whoE l t ++ [-1]) H2.out (by rw [List.length_append, who_length, i64s_snoc]; exact ho5) hg5); clear ho5 hg5 ha5)))
                exact ⟨⟨t + 1, mQ, [], Q, _, cQ, c5, mm, rfl, rfl, rfl, by go_num, by omega, HLQ, hid HRN.out.symm, hid HMN.out.symm, hid (by rw [HWN.out]; exact H5.out)⟩, by simp [intOf]; omega⟩
              · rw [eb] at hFA
                simp only [bestI] at hFA
                have HFA := hid hFA
                have HOO := hid hoo
                have hx := dj_get hbl
                have hxl := HLE _ (List.mem_of_getElem? hx)
                have hT := tick_some eb
                obtain ⟨⟨xw, xd, xl⟩, ex⟩ : ∃ x, dj X b = x := ⟨_, rfl⟩
                rw [ex] at hx hxl hT
                simp only at hxl hT
                rw [HLQ.out] at hbl
                have HX := hid hx
                rw [hT] at HRN HWN
                simp only at HRN HWN
                have hoj0 := HQ.out.oj
                obtain ⟨g, cap, eA, hg⟩ := own_succ (by rw [HLQ.out] at hoj0; exact hoj0) (by omega)
                cases eA
                have e1 : IntKind.i64.wrap ((t : Int) + 1) = (t : Int) + 1 := by rw [IntKind.wrap_i64]; omega
                have e2 : IntKind.i64.wrap (xl - 1) = xl - 1 := by rw [IntKind.wrap_i64]; omega
                have hbi : (b : Int) < mQ := by omega
                have hb0 : decide ((b : Int) < 0) = false := by simp
                clear hFA hoo eb hx hT ex hoj0
                go_upto_region 26 with (first | (go_at_call 28; refine HFA.out.mono ?_; rintro _ _ ⟨rfl, y2, rfl⟩; have H2 := hid (HQ.out.far (wr.below_past y2)); obtain ⟨w2, ew2⟩ : ∃ w2, wr.past y2 = w2 := ⟨_, rfl⟩; rw [ew2] at H2 ⊢; have hB2 := H2.out.bl.size; have HO2 := hid (show w2.ownsRow w.heap.size 3 1 (.slice R2 t c2) t (i64s (whoE l t)) from (by have := H2.out.oo; rw [who_length] at this; exact this)); have hq0 := own_cell djV_length (c := 3) (by have := H2.out.oj; rw [← HLQ.out] at this; exact this) HX.out (j := 0) (by decide); rw [Nat.add_zero] at hq0; simp only [djV, List.getElem?_cons_zero] at hq0) | (at_builtin; go_must (refine wpList_pushB rfl (.tmp 84) (.tmp 90) 24 rfl 3 i0 (.int .i64 0) 1 8 Try.underlying24 HII.out iz0 iz1 iz2 rfl (by decide) w.heap.size hB2 (.slice R2 t c2) t (i64s (whoE l t)) rfl HO2.out _ #[.int .i64 (xw : Int)] rfl rfl rfl (by simp [Value.oneCell']) (by omega) (by unfold maxLen; omega) ?_; intro w5 g5 c5 ho5 hg5 ha5; have H5 := hid (RS.out (o' := whoE l t ++ [(xw : Int)]) H2.out (by rw [List.length_append, who_length, i64s_snoc]; exact ho5) hg5); clear ho5 hg5 ha5)))
                have hq2 := own_cell djV_length (c := 3) (by have := H5.out.oj; rw [← HLQ.out] at this; exact this) HX.out (j := 2) (by decide)
                simp only [djV, List.getElem?_cons_zero, List.getElem?_cons_succ] at hq2
                have hf2 := (show w5.ownsRow w.heap.size tJb 3 (.slice (some ⟨g, 0, none⟩) mQ cQ) mQ (tab djV X) from by have := H5.out.oj; rw [HLQ.out] at this; exact this).frozenAt (b * 3 + 2)
                have hgl := (H5.out.oj.lt g rfl).2
                have HH6 := hid (H5.out.put HLQ.out HX.out (xl - 1))
                have hB5 := H5.out.bl.size
                clear HFA HOO
                by_cases h1 : xl = 1
                · subst h1
                  rw [if_pos rfl] at HRN
                  go_upto_region 28 with (fail)
                  obtain ⟨V0, eV0⟩ : ∃ V0, V0 = w5.setCell ⟨g, b * 3 + 2, none⟩ (.int .i64 0) := ⟨_, rfl⟩
                  have H7 := HH6.out
                  rw [show (1 : Int) - 1 = 0 from rfl, ← eV0] at H7
                  rw [← eV0]
                  obtain ⟨Y, eY⟩ : ∃ Y, X.set b ⟨xw, xd, 0⟩ = Y := ⟨_, rfl⟩
                  have HY := hid (show Y.eraseIdx b = X.eraseIdx b by rw [← eY, List.eraseIdx_set_eq])
                  have EN7 := hid (show Y.length = mQ by rw [← eY, List.length_set]; exact HLQ.out)
                  have hown := H7.oj
                  rw [eY] at H7
                  rw [eY, EN7.out] at hown
                  have hcap := own_fits hown
                  obtain ⟨s, es⟩ : ∃ s, V0.heap.size = s := ⟨_, rfl⟩
                  have ES := hid es
                  have hgs0 := (hown.lt g rfl).2
                  rw [es] at hgs0
                  obtain ⟨j, ej⟩ : ∃ j, b + 1 = j := ⟨_, rfl⟩
                  have e9 : IntKind.i64.wrap ((b : Int) + 1) = (j : Int) := by rw [IntKind.wrap_i64]; omega
                  have hjn : j ≤ mQ := by omega
                  have hbc : b ≤ cQ := by omega
                  have hbn : b ≤ mQ := by omega
                  have EJ := hid ej
                  have HM := hid (show b + (mQ - j) = mQ - 1 by have := EJ.out; omega)
                  have HT1 := hid (show (tab djV (Y.take b)).length = b * 3 by rw [tab_length djV_length, List.length_take]; congr 1; have := EN7.out; omega)
                  have HT2 := hid (show (tab djV (Y.drop j)).length = (mQ - j) * 3 by rw [tab_length djV_length, List.length_drop]; congr 1; have := EN7.out; omega)
                  obtain ⟨V, eV⟩ : ∃ V, V = (V0.alloc (.cells #[] tJb)).drew := ⟨_, rfl⟩
                  have hbV : Below V0.heap.size V0 V := by rw [eV]; exact ((Below.refl _ V0).alloc (Nat.le_refl _) _).drew
                  have HLIT := hid (show V.ownsRow s tJb 3 (.slice (some ⟨s, 0, none⟩) 0 0) 0 [] from by
                    have h5 := World.ownsRow_lit (base := s) (size := 3) (e := tJb) V0 #[] 0 (by omega) (by unfold maxLen; omega) rfl
                    rw [es] at h5
                    rw [eV]
                    exact h5.drew)
                  have hownV := own_below hown hbV (Nat.le_refl _)
                  have HC1 := hid (show Cells V (some ⟨g, 0, none⟩) (tab djV (Y.take b)) from by
                    rw [← tab_take djV_length]
                    exact (Cells.of_own hownV).take _)
                  have hgs : g ≠ s := by omega
                  have HN6 := hid (show ∀ (w6 : World) (A6 : Option Addr) (c6 : Nat), w6.ownsRow s tJb 3 (.slice A6 b c6) b ([] ++ tab djV (Y.take b)) → V.grownBy w6 (Value.slice (some ⟨s, 0, none⟩) 0 0).ownBlock →
                      Hid (w6.ownsRow s tJb 3 (.slice A6 b c6) b (tab djV (Y.take b)) ∧ Cells w6 (some ⟨g, j * 3, none⟩) (tab djV (Y.drop j)) ∧ Below s V0 w6) ∧ s ≤ w6.heap.size from by
                    intro w6 A6 c6 ho hg
                    have hb6 : Below s V0 w6 := by
                      refine Below.grown (by rw [← es]; exact hbV) hg (by have := hbV.size; omega) (fun k hk => ?_)
                      simp only [Value.ownBlock, Option.some.injEq] at hk
                      omega
                    have hcl := Cells.drop (Cells.of_own (own_apart hownV hg (.inr (.inr (by simp [Value.ownBlock]; omega))))) (j * 3)
                    rw [tab_drop djV_length, Nat.zero_add] at hcl
                    exact ⟨hid ⟨by simpa using ho, hcl, hb6⟩, by have := hb6.size; omega⟩)
                  have HN8 := hid (show ∀ (w6 : World) (A6 : Option Addr) (c6 : Nat) (w8 : World) (A8 : Option Addr) (c8 : Nat), Hid (w6.ownsRow s tJb 3 (.slice A6 b c6) b (tab djV (Y.take b)) ∧ Cells w6 (some ⟨g, j * 3, none⟩) (tab djV (Y.drop j)) ∧ Below s V0 w6) →
                      w8.ownsRow s tJb 3 (.slice A8 (mQ - 1) c8) (mQ - 1) (tab djV (Y.take b) ++ tab djV (Y.drop j)) → w6.grownBy w8 (Value.slice A6 b c6).ownBlock →
                      Hid (RS w w8 (.slice A8 (mQ - 1) c8) (X.eraseIdx b) (.slice (some ⟨g5, 0, none⟩) (t + 1) c5) (whoE l t ++ [(xw : Int)])) from by
                    intro w6 A6 c6 w8 A8 c8 h6 ho hg
                    obtain ⟨o6, -, b6⟩ := h6.out
                    have hb8 := b6.grown hg (by have := b6.size; omega) (fun k hk => (o6.lt k hk).1)
                    have e : tab djV (Y.take b) ++ tab djV (Y.drop j) = tab djV (X.eraseIdx b) := by
                      have h2 : tab djV (Y.take b ++ Y.drop j) = tab djV (Y.take b) ++ tab djV (Y.drop j) := by simp only [tab, List.flatMap_append]
                      rw [← h2, ← HY.out, List.eraseIdx_eq_take_drop_succ, EJ.out]
                    rw [e] at ho
                    have hle : (X.eraseIdx b).length = mQ - 1 := by rw [List.length_eraseIdx_of_lt (by rw [HLQ.out]; exact hbl), HLQ.out]
                    rw [← ES.out] at hb8
                    exact hid ⟨by rw [hle]; exact own_base ho (by rw [← ES.out]; exact H7.bl.size), own_below H7.oo hb8 (Nat.le_refl _), H7.bl.trans (hb8.mono H7.bl.size)⟩)
                  have HC2 := hid (show ∀ w6 : World, Cells w6 (some ⟨g, j * 3, none⟩) (tab djV (Y.drop j)) → Cells w6 (if cQ = j then some ⟨g, 0, none⟩ else some ⟨g, j * 3, none⟩) (tab djV (Y.drop j)) from fun w6 h => by
                    by_cases hcj : cQ = j
                    · rw [show Y.drop j = [] from List.drop_eq_nil_of_le (by have := EN7.out; omega)]
                      exact Cells.nil _ _
                    · rw [if_neg hcj]; exact h)
                  have HLE1 := hid (show (X.eraseIdx b).length = mQ - 1 by rw [List.length_eraseIdx_of_lt (by rw [HLQ.out]; exact hbl), HLQ.out])
                  have EV := hid eV
                  clear eV0 H7 eY hown es ej eV hbV hownV HH6 H5 H2 hq2 hf2 HLE hg
                  go_region_law (first | (refine step_appB rfl (.tmp 106) (.tmp 109) 57 rfl tJb j0 (.agg #[.int .i64 0, .int .i64 0, .int .i64 0]) 3 24 Try.underlying57 HJI.out jz0 jz1 jz2 rfl (by decide) s ?_ (.slice (some ⟨s, 0, none⟩) 0 0) 0 [] ?_ ?_ (some ⟨g, 0, none⟩) b cQ (tab djV (Y.take b)) ?_ ?_ ?_ ?_ ?_ ?_ ?_; (· simp [go_sem]; have := ES.out; omega); (· simp [go_sem, ES.out]); (· rw [← EV.out]; exact HLIT.out); (· rfl); (· exact HT1.out); (· rw [← EV.out]; exact HC1.out); (· exact djt_one _); (· unfold maxLen; omega); (· omega); intro w6 A6 c6 ho6 hg6 hap6; clear hap6; rw [Nat.zero_add] at ho6 ⊢; rw [← EV.out] at hg6; obtain ⟨H6', t6⟩ := HN6.out _ _ _ ho6 hg6; clear ho6 hg6) | (refine step_appB rfl (.tmp 110) (.tmp 114) 57 rfl tJb j0 (.agg #[.int .i64 0, .int .i64 0, .int .i64 0]) 3 24 Try.underlying57 HJI.out jz0 jz1 jz2 rfl (by decide) s t6 (.slice A6 b c6) b (tab djV (Y.take b)) ?_ H6'.out.1 (if cQ = j then some ⟨g, 0, none⟩ else some ⟨g, j * 3, none⟩) (mQ - j) (cQ - j) (tab djV (Y.drop j)) ?_ ?_ ?_ ?_ ?_ ?_ ?_; (· rfl); (· rfl); (· exact HT2.out); (· exact HC2.out _ H6'.out.2.1); (· exact djt_one _); (· unfold maxLen; omega); (· omega); intro w8 A8 c8 ho8 hg8 hap8; clear hap8; rw [HM.out] at ho8 ⊢; have H8 := HN8.out _ _ _ _ _ _ H6' ho8 hg8; clear ho8 hg8))
                  all_goals (
                    go_wp2_with fail
                    exact ⟨⟨t + 1, mQ - 1, X.eraseIdx b, A8, _, c8, c5, mm, rfl, rfl, rfl, by go_num, by omega, HLE1, hid HRN.out.symm, hid HMN.out.symm, hid (by rw [HWN.out]; exact H8.out)⟩, by simp [intOf]; omega⟩)
                · rw [if_neg h1] at HRN
                  have hz : (xl - 1 == 0) = false := by simp; omega
                  have hz2 : ¬ xl - 1 = 0 := by omega
                  go_wp2_with fail
                  exact ⟨⟨t + 1, mQ, X.set b ⟨xw, xd, xl - 1⟩, some ⟨g, 0, none⟩, _, cQ, c5, mm, rfl, rfl, rfl, by go_num, by omega, hid (by rw [List.length_set]; exact HLQ.out), hid HRN.out.symm, hid HMN.out.symm, hid (by rw [HWN.out]; exact HH6.out)⟩, by simp [intOf]; omega⟩
end Go.Proofs.Ytolhbcgmlaodbaa
