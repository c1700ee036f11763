/-
  Layer 42's EdfLess: works that fit fit without one of them, and with more time to each deadline. No condition.
-/
import Derived.Test.YtolhbcgmlaodbaaEdW
import Derived.Test.YtolhbcgmlaodbaaRegSplit
namespace Go.Proofs.Ytolhbcgmlaodbaa
open Go Go.RowKit Go.ChangeShapes Go.WideShapes Go.ChangeAt
/-- Without one. -/
def lsK (l : List Wk) (j : Nat) : Nat → List Wk
  | 0 => []
  | k + 1 => lsK l j k ++ if k = j then [] else [wk l k]
def later (x : Wk) (m : Int) : Wk := ⟨x.c, x.p, min (x.d + m) 1000⟩
/-- Each with more time. -/
def ltK (l : List Wk) (m : Int) : Nat → List Wk
  | 0 => []
  | k + 1 => ltK l m k ++ [later (wk l k) m]
section
variable {l : List Wk}
theorem later_ok {x : Wk} (h : WkOk x) {m : Int} (hm : 0 ≤ m) : WkOk (later x m) := ⟨h.1, h.2.1, by have := h.2.2; unfold later; simp only; omega⟩
theorem later_need {x : Wk} (h : WkOk x) {m : Int} (hm : 0 ≤ m) (t : Int) : needE (later x m) t ≤ needE x t := by
  obtain ⟨⟨c0, c1⟩, ⟨p0, p1⟩, ⟨d0, d1⟩⟩ := h
  unfold needE later
  simp only
  by_cases h1 : t < x.d
  · rw [if_pos (by omega), if_pos h1]; exact Int.le_refl _
  · rw [if_neg h1]
    by_cases h2 : t < min (x.d + m) 1000
    · rw [if_pos h2]
      exact Int.mul_nonneg (by have := Int.ediv_nonneg (show 0 ≤ t - x.d by omega) (show 0 ≤ x.p by omega); omega) (by omega)
    · rw [if_neg h2]
      refine Int.mul_le_mul_of_nonneg_right ?_ (by omega)
      have := Int.ediv_le_ediv (c := x.p) (by omega) (show t - min (x.d + m) 1000 ≤ t - x.d by omega)
      omega
theorem ls_mem (ho : ∀ x ∈ l, WkOk x) (j : Nat) : ∀ k, ∀ x ∈ lsK l j k, WkOk x
  | 0, x, h => by cases h
  | k + 1, x, h => by
    rw [lsK] at h
    rcases List.mem_append.1 h with h | h
    · exact ls_mem ho j k x h
    · split at h
      · cases h
      · rw [List.mem_singleton.1 h]; exact wk_ok ho k
theorem ls_len (j : Nat) : ∀ k, (lsK l j k).length ≤ k
  | 0 => Nat.le_refl _
  | k + 1 => by
    have := ls_len j k
    rw [lsK, List.length_append]
    split <;> simp <;> omega
theorem lt_mem (ho : ∀ x ∈ l, WkOk x) {m : Int} (hm : 0 ≤ m) : ∀ k, ∀ x ∈ ltK l m k, WkOk x
  | 0, x, h => by cases h
  | k + 1, x, h => by
    rw [ltK] at h
    rcases List.mem_append.1 h with h | h
    · exact lt_mem ho hm k x h
    · rw [List.mem_singleton.1 h]; exact later_ok (wk_ok ho k) hm
theorem lt_len (m : Int) : ∀ k, (ltK l m k).length = k
  | 0 => rfl
  | k + 1 => by rw [ltK, List.length_append, lt_len m k]; rfl
theorem demE_one (x : Wk) (t : Int) : demE [x] t = needE x t := by rw [demE_cons, demE_nil]; omega
theorem ls_dem (ho : ∀ x ∈ l, WkOk x) (j : Nat) {t : Int} (ht : t ≤ 100000) : ∀ k, demE (lsK l j k) t ≤ demK l t k
  | 0 => Int.le_refl _
  | k + 1 => by
    have := ls_dem ho j ht k
    have h0 := (needE_in (wk_ok ho k) ht).1
    rw [lsK, demK, demE_append]
    split
    · rw [demE_nil]; omega
    · rw [demE_one]; omega
theorem lt_dem (ho : ∀ x ∈ l, WkOk x) {m : Int} (hm : 0 ≤ m) (t : Int) : ∀ k, demE (ltK l m k) t ≤ demK l t k
  | 0 => Int.le_refl _
  | k + 1 => by
    have := lt_dem ho hm t k
    have h0 := later_need (wk_ok ho k) hm t
    rw [ltK, demK, demE_append, demE_one]
    omega
theorem fits_less (ho : ∀ x ∈ l, WkOk x) (j : Nat) {m : Int} (hm : 0 ≤ m) {u : Nat} (hu : u ≤ 100000) (h : fitsN l u = 0) : fitsN (lsK l j l.length) u = 0 ∧ fitsN (ltK l m l.length) u = 0 := by
  rw [fitsN_iff] at h
  refine ⟨fitsN_zero fun t h1 h2 => ?_, fitsN_zero fun t h1 h2 => ?_⟩
  · exact Int.le_trans (ls_dem ho j (by omega) _) (h t h1 h2)
  · exact Int.le_trans (lt_dem ho hm t _) (h t h1 h2)
end
theorem own_keep {B e : Nat} {s n : Nat} {v : Value} {xs : List Value} {w w' : World} {X : Nat → Prop} (h : w.ownsRow B e s v n xs) (hk : KS X w w') (hn : ∀ g, v.ownBlock = some g → ¬ X g) : w'.ownsRow B e s v n xs := by
  refine ⟨h.1, ?_⟩
  rcases h.2 with h4 | ⟨g, cap, cur, hv, hg, hh, hr⟩
  · exact .inl h4
  · exact .inr ⟨g, cap, cur, hv, hg, (hk.block g (Array.getElem?_eq_some_iff.1 hh).1 (hn g (by rw [hv]; rfl))).trans hh, hr⟩
/-- Two rows of the call's own. -/
structure Two (w1 W : World) (v1 : Value) (l1 : List Wk) (v2 : Value) (l2 : List Wk) : Prop where
  o1 : W.ownsRow w1.heap.size 37 3 v1 l1.length (tab wkV l1)
  o2 : W.ownsRow w1.heap.size 37 3 v2 l2.length (tab wkV l2)
  ap : Apart v1 v2
  bl : Below w1.heap.size w1 W
theorem apart_swap {v v' : Value} (h : Apart v v') : Apart v' v := by
  rcases h with h | h | h
  · exact .inr (.inl h)
  · exact .inl h
  · exact .inr (.inr fun e => h e.symm)
theorem Two.swap {w1 W : World} {v1 v2 : Value} {l1 l2 : List Wk} (h : Two w1 W v1 l1 v2 l2) : Two w1 W v2 l2 v1 l1 := ⟨h.o2, h.o1, apart_swap h.ap, h.bl⟩
theorem tab_snoc (l : List Wk) (x : Wk) : tab wkV (l ++ [x]) = tab wkV l ++ wkV x := by simp [tab]
/-- One is appended to the first one. -/
theorem Two.push {w1 W W' : World} {v1 v2 : Value} {l1 l2 : List Wk} (h : Two w1 W v1 l1 v2 l2) {x : Wk} {g cap : Nat} (ho : W'.ownsRow w1.heap.size 37 3 (.slice (some ⟨g, 0, none⟩) (l1.length + 1) cap) (l1.length + 1) (tab wkV l1 ++ #[Value.int .i64 x.c, .int .i64 x.p, .int .i64 x.d].toList)) (hg : W.grownBy W' v1.ownBlock)
    (ha : ∀ v' : Value, Apart v' v1 → (∀ k, v'.ownBlock = some k → k < W.heap.size) → Apart v' (.slice (some ⟨g, 0, none⟩) (l1.length + 1) cap)) : Two w1 W' (.slice (some ⟨g, 0, none⟩) (l1.length + 1) cap) (l1 ++ [x]) v2 l2 := by
  refine ⟨?_, own_apart h.o2 hg (apart_swap h.ap), apart_swap (ha v2 (apart_swap h.ap) (fun k hk => (h.o2.lt k hk).2)), Below.grown h.bl hg h.bl.size (fun k hk => (h.o1.lt k hk).1)⟩
  rw [tab_snoc, List.length_append]
  exact ho
/-- What is new is filled. -/
theorem Two.box {w1 W : World} {v1 v2 : Value} {l1 l2 : List Wk} (h : Two w1 W v1 l1 v2 l2) {K : Nat} (hK : w1.heap.size ≤ K) (h1 : v1.ownBlock ≠ some K) (h2 : v2.ownBlock ≠ some K) (o : Nat) (u : Value) : Two w1 (W.setCell ⟨K, o, none⟩ u) v1 l1 v2 l2 := by
  have hk : KS (fun k => k = K) W (W.setCell ⟨K, o, none⟩ u) := (KS.refl (fun k => k = K) W).setCell (b := K) rfl o u
  exact ⟨own_keep h.o1 hk (fun g hg e => h1 (by rw [hg, e])), own_keep h.o2 hk (fun g hg e => h2 (by rw [hg, e])), h.ap, h.bl.setCell (p := ⟨K, o, none⟩) hK u⟩
theorem Two.far {w1 W W' : World} {v1 v2 : Value} {l1 l2 : List Wk} (h : Two w1 W v1 l1 v2 l2) (hb : Below W.heap.size W W') : Two w1 W' v1 l1 v2 l2 := ⟨own_below h.o1 hb (Nat.le_refl _), own_below h.o2 hb (Nat.le_refl _), h.ap, h.bl.trans (hb.mono h.bl.size)⟩
set_option maxRecDepth 100000 in
set_option maxHeartbeats 4000000 in
theorem EdfLess_any (A : Option Addr) (ca n : Nat) (l : List Wk) (en : l.length = n) (hn : n ≤ maxLen) (at' mo : Int) (hat : 0 ≤ at' ∧ at' < 256) (hmo : 0 ≤ mo ∧ mo < 256) (w : World) (hA : Cells w A (tab wkV l)) :
    Calls Try.prog 5 #[.slice A n ca, .int .u8 at', .int .u8 mo] w (Gives (.bool true) w) := by
  have HAW := hid (awake_any w)
  have HMA := hid (fun x : Past => RMay_any A ca n l en hn (w.past x) (hA.past x))
  have HA := hid hA
  have EN := hid en
  have hcase : mayF l = false ∨ (mayF l = true ∧ n = 0) ∨ (mayF l = true ∧ ¬ n = 0) := by
    cases mayF l <;> simp <;> omega
  rcases hcase with h1 | ⟨h1, h2⟩ | ⟨h1, h2⟩
  · rw [h1] at HMA
    clear h1 hA en
    go_enter Try.func5, Try.ntmps5
    go_wp2_with (first | (go_at_call 7; refine HAW.out.mono ?_; rintro _ _ ⟨rfl, x0, rfl⟩) | (go_at_call 12; refine (HMA.out _).mono ?_; rintro _ _ ⟨rfl, x2, rfl⟩))
    go_ret
    exact Gives.mk rfl (by (repeat (first | exact Below.refl _ _ | refine RowKit.Below.past ?_ _ | refine RowKit.Below.alloc' ?_ _ | refine RowKit.Below.drew' ?_ | refine RowKit.Below.drewN' ?_ _ | refine RowKit.Below.setCell' ?_ (by simp [go_sem]) _)))
  · rw [h1] at HMA
    subst h2
    clear h1 hA en
    go_enter Try.func5, Try.ntmps5
    go_wp2_with (first | (go_at_call 7; refine HAW.out.mono ?_; rintro _ _ ⟨rfl, x0, rfl⟩) | (go_at_call 12; refine (HMA.out _).mono ?_; rintro _ _ ⟨rfl, x2, rfl⟩))
    go_ret
    exact Gives.mk rfl (by (repeat (first | exact Below.refl _ _ | refine RowKit.Below.past ?_ _ | refine RowKit.Below.alloc' ?_ _ | refine RowKit.Below.drew' ?_ | refine RowKit.Below.drewN' ?_ _ | refine RowKit.Below.setCell' ?_ (by simp [go_sem]) _)))
  · rw [h1] at HMA
    have HM := hid h1
    obtain ⟨h6, hok⟩ := wks_ok h1
    rw [en] at h6
    have HOK := hid hok
    have HFI := hid (fun x : Past => Fits_any A ca n l en h1 300 (w.past x) (hA.past x))
    rw [show (farE 300).toNat = 300 from by decide] at HFI
    obtain ⟨f0, ef0⟩ : ∃ f0, fitsN l 300 = f0 := ⟨_, rfl⟩
    have HF0 := hid ef0
    rw [ef0] at HFI
    obtain ⟨b0, eb0⟩ : ∃ b0, decide (f0 = 0) = b0 := ⟨_, rfl⟩
    have HBO := hid eb0
    rw [eb0] at HFI
    obtain ⟨j, ej⟩ : ∃ j : Nat, at'.tmod (n : Int) = j := ⟨(at'.tmod n).toNat, by have := Int.tmod_nonneg (n : Int) hat.1; omega⟩
    have e1 : IntKind.i64.wrap at' = at' := by rw [IntKind.wrap_i64]; omega
    have e2 : IntKind.i64.wrap mo = mo := by rw [IntKind.wrap_i64]; omega
    have hjn : j < n := by
      have := Int.tmod_lt_of_pos at' (show (0 : Int) < n by omega)
      omega
    have e3 : IntKind.i64.wrap (at'.tmod (n : Int)) = (j : Int) := by rw [ej, IntKind.wrap_i64]; omega
    have e3' : at' % (n : Int) = (j : Int) := by rw [← ej, Int.tmod_eq_emod_of_nonneg hat.1]
    have HI := hid (info_parts info_wk)
    have d0 : ((n : Int) == 0) = false := by simp; omega
    clear h1 hA en hok ef0 eb0 ej
    go_enter Try.func5, Try.ntmps5
    go_upto_region 7 with (first | (go_at_call 7; refine HAW.out.mono ?_; rintro _ _ ⟨rfl, x0, rfl⟩) | (go_at_call 12; refine (HMA.out _).mono ?_; clear HMA; rintro _ _ ⟨rfl, x2, rfl⟩) | (go_at_call 9; refine (HFI.out _).mono ?_; rintro _ _ ⟨rfl, x3, rfl⟩))
    obtain ⟨w1, ew1⟩ : ∃ W, W = w.past ((x0.and x2).and x3) := ⟨_, rfl⟩
    have HB1 := hid (show Below w.heap.size w w1 by rw [ew1]; exact w.below_past _)
    rw [← ew1]
    have HT0 := hid (show Two w1 w1 (.slice none 0 0) (lsK l j 0) (.slice none 0 0) (ltK l mo 0) from ⟨World.ownsRow_nil _ _ _ _, World.ownsRow_nil _ _ _ _, .inl rfl, Below.refl _ _⟩)
    clear ew1 HFI HAW
    go_wp2_with fail
    go_loopw [9, 10, 11, 12, 34] (fun v9 v10 _ _ i wr => ∃ (k : Nat) (R1 R2 : Option Addr) (c1 c2 : Nat), v9 = .slice R1 (lsK l j k).length c1 ∧ v10 = .slice R2 (ltK l mo k).length c2 ∧ i = .int .i64 (k : Int) ∧ k ≤ n ∧ Hid (Two w1 wr (.slice R1 (lsK l j k).length c1) (lsK l j k) (.slice R2 (ltK l mo k).length c2) (ltK l mo k))) (fun _ _ _ _ i _ => n - (intOf i).toNat)
    case atStart => exact ⟨0, none, none, 0, 0, rfl, rfl, rfl, Nat.zero_le _, HT0⟩
    case round =>
      clear HT0
      obtain ⟨k, R1, R2, c1', c2', rfl, rfl, rfl, hk, HT⟩ := hrel
      have hl1 := ls_len (l := l) j k
      have hl2 := lt_len (l := l) mo k
      by_cases hlt : k < n
      · obtain ⟨g, o, rfl, q0, q1, q2⟩ := wk_at (HA.out.below (HB1.out.trans (HT.out.bl.mono HB1.out.size))) (k := k) (by rw [EN.out]; exact hlt)
        have hxk := wk_ok HOK.out k
        have HL1 := hid (show lsK l j (k + 1) = lsK l j k ++ if k = j then [] else [wk l k] from rfl)
        have HL2 := hid (show ltK l mo (k + 1) = ltK l mo k ++ [later (wk l k) mo] from rfl)
        obtain ⟨y, ey⟩ : ∃ y, wk l k = y := ⟨_, rfl⟩
        rw [ey] at q0 q1 q2 hxk HL1 HL2
        obtain ⟨c, p, d⟩ := y
        simp only at q0 q1 q2
        have hd : 1 ≤ d ∧ d ≤ 1000 := hxk.2.2
        obtain ⟨w2, ew2⟩ : ∃ w2, w2 = wr.alloc (.cells #[.int .i64 c, .int .i64 p, .int .i64 d] 37) := ⟨_, rfl⟩
        obtain ⟨K, eK⟩ : ∃ K, wr.heap.size = K := ⟨_, rfl⟩
        have hb2 : Below wr.heap.size wr w2 := by rw [ew2]; exact (Below.refl _ wr).alloc (Nat.le_refl _) _
        have hr2 : Rec w2 K 37 #[.int .i64 c, .int .i64 p, .int .i64 d] := by rw [ew2, ← eK]; exact Rec.new wr _ _
        have HT2 := hid (HT.out.far hb2)
        have hK1 : w1.heap.size ≤ K := by have := HT.out.bl.size; omega
        have hN1 : (Value.slice R1 (lsK l j k).length c1').ownBlock ≠ some K := fun e => by have := (HT.out.o1.lt K e).2; omega
        have hN2 : (Value.slice R2 (ltK l mo k).length c2').ownBlock ≠ some K := fun e => by have := (HT.out.o2.lt K e).2; omega
        have EW2 := hid ew2
        have hB2 : w1.heap.size ≤ w2.heap.size := HT2.out.bl.size
        obtain ⟨L1, eL1⟩ : ∃ L1, lsK l j k = L1 := ⟨_, rfl⟩
        obtain ⟨L2, eL2⟩ : ∃ L2, ltK l mo k = L2 := ⟨_, rfl⟩
        rw [eL1] at HT2 HL1 hl1 hN1 ⊢
        rw [eL2] at HT2 HL2 hl2 hN2 ⊢
        have HLD := hid (show later ⟨c, p, d⟩ mo = ⟨c, p, min (d + mo) 1000⟩ from rfl)
        obtain ⟨i0, ii, iz0, iz1, iz2⟩ := HI.out
        have HII := hid ii
        have e4 : IntKind.i64.wrap (d + mo) = d + mo := by rw [IntKind.wrap_i64]; omega
        have HRK := hid hr2
        have r0 := Rec.cell hr2 0
        have r1 := Rec.cell hr2 1
        have r2 := Rec.cell hr2 2
        have f2 := Rec.frozen hr2 2
        have hlK := hr2.lt
        simp at r0 r1 r2
        clear ew2 hb2 hr2 ii hxk ey HT eL1 eL2
        go_upto_region 10 with (fail)
        rw [← EW2.out]
        clear q0 q1 q2
        have HRB := hid (fun (W W' : World) (v : Value) (h : Rec W K 37 #[.int .i64 c, .int .i64 p, .int .i64 d]) (hg : W.grownBy W' v.ownBlock) (hn : v.ownBlock ≠ some K) => (show Rec W' K 37 #[.int .i64 c, .int .i64 p, .int .i64 d] from (hg.block K h.lt (by first | exact hn | exact fun e => hn e.symm)).trans h))
        obtain ⟨D, eD⟩ : ∃ D, min (d + mo) 1000 = D := ⟨_, rfl⟩
        rw [eD] at HLD
        have hDc : (1000 < d + mo ∧ D = 1000) ∨ (¬ 1000 < d + mo ∧ D = d + mo) := by omega
        have HL2' := hid (show ltK l mo (k + 1) = L2 ++ [⟨c, p, D⟩] by rw [HL2.out, HLD.out])
        have HP2 := hid (fun (W W' : World) (v1 : Value) (L : List Wk) (g cap : Nat) (h : Two w1 W v1 L (.slice R2 L2.length c2') L2) (ho : W'.ownsRow w1.heap.size 37 3 (.slice (some ⟨g, 0, none⟩) (L2.length + 1) cap) (L2.length + 1) (tab wkV L2 ++ #[Value.int .i64 c, .int .i64 p, .int .i64 D].toList)) (hg : W.grownBy W' (Value.slice R2 L2.length c2').ownBlock) (ha : ∀ v' : Value, Apart v' (.slice R2 L2.length c2') → (∀ k, v'.ownBlock = some k → k < W.heap.size) → Apart v' (.slice (some ⟨g, 0, none⟩) (L2.length + 1) cap)) => (Two.push (x := ⟨c, p, D⟩) h.swap ho hg ha).swap)
        have hm1 : L1.length ≤ 6 := by omega
        have hm2 : L2.length ≤ 6 := by omega
        clear eD HL2 HLD hl1 hl2
        by_cases hkj : k = j
        · have dkj : ((k : Int) != (j : Int)) = false := by simp [hkj]
          have HLL := hid (show lsK l j (k + 1) = L1 by rw [HL1.out, if_pos hkj, List.append_nil])
          clear HL1 hkj
          rcases hDc with ⟨h1, rfl⟩ | ⟨h1, rfl⟩
          · obtain ⟨W4, eW4⟩ : ∃ W4, W4 = w2.setCell ⟨K, 2, none⟩ (.int .i64 (1000)) := ⟨_, rfl⟩
            have HT4 := hid (show Two w1 W4 _ _ _ _ from by rw [eW4]; exact HT2.out.box hK1 hN1 hN2 2 (.int .i64 (1000)))
            have hB4 : w1.heap.size ≤ W4.heap.size := HT4.out.bl.size
            have hr4 : Rec W4 K 37 #[.int .i64 c, .int .i64 p, .int .i64 (1000)] := by rw [eW4]; have := HRK.out.set 2 (.int .i64 (1000)); simpa using this
            have s0 := Rec.cell hr4 0
            have s1 := Rec.cell hr4 1
            have s2 := Rec.cell hr4 2
            have sl := hr4.lt
            simp at s0 s1 s2
            have EW4 := hid eW4
            clear eW4 hr4
            go_upto_region 13 with (fail)
            rw [← EW4.out]
            clear r0 r1 r2 f2
            go_wp2_with (at_builtin; go_must (refine wpList_pushB rfl (.tmp 57) (.tmp 59) 22 rfl 37 i0 (.agg #[.int .i64 0, .int .i64 0, .int .i64 0]) 3 24 Try.underlying22 HII.out iz0 iz1 iz2 rfl (by decide) w1.heap.size (w := W4) hB4 (.slice R2 L2.length c2') L2.length (tab wkV L2) rfl HT4.out.o2 _ #[.int .i64 c, .int .i64 p, .int .i64 (1000)] rfl rfl rfl (by simp [Value.oneCell']) (by omega) (by unfold maxLen; omega) ?_; intro w5 g5 c5 ho5 hg5 ha5; have HT5 := hid (HP2.out _ _ _ _ _ _ HT4.out ho5 hg5 ha5); clear ho5 hg5 ha5))
            exact ⟨⟨k + 1, _, _, _, _, by rw [HLL.out], by rw [HL2'.out, List.length_append]; rfl, by go_num, by omega, hid (by rw [HLL.out, HL2'.out]; simpa only [List.length_append, List.length_cons, List.length_nil, Nat.zero_add] using HT5.out)⟩, by simp [intOf]; omega⟩
          · obtain ⟨W4, eW4⟩ : ∃ W4, W4 = w2.setCell ⟨K, 2, none⟩ (.int .i64 (d + mo)) := ⟨_, rfl⟩
            have HT4 := hid (show Two w1 W4 _ _ _ _ from by rw [eW4]; exact HT2.out.box hK1 hN1 hN2 2 (.int .i64 (d + mo)))
            have hB4 : w1.heap.size ≤ W4.heap.size := HT4.out.bl.size
            have hr4 : Rec W4 K 37 #[.int .i64 c, .int .i64 p, .int .i64 (d + mo)] := by rw [eW4]; have := HRK.out.set 2 (.int .i64 (d + mo)); simpa using this
            have s0 := Rec.cell hr4 0
            have s1 := Rec.cell hr4 1
            have s2 := Rec.cell hr4 2
            have sl := hr4.lt
            simp at s0 s1 s2
            have EW4 := hid eW4
            clear eW4 hr4
            go_upto_region 13 with (fail)
            rw [← EW4.out]
            clear r0 r1 r2 f2
            go_wp2_with (at_builtin; go_must (refine wpList_pushB rfl (.tmp 57) (.tmp 59) 22 rfl 37 i0 (.agg #[.int .i64 0, .int .i64 0, .int .i64 0]) 3 24 Try.underlying22 HII.out iz0 iz1 iz2 rfl (by decide) w1.heap.size (w := W4) hB4 (.slice R2 L2.length c2') L2.length (tab wkV L2) rfl HT4.out.o2 _ #[.int .i64 c, .int .i64 p, .int .i64 (d + mo)] rfl rfl rfl (by simp [Value.oneCell']) (by omega) (by unfold maxLen; omega) ?_; intro w5 g5 c5 ho5 hg5 ha5; have HT5 := hid (HP2.out _ _ _ _ _ _ HT4.out ho5 hg5 ha5); clear ho5 hg5 ha5))
            exact ⟨⟨k + 1, _, _, _, _, by rw [HLL.out], by rw [HL2'.out, List.length_append]; rfl, by go_num, by omega, hid (by rw [HLL.out, HL2'.out]; simpa only [List.length_append, List.length_cons, List.length_nil, Nat.zero_add] using HT5.out)⟩, by simp [intOf]; omega⟩
        · have dkj : ((k : Int) != (j : Int)) = true := by simp; omega
          have HLL := hid (show lsK l j (k + 1) = L1 ++ [⟨c, p, d⟩] by rw [HL1.out, if_neg hkj])
          clear HL1 hkj
          go_upto_region 12 with (at_builtin; go_must (refine wpList_pushB rfl (.tmp 46) (.tmp 48) 22 rfl 37 i0 (.agg #[.int .i64 0, .int .i64 0, .int .i64 0]) 3 24 Try.underlying22 HII.out iz0 iz1 iz2 rfl (by decide) w1.heap.size (w := w2) hB2 (.slice R1 L1.length c1') L1.length (tab wkV L1) rfl HT2.out.o1 _ #[.int .i64 c, .int .i64 p, .int .i64 (d)] rfl rfl rfl (by simp [Value.oneCell']) (by omega) (by unfold maxLen; omega) ?_; intro w3 g3 c3 ho3 hg3 ha3; have HT3 := hid (Two.push (x := ⟨c, p, d⟩) HT2.out ho3 hg3 ha3); have HG3 := hid (And.intro hg3 (apart_or ha3)); clear ho3 hg3 ha3))
          have HR3 := hid (HRB.out _ _ _ HRK.out HG3.out.1 hN1)
          have hN3 : (Value.slice (some ⟨g3, 0, none⟩) (L1.length + 1) c3).ownBlock ≠ some K := fun e => by
            simp only [Value.ownBlock, Option.some.injEq] at e
            subst e
            rcases HG3.out.2 with e | e
            · exact hN1 e
            · omega
          clear r0 r1 r2 f2
          have r0 := Rec.cell HR3.out 0
          have r1 := Rec.cell HR3.out 1
          have r2 := Rec.cell HR3.out 2
          have f2 := Rec.frozen HR3.out 2
          have hlK3 := HR3.out.lt
          simp at r0 r1 r2
          rcases hDc with ⟨h1, rfl⟩ | ⟨h1, rfl⟩
          · obtain ⟨W4, eW4⟩ : ∃ W4, W4 = w3.setCell ⟨K, 2, none⟩ (.int .i64 (1000)) := ⟨_, rfl⟩
            have HT4 := hid (show Two w1 W4 _ _ _ _ from by rw [eW4]; exact HT3.out.box hK1 hN3 hN2 2 (.int .i64 (1000)))
            have hB4 : w1.heap.size ≤ W4.heap.size := HT4.out.bl.size
            have hr4 : Rec W4 K 37 #[.int .i64 c, .int .i64 p, .int .i64 (1000)] := by rw [eW4]; have := HR3.out.set 2 (.int .i64 (1000)); simpa using this
            have s0 := Rec.cell hr4 0
            have s1 := Rec.cell hr4 1
            have s2 := Rec.cell hr4 2
            have sl := hr4.lt
            simp at s0 s1 s2
            have EW4 := hid eW4
            clear eW4 hr4
            go_upto_region 13 with (fail)
            rw [← EW4.out]
            clear r0 r1 r2 f2
            go_wp2_with (at_builtin; go_must (refine wpList_pushB rfl (.tmp 57) (.tmp 59) 22 rfl 37 i0 (.agg #[.int .i64 0, .int .i64 0, .int .i64 0]) 3 24 Try.underlying22 HII.out iz0 iz1 iz2 rfl (by decide) w1.heap.size (w := W4) hB4 (.slice R2 L2.length c2') L2.length (tab wkV L2) rfl HT4.out.o2 _ #[.int .i64 c, .int .i64 p, .int .i64 (1000)] rfl rfl rfl (by simp [Value.oneCell']) (by omega) (by unfold maxLen; omega) ?_; intro w5 g5 c5 ho5 hg5 ha5; have HT5 := hid (HP2.out _ _ _ _ _ _ HT4.out ho5 hg5 ha5); clear ho5 hg5 ha5))
            exact ⟨⟨k + 1, _, _, _, _, by rw [HLL.out, List.length_append]; rfl, by rw [HL2'.out, List.length_append]; rfl, by go_num, by omega, hid (by rw [HLL.out, HL2'.out]; simpa only [List.length_append, List.length_cons, List.length_nil, Nat.zero_add] using HT5.out)⟩, by simp [intOf]; omega⟩
          · obtain ⟨W4, eW4⟩ : ∃ W4, W4 = w3.setCell ⟨K, 2, none⟩ (.int .i64 (d + mo)) := ⟨_, rfl⟩
            have HT4 := hid (show Two w1 W4 _ _ _ _ from by rw [eW4]; exact HT3.out.box hK1 hN3 hN2 2 (.int .i64 (d + mo)))
            have hB4 : w1.heap.size ≤ W4.heap.size := HT4.out.bl.size
            have hr4 : Rec W4 K 37 #[.int .i64 c, .int .i64 p, .int .i64 (d + mo)] := by rw [eW4]; have := HR3.out.set 2 (.int .i64 (d + mo)); simpa using this
            have s0 := Rec.cell hr4 0
            have s1 := Rec.cell hr4 1
            have s2 := Rec.cell hr4 2
            have sl := hr4.lt
            simp at s0 s1 s2
            have EW4 := hid eW4
            clear eW4 hr4
            go_upto_region 13 with (fail)
            rw [← EW4.out]
            clear r0 r1 r2 f2
            go_wp2_with (at_builtin; go_must (refine wpList_pushB rfl (.tmp 57) (.tmp 59) 22 rfl 37 i0 (.agg #[.int .i64 0, .int .i64 0, .int .i64 0]) 3 24 Try.underlying22 HII.out iz0 iz1 iz2 rfl (by decide) w1.heap.size (w := W4) hB4 (.slice R2 L2.length c2') L2.length (tab wkV L2) rfl HT4.out.o2 _ #[.int .i64 c, .int .i64 p, .int .i64 (d + mo)] rfl rfl rfl (by simp [Value.oneCell']) (by omega) (by unfold maxLen; omega) ?_; intro w5 g5 c5 ho5 hg5 ha5; have HT5 := hid (HP2.out _ _ _ _ _ _ HT4.out ho5 hg5 ha5); clear ho5 hg5 ha5))
            exact ⟨⟨k + 1, _, _, _, _, by rw [HLL.out, List.length_append]; rfl, by rw [HL2'.out, List.length_append]; rfl, by go_num, by omega, hid (by rw [HLL.out, HL2'.out]; simpa only [List.length_append, List.length_cons, List.length_nil, Nat.zero_add] using HT5.out)⟩, by simp [intOf]; omega⟩
      · obtain rfl : k = n := by omega
        have hm1 : mayF (lsK l j k) = true := (mayF_iff _).2 ⟨by omega, ls_mem HOK.out j k⟩
        have hm2 : mayF (ltK l mo k) = true := (mayF_iff _).2 ⟨by omega, lt_mem HOK.out hmo.1 k⟩
        have HX1 := hid (Fits_any R1 c1' _ (lsK l j k) rfl hm1 300 wr (Cells.of_own HT.out.o1))
        have HX2 := hid (fun y : Past => Fits_any R2 c2' _ (ltK l mo k) rfl hm2 300 (wr.past y) ((Cells.of_own HT.out.o2).past y))
        rw [show (farE 300).toNat = 300 from by decide] at HX1 HX2
        have HFL := hid (fun (h : fitsN l 300 = 0) => fits_less (l := l) HOK.out j hmo.1 (show 300 ≤ 100000 by omega) h)
        rw [EN.out] at HFL
        obtain ⟨f1, ef1⟩ : ∃ f1, fitsN (lsK l j k) 300 = f1 := ⟨_, rfl⟩
        obtain ⟨f2, ef2⟩ : ∃ f2, fitsN (ltK l mo k) 300 = f2 := ⟨_, rfl⟩
        rw [ef1] at HX1 HFL
        rw [ef2] at HX2 HFL
        rw [HF0.out] at HFL
        have hb : b0 = false ∨ (b0 = true ∧ f1 = 0 ∧ f2 = 0) := by
          cases hb : b0
          · exact .inl rfl
          · rw [hb] at HBO
            have := HFL.out (of_decide_eq_true HBO.out)
            exact .inr ⟨rfl, this⟩
        have HBL := hid HT.out.bl
        clear hm1 hm2 ef1 ef2 HFL HBO HF0 hl1 hl2
        rcases hb with rfl | ⟨rfl, rfl, rfl⟩
        all_goals
          go_wp2_with fail
          refine HX1.out.mono ?_
          rintro _ _ ⟨rfl, y1, rfl⟩
          go_wp2_with fail
          refine (HX2.out _).mono ?_
          rintro _ _ ⟨rfl, y2, rfl⟩
          go_wp2_with fail
          go_ret
          refine Gives.mk rfl (HB1.out.trans ((HBL.out.trans (RowKit.Below.mono (wr.below_past _) HBL.out.size)).mono HB1.out.size))
theorem c_wk_3 : Try.prog.cellsOf 3 = 1 := by kernel_rfl
theorem c_wk : Try.prog.cellsOf 37 = 3 := by kernel_rfl
theorem rd_wk {H : Type} {enc : TypeId × Value → H} {W : World} {cs : Array Value} (h : Rd enc Try.prog W 37 cs.toList) : ∃ x0 x1 x2 : Int, cs = #[.int .i64 x0, .int .i64 x1, .int .i64 x2] ∧ I64 x0 ∧ I64 x1 ∧ I64 x2 := by
  obtain ⟨c0, c1, c2, e⟩ := cs_three (h.len_struct Try.underlying37 c_wk)
  rw [e] at h
  obtain ⟨x0, e0, w0⟩ := Rd.int (h.field Try.underlying37 0 3 0 1 rfl c_wk_3) Try.underlying3
  obtain ⟨x1, e1, w1⟩ := Rd.int (h.field Try.underlying37 1 3 1 1 rfl c_wk_3) Try.underlying3
  obtain ⟨x2, e2, w2⟩ := Rd.int (h.field Try.underlying37 2 3 2 1 rfl c_wk_3) Try.underlying3
  simp at e0 e1 e2
  subst e0 e1 e2
  exact ⟨x0, x1, x2, arr_of e, i64_of w0, i64_of w1, i64_of w2⟩
theorem rd_wks {H : Type} {enc : TypeId × Value → H} {W : World} {cs : List Value} (h : Rd enc Try.prog W 37 cs) : ∃ x : Wk, cs = wkV x ∧ True := by
  obtain ⟨y0, y1, y2, e, _⟩ := rd_wk (cs := cs.toArray) (by simpa using h)
  exact ⟨⟨y0, y1, y2⟩, by simpa [wkV] using congrArg Array.toList e, trivial⟩
theorem edfLess_own : ownKnob Try.prog.godebug = none := by kernel_rfl
theorem edfLess_laidOut : laidOutB Try.prog = true := by kernel_rfl
theorem edfLess_types : ∀ t ∈ Try.f5.params.toList, Try.prog.readableRec t = true ∧ t < Try.prog.types.size := by
  rw [Try.params5]
  intro t ht
  simp only [List.mem_cons, List.not_mem_nil, or_false] at ht
  rcases ht with rfl | rfl | rfl
  · exact ⟨by kernel_rfl, of_decide_eq_true (by kernel_rfl)⟩
  · exact ⟨by kernel_rfl, of_decide_eq_true (by kernel_rfl)⟩
  · exact ⟨by kernel_rfl, of_decide_eq_true (by kernel_rfl)⟩
set_option maxRecDepth 100000 in
theorem edfLess_lifted (os : Os) (started : os.Started) (H : Type) (enc : TypeId × Value → H) :
    ReturnsInHanded {} Try.checked os 5 .any (Rows.edfLessSpec.pre6 enc Try.prog Try.f5 Rows.edfLessRow.domain false) (Rows.edfLessSpec.post enc Try.prog Try.f5 false true false false) := by
  refine returnsInHanded_of_change (C := Try.checked) edfLess_own started (by kernel_rfl) Try.func5
    (ChangeSpec.witness6 (enc := enc) (C := Try.checked) false ⟨#[], #[.slice none 0 0, .int .u8 0, .int .u8 0], []⟩ 8 (by kernel_rfl) (by kernel_rfl) (by kernel_rfl) (by kernel_rfl)) ?_
  intro W base args ds gs before hval0 hW hcnd _
  have hval : ∀ (j : Nat) t v, Try.f5.params[j]? = some t → args[j]? = some v → Value.okWide Try.prog W .any base t v := hval0
  have hW' := hW
  obtain ⟨p, q, hA0, hV, hpq, hfz, hnd⟩ := hW
  have hA : DataW.TrodAll enc Try.prog W 0 (fun _ => true) true Try.f5.params.toList args.toList ds p := hA0
  rw [Try.params5] at hA hval
  obtain ⟨v0, vs0, d0, ds0, p0, q0, hargs, rfl, rfl, h0, r0⟩ := trodAll_cons hA
  obtain ⟨v1, vs1, d1, ds1, p1, q1, rfl, rfl, rfl, h1, r1⟩ := trodAll_cons r0
  obtain ⟨v2, vs2, d2, ds2, p2, q2, rfl, rfl, rfl, h2, r2⟩ := trodAll_cons r1
  obtain ⟨rfl, rfl, rfl⟩ := trodAll_nil r2
  obtain rfl : args = #[v0, v1, v2] := by cases args; simp_all
  have k0 := hval 0 22 v0 rfl rfl
  have k1 := hval 1 5 v1 rfl rfl
  have k2 := hval 2 5 v2 rfl rfl
  clear hA0 hval0 hval hcnd hfz hnd hpq hV hargs r2
  suffices hs : Calls Try.prog 5 #[v0, v1, v2] W (Gives (.bool true) W) from hs.mono fun e W' ⟨he, x, hx⟩ => ⟨_, he, law_post edfLess_laidOut hW' rfl rfl (by kernel_rfl) (by first | exact Try.underlying4 | rfl) edfLess_types (hx ▸ W.below_past x)⟩
  clear hW'
  obtain ⟨A, ca, a, rfl, ha, _, hl, _⟩ := rd_tabC (f := wkV) (c := 3) (K := fun _ => True) wkV_length (by omega) (rd_slice Try.underlying22 k0 h0) Try.underlying22 c_wk (fun _ h => by obtain ⟨x, e, hk⟩ := rd_wks h; exact ⟨x, e, hk⟩)
  obtain ⟨x1, rfl, _, _, w1⟩ := open_int Try.underlying5 k1 h1
  obtain ⟨x2, rfl, _, _, w2⟩ := open_int Try.underlying5 k2 h2
  exact EdfLess_any A ca _ a rfl hl x1 x2 (u8_of w1) (u8_of w2) W ha
theorem edfLess_holds : Rows.EdfLessSaid :=
  OpenClaim.holds_of_wide 5 Try.f5 rfl rfl rfl rfl rfl rfl rfl ⟨rfl, rfl, rfl, rfl, rfl⟩ rfl rfl rfl rfl rfl (by kernel_rfl) Try.func5 (by kernel_rfl)
    (of_decide_eq_true (by kernel_rfl)) (by unfold Func.isWrapper; first | (rw [if_pos (by decide +kernel)]; kernel_rfl) | (rw [if_neg (by decide +kernel)]; exact ⟨rfl, rfl⟩))
    (fun os started H enc _ => edfLess_lifted os started H enc)
end Go.Proofs.Ytolhbcgmlaodbaa
