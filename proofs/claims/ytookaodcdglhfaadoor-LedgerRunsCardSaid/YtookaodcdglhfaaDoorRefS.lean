/-
  Layer 18: who is active, and the floor, by the document's ledger. No condition.
-/
import Derived.Test.YtookaodcdglhfaaDoorRefM
namespace Go.Proofs.YtookaodcdglhfaaDoor
open Go.RowKit
def riseB (s a k i : Nat) : Bool := decide (i < k) && (s.testBit i && !(a.testBit i))
def lkL (S : Lg) (s k : Nat) : List Pt := risL S (riseB s S.act k)
def hasK (s a k i : Nat) : Bool := if i < k then s.testBit i else a.testBit i
theorem lk_length (S : Lg) (s k : Nat) : (lkL S s k).length = S.l.length := ris_length S _
theorem lk_pt_k {S : Lg} {s k : Nat} (h : k < S.l.length) : pt (lkL S s k) k = pt S.l k := by
  unfold lkL; rw [ris_pt S _ h]; unfold riseB; simp
theorem lk_fin {S : Lg} (s : Nat) : lkL S s S.l.length = (settleF S s).l := ris_ext S fun k hk => by unfold riseB; simp [hk]
theorem lk_pt_lt {S : Lg} {s k j : Nat} (hj : j < k) (hk : k ≤ S.l.length) : pt (lkL S s k) j = pt (lkL S s S.l.length) j := by
  have h : j < S.l.length := by omega
  unfold lkL; rw [ris_pt S _ h, ris_pt S _ h]; unfold riseB; simp [hj, h]
theorem lk_zero (S : Lg) (s : Nat) : lkL S s 0 = S.l := by
  unfold lkL
  rw [ris_ext S (h2 := fun _ => false) (fun k _ => by unfold riseB; simp)]
  exact ris_none S
theorem lk_same {S : Lg} {s k : Nat} (h : (s.testBit k && !(S.act.testBit k)) = false) : lkL S s (k + 1) = lkL S s k := ris_ext S fun i _ => by
  unfold riseB
  by_cases e : i = k
  · subst e; simp [h]
  · have : decide (i < k + 1) = decide (i < k) := by by_cases c : i < k <;> simp <;> omega
    rw [this]
theorem lk_rise {S : Lg} {s k : Nat} (hk : k < S.l.length) (h : (s.testBit k && !(S.act.testBit k)) = true) : (lkL S s k).set k (setP S.sl S.cr S.fl (pt S.l k)) = lkL S s (k + 1) := by
  unfold lkL
  rw [ris_more S _ hk (by unfold riseB; simp)]
  refine ris_ext S fun i _ => ?_
  unfold riseB
  by_cases e : i = k
  · subst e; simp [h]
  · have : decide (i < k + 1) = decide (i < k) := by by_cases c : i < k <;> simp <;> omega
    rw [this]; simp [e]
theorem hasK_set (s a k i : Nat) : (if i = k then s.testBit k else hasK s a k i) = hasK s a (k + 1) i := by
  unfold hasK
  by_cases e : i = k
  · subst e; simp
  · by_cases c : i < k
    · simp [e, c, show i < k + 1 by omega]
    · simp [e, c, show ¬ i < k + 1 by omega]
theorem set_self_pt {l : List Pt} {k : Nat} (h : k < l.length) : l.set k (pt l k) = l := by
  apply List.ext_getElem?
  intro j
  by_cases hj : k = j
  · subst hj; rw [List.getElem?_set_self h, pt_at h]
  · rw [List.getElem?_set_ne hj]
def bestK (S : Lg) (s k : Nat) : Option Nat := leastK (lkL S s S.l.length) (fun i => s.testBit i) k
def lvK (l : List Pt) (o : Option Nat) : Int := match o with | none => 0 | some j => (pt l j).v
theorem leastK_ext {l : List Pt} {h1 h2 : Nat → Bool} : ∀ k, (∀ i, i < k → h1 i = h2 i) → leastK l h1 k = leastK l h2 k
  | 0, _ => rfl
  | k + 1, h => by
    have e1 : leastK l h1 (k + 1) = if h1 k then stepL l (leastK l h1 k) k else leastK l h1 k := rfl
    have e2 : leastK l h2 (k + 1) = if h2 k then stepL l (leastK l h2 k) k else leastK l h2 k := rfl
    rw [e1, e2, leastK_ext k (fun i hi => h i (by omega)), h k (by omega)]
theorem best_fin (S : Lg) (s : Nat) : bestK S s S.l.length = leastF (settleF S s).l (settleF S s).act := by
  unfold bestK leastF
  rw [lk_fin]
  have : (settleF S s).l.length = S.l.length := ris_length S _
  rw [this]
  exact leastK_ext _ fun i hi => by show _ = (nowF S.l.length s).testBit i; rw [now_bit]; simp [hi]
section
variable {B : Nat} {w : World} {b : Nat} {l : List Pt} {sl cr fl : Int} {has : Nat → Bool}
theorem RfAt.setF (h : RfAt B w b l sl cr fl has) (u : Int) : RfAt B (w.setCell ⟨b, 3, none⟩ (.int .u64 u)) b l sl cr u has ∧ Below B w (w.setCell ⟨b, 3, none⟩ (.int .u64 u)) := by
  obtain ⟨A, c, h1, h2⟩ := h.ex
  exact ⟨⟨h.big, A, c, Rec.set h1 3 _, own_setB h2 h1 (by decide) _ _⟩, (Below.refl B w).setCell (p := ⟨b, 3, none⟩) h.big _⟩
theorem RfAt.thaw (h : RfAt B w b l sl cr fl has) (j : Nat) : w.frozen? ⟨b, j, none⟩ = false := by
  obtain ⟨A, c, h1, h2⟩ := h.ex
  exact Rec.frozen h1 j
end
/-- What holds between two rounds. -/
structure RndR (B : Nat) (w : World) (b : Nat) (S : Lg) (s k : Nat) (wr : World) : Prop where
  at' : RfAt B wr b (lkL S s k) S.sl S.cr S.fl (hasK s S.act k)
  bel : Below B w wr
  kept : KeptT b (fun t => t = tQ) w wr
set_option maxRecDepth 100000 in
set_option maxHeartbeats 16000000 in
theorem RSettle_any {B b : Nat} {w : World} {S : Lg} (hS : OkG S) (h : RfAt B w b S.l S.sl S.cr S.fl (fun i => S.act.testBit i)) (hB : B ≤ w.heap.size) (s : Nat) :
    Calls Tryd.prog 15 #[.pointer (some ⟨b, 0, none⟩), .int .u64 s] w (RfP B b (settleF S s).l S.sl S.cr (settleF S s).fl (fun i => (settleF S s).act.testBit i) (.tuple #[]) w) := by
  have HS := hid hS
  have hl8 := hS.len
  obtain ⟨n, en⟩ : ∃ n, S.l.length = n := ⟨_, rfl⟩
  have EN := hid en
  rw [en] at hl8
  have HR0 := hid (show RndR B w b S s 0 w from ⟨by rw [lk_zero]; exact h.same (fun i _ => by unfold hasK; simp), Below.refl _ _, KeptT.refl _ _ _⟩)
  have HBLT := hid (show ∀ k, k ≤ n → ∀ j, bestK S s k = some j → j < k from fun k hk j hj => ((leastK_is (lkL S s S.l.length) (fun i => s.testBit i) k (by rw [lk_length, en]; exact hk)).2 j hj).1)
  clear hS h en
  go_enter Tryd.func15, Tryd.ntmps15
  go_wp2
  go_loopw [4, 5, 6, 7] (fun v4 v5 v6 _ wr => ∃ k : Nat, k ≤ n ∧ v6 = .int .i64 k ∧ v4 = .int .u64 (lvK (lkL S s n) (bestK S s k)) ∧ v5 = .bool (bestK S s k).isSome ∧ RndR B w b S s k wr) (fun _ _ i _ _ => n - natI i)
  case atStart => exact ⟨0, Nat.zero_le _, rfl, rfl, rfl, HR0.out⟩
  case round =>
    obtain ⟨k, hkn, rfl, rfl, rfl, hR⟩ := hrel
    obtain ⟨bo, ebo⟩ : ∃ bo, bestK S s k = bo := ⟨_, rfl⟩
    rw [ebo]
    have hat := hR.at'
    obtain ⟨A, cq, q0⟩ := hat.len
    obtain ⟨r1, r2, r3⟩ := hat.rest
    rw [lk_length, EN.out] at q0
    by_cases hlt : k < n
    · have hk' : k < S.l.length := by rw [EN.out]; exact hlt
      have hkl : k < (lkL S s k).length := by rw [lk_length]; exact hk'
      obtain ⟨g, cap, c0, -⟩ := hat.party hkl
      rw [q0] at c0
      simp only [Option.some.injEq, Value.slice.injEq] at c0
      obtain ⟨eA, e9, e10⟩ := c0
      subst eA
      clear e9 e10
      obtain ⟨c1, c2, c3, c4⟩ := hat.pty q0 hkl
      rw [lk_pt_k hk'] at c1 c2
      have hc4 : hasK s S.act k k = S.act.testBit k := by unfold hasK; simp
      rw [hc4] at c4
      have hsoft := (hat.soft q0).1
      have f1 := hsoft (k * 4 + 3)
      have HPA := hid (fun (u : Bool) => hat.put (k := k) (j := 3) (y := pt (lkL S s k) k) (c := u) (u := .bool u) q0 hkl (by omega) rfl)
      have HKL := hid hkl
      have HQ0 := hid q0
      have HRR := hid hR
      have HSTEP := hid (show bestK S s (k + 1) = if s.testBit k then stepL (lkL S s S.l.length) bo k else bo by rw [← ebo]; rfl)
      have HLTJ := hid (HBLT.out k hkn)
      have hfk : (lkL S s n) = lkL S s S.l.length := by rw [EN.out]
      have HJV := hid (fun j (hj : j < k) => (show pt (lkL S s k) j = pt (lkL S s n) j by rw [hfk]; exact lk_pt_lt hj (by omega)))
      have HKV := hid (show pt (lkL S s n) k = pt (lkL S s (k + 1)) k by rw [hfk]; exact (lk_pt_lt (by omega) (by omega)).symm)
      rw [ebo] at HLTJ
      rw [hfk.symm] at HSTEP
      have hkn' : k < (lkL S s n).length := by rw [lk_length]; exact hk'
      have HKN := hid hkn'
      have hk64 : k < 64 := by omega
      have HHS := hid (fun W => RHasN_any s k hk64 W)
      obtain ⟨vx, -⟩ := HS.out.at hk'
      have HVX := hid vx
      have HK' := hid hk'
      obtain ⟨F, eF⟩ : ∃ F, lkL S s n = F := ⟨_, rfl⟩
      rw [eF] at HSTEP HJV HKV HKN ⊢
      have EF := hid eF
      have fin : ∀ (wr' : World) (bo' : Option Nat), bestK S s (k + 1) = bo' → RndR B w b S s (k + 1) wr' → ∃ k' : Nat, k' ≤ n ∧ Value.int .i64 ((k : Int) + 1) = .int .i64 k' ∧ Value.int .u64 (lvK F bo') = .int .u64 (lvK F (bestK S s k')) ∧ Value.bool bo'.isSome = .bool (bestK S s k').isSome ∧ RndR B w b S s k' wr' := fun wr' bo' hb hr => ⟨k + 1, by omega, by go_num, by rw [hb], by rw [hb], hr⟩
      have HFIN := hid fin
      clear hat ebo hR hc4 hsoft hkl hkn' hfk fin eF vx hk'
      cases ht : s.testBit k with
      | false =>
        have HB' := hid (show bestK S s (k + 1) = bo by rw [HSTEP.out, ht]; rfl)
        rw [ht] at HHS
        have HE := hid (show RndR B w b S s (k + 1) (wr.setCell ⟨g, k * 4 + 3, none⟩ (.bool false)) from by
          obtain ⟨p1, p2, p3, _⟩ := HPA.out false
          refine ⟨?_, HRR.out.bel.trans p2, HRR.out.kept.trans p3⟩
          rw [lk_same (by rw [ht]; rfl)]
          rw [set_self_pt HKL.out] at p1
          exact p1.same (fun i _ => by rw [← hasK_set, ht]))
        clear ht HPA
        cases bo with
        | none =>
          simp only [lvK, Option.isSome_none]
          go_wp2_with (go_at_call 37; refine (HHS.out _).mono ?_; rintro _ w9 ⟨rfl, h9⟩; rw [h9]; clear h9 w9)
          go_roundw
          case rel => exact HFIN.out _ none HB'.out HE.out
          case measure => simp [natI]; omega
        | some j =>
          simp only [lvK, Option.isSome_some]
          go_wp2_with (go_at_call 37; refine (HHS.out _).mono ?_; rintro _ w9 ⟨rfl, h9⟩; rw [h9]; clear h9 w9)
          go_roundw
          case rel => exact HFIN.out _ (some j) HB'.out HE.out
          case measure => simp [natI]; omega
      | true =>
        rw [ht] at HHS
        cases ha : S.act.testBit k with
        | true =>
          have hsame : lkL S s (k + 1) = lkL S s k := lk_same (by rw [ht, ha]; rfl)
          have HV := hid (show pt F k = pt S.l k by rw [HKV.out, hsame]; exact lk_pt_k HK'.out)
          have HE := hid (show RndR B w b S s (k + 1) (wr.setCell ⟨g, k * 4 + 3, none⟩ (.bool true)) from by
            obtain ⟨p1, p2, p3, _⟩ := HPA.out true
            refine ⟨?_, HRR.out.bel.trans p2, HRR.out.kept.trans p3⟩
            rw [hsame]
            rw [set_self_pt HKL.out] at p1
            exact p1.same (fun i _ => by rw [← hasK_set, ht]))
          rw [ha] at c4
          rw [ht] at HSTEP
          clear ht ha HPA hsame
          cases bo with
          | none =>
            have HB' := hid (show bestK S s (k + 1) = some k by rw [HSTEP.out]; show stepL F none k = some k; unfold stepL; rw [if_pos ⟨HKN.out, fun j h => by cases h⟩])
            have HL := hid (show (pt S.l k).v = lvK F (some k) by show _ = (pt F k).v; rw [HV.out])
            simp only [lvK, Option.isSome_none]
            go_wp2_with (go_at_call 37; refine (HHS.out _).mono ?_; rintro _ w9 ⟨rfl, h9⟩; rw [h9]; clear h9 w9)
            go_roundw
            case rel => rw [HL.out]; exact HFIN.out _ (some k) HB'.out HE.out
            case measure => simp [natI]; omega
          | some j =>
            by_cases hv : (pt S.l k).v < (pt F j).v
            · have HB' := hid (show bestK S s (k + 1) = some k by rw [HSTEP.out]; show stepL F (some j) k = some k; unfold stepL; rw [if_pos ⟨HKN.out, fun i h => by cases h; rw [HV.out]; exact hv⟩])
              have HL := hid (show (pt S.l k).v = lvK F (some k) by show _ = (pt F k).v; rw [HV.out])
              have hvb : decide ((pt S.l k).v < (pt F j).v) = true := by simpa using hv
              simp only [lvK, Option.isSome_some]
              clear hv
              go_wp2_with (go_at_call 37; refine (HHS.out _).mono ?_; rintro _ w9 ⟨rfl, h9⟩; rw [h9]; clear h9 w9)
              go_roundw
              case rel => rw [HL.out]; exact HFIN.out _ (some k) HB'.out HE.out
              case measure => simp [natI]; omega
            · have HB' := hid (show bestK S s (k + 1) = some j by rw [HSTEP.out]; show stepL F (some j) k = some j; unfold stepL; rw [if_neg (fun h => hv (by have := h.2 j rfl; rw [HV.out] at this; exact this))])
              have hvb : decide ((pt S.l k).v < (pt F j).v) = false := by simpa using hv
              simp only [lvK, Option.isSome_some]
              clear hv
              go_wp2_with (go_at_call 37; refine (HHS.out _).mono ?_; rintro _ w9 ⟨rfl, h9⟩; rw [h9]; clear h9 w9)
              go_roundw
              case rel => exact HFIN.out _ (some j) HB'.out HE.out
              case measure => simp [natI]; omega
        | false =>
          have hrise := lk_rise (S := S) (s := s) HK'.out (by rw [ht, ha]; rfl)
          have hV : pt F k = setP S.sl S.cr S.fl (pt S.l k) := by rw [HKV.out, ← hrise]; exact pt_set_self HKL.out _
          rw [ha] at c4
          rw [ht] at HSTEP
          have HSL := hid (fun W => RSlack_any (pt S.l k).w S.sl S.cr W)
          have HCL := hid (fun W => RClamp_any (pt S.l k).v S.fl (slackF (pt S.l k).w S.sl S.cr) HS.out.fl (slack_u64 _ _ _) W)
          have HRISE := hid hrise
          have HT := hid ht
          clear ha HPA hrise ht
          go_wp2_with (go_at_call 37; refine (HHS.out _).mono ?_; rintro _ w9 ⟨rfl, h9⟩; rw [h9]; clear h9 w9)
          refine wp_region_last (C := fun w' => ∃ x : Past, w' = wr.past x) 37 [] (by kernel_rfl) (by kernel_rfl) (by kernel_rfl) rfl (by kernel_rfl) (.inl rfl) (past_of ⟨rfl, rfl, rfl, Nat.le_refl _, fun _ _ => rfl⟩) ?_
          simp only [List.take_succ_cons, List.take_zero]
          repeat (go_big_quiet_step ((first | (go_at_call 39; first | with_reducible exact Calls.in_past (HSL.out _) | with_reducible exact Calls.in_past2 (HSL.out _)) | (go_at_call 38; first | with_reducible exact Calls.in_past (HCL.out _) | with_reducible exact Calls.in_past2 (HCL.out _)) | (go_at_call 39; first | exact Calls.in_past (HSL.out _) | exact Calls.in_past2 (HSL.out _)) | (go_at_call 38; first | exact Calls.in_past (HCL.out _) | exact Calls.in_past2 (HCL.out _)))))
          refine wpQuiet_nil ?_
          rintro _ ⟨xq, rfl⟩
          have q0' := below_cell (wr.below_past xq) (Nat.le_refl _) _ _ HQ0.out
          have hR2 := HRR.out.at'.past xq
          have f9 := (hR2.soft q0').1 (k * 4 + 1)
          have P2 := hR2.put (k := k) (j := 1) (y := setP S.sl S.cr S.fl (pt S.l k)) (c := hasK s S.act k k) (u := .int .u64 (clampF (pt S.l k).v S.fl (slackF (pt S.l k).w S.sl S.cr))) q0' HKL.out (by omega) (by rw [lk_pt_k HK'.out]; rfl)
          have HB3 := hid ((HRR.out.bel.trans ((wr.below_past xq).mono (Nat.le_trans hB HRR.out.bel.size))).trans P2.2.1)
          have HK3 := hid ((HRR.out.kept.trans (KeptT.of_below (wr.below_past xq) _ _)).trans P2.2.2.1)
          clear q0' hR2
          refine wpOp_step rfl (fun K hK => ?_)
          go_simp
          refine hK _ _ ?_
          clear hK K
          obtain ⟨W7, eW7⟩ : ∃ W7, W7 = (wr.past xq).setCell ⟨g, k * 4 + 1, none⟩ (.int .u64 (clampF (pt S.l k).v S.fl (slackF (pt S.l k).w S.sl S.cr))) := ⟨_, rfl⟩
          rw [← eW7] at P2 HB3 HK3 ⊢
          obtain ⟨h7, -, -, e0⟩ := P2
          rw [HRISE.out] at h7
          have hkl7 : k < (lkL S s (k + 1)).length := by rw [lk_length]; exact HK'.out
          obtain ⟨d1, d2, d3, d4⟩ := h7.pty e0 hkl7
          rw [← HKV.out] at d2
          obtain ⟨V, eV⟩ : ∃ V, (pt F k).v = V := ⟨_, rfl⟩
          rw [eV] at d2
          have HV := hid eV
          have f8 := (h7.soft e0).1 (k * 4 + 3)
          have HE := hid (show RndR B w b S s (k + 1) (W7.setCell ⟨g, k * 4 + 3, none⟩ (.bool true)) from by
            obtain ⟨p1, p2, p3, _⟩ := h7.put (k := k) (j := 3) (y := pt (lkL S s (k + 1)) k) (c := true) (u := .bool true) e0 hkl7 (by omega) rfl
            refine ⟨?_, HB3.out.trans p2, HK3.out.trans p3⟩
            rw [set_self_pt hkl7] at p1
            refine p1.same (fun i _ => ?_)
            rw [← hasK_set, HT.out]
            by_cases hik : i = k
            · simp [hik]
            · simp [hik])
          clear eW7 h7 hkl7 d1 d3 q0 c1 c2 c3 c4 f1 f9 eV hV
          cases bo with
          | none =>
            have HB' := hid (show bestK S s (k + 1) = some k by rw [HSTEP.out]; show stepL F none k = some k; unfold stepL; rw [if_pos ⟨HKN.out, fun j h => by cases h⟩])
            have HL := hid (show V = lvK F (some k) by show _ = (pt F k).v; rw [HV.out])
            simp only [lvK, Option.isSome_none]
            go_wp2_with fail
            go_roundw
            case rel => rw [HL.out]; exact HFIN.out _ (some k) HB'.out HE.out
            case measure => simp [natI]; omega
          | some j =>
            by_cases hv : V < (pt F j).v
            · have HB' := hid (show bestK S s (k + 1) = some k by rw [HSTEP.out]; show stepL F (some j) k = some k; unfold stepL; rw [if_pos ⟨HKN.out, fun i h => by cases h; rw [HV.out]; exact hv⟩])
              have HL := hid (show V = lvK F (some k) by show _ = (pt F k).v; rw [HV.out])
              have hvb : decide (V < (pt F j).v) = true := by simpa using hv
              simp only [lvK, Option.isSome_some]
              clear hv
              go_wp2_with fail
              go_roundw
              case rel => rw [HL.out]; exact HFIN.out _ (some k) HB'.out HE.out
              case measure => simp [natI]; omega
            · have HB' := hid (show bestK S s (k + 1) = some j by rw [HSTEP.out]; show stepL F (some j) k = some j; unfold stepL; rw [if_neg (fun h => hv (by have := h.2 j rfl; rw [HV.out] at this; exact this))])
              have hvb : decide (V < (pt F j).v) = false := by simpa using hv
              simp only [lvK, Option.isSome_some]
              clear hv
              go_wp2_with fail
              go_roundw
              case rel => exact HFIN.out _ (some j) HB'.out HE.out
              case measure => simp [natI]; omega
    · obtain rfl : k = n := by omega
      have hbf := best_fin S s
      rw [EN.out, ebo] at hbf
      have hfl : (settleF S s).fl = floorF (settleF S s).l S.fl (settleF S s).act := rfl
      have hLF := lk_fin (S := S) s
      rw [EN.out] at hLF
      have HFIN := hid (show ∀ (W : World) (x : Int), RfAt B W b (lkL S s k) S.sl S.cr x (hasK s S.act k) → x = (settleF S s).fl → RfAt B W b (settleF S s).l S.sl S.cr (settleF S s).fl (fun i => (settleF S s).act.testBit i) from fun W x h hx => by
        rw [hx, hLF] at h
        refine h.same (fun i hi => ?_)
        have hi2 : i < k := by
          have : (settleF S s).l.length = S.l.length := ris_length S _
          rw [this, EN.out] at hi; exact hi
        show _ = (nowF S.l.length s).testBit i
        rw [now_bit, EN.out]
        unfold hasK
        simp [hi2])
      have f3 := hat.thaw 3
      have HAT := hid hat
      have HRR := hid hR
      unfold floorF at hfl
      rw [← hbf] at hfl
      cases bo with
      | none =>
        have HX := hid (show S.fl = (settleF S s).fl from hfl.symm)
        simp only [lvK, Option.isSome_none]
        clear hfl hbf hLF hat hR ebo
        go_wp2
        go_end0
        exact ⟨rfl, HFIN.out _ _ HAT.out HX.out, HRR.out.bel, HRR.out.kept⟩
      | some j =>
        simp only at hfl
        rw [← hLF] at hfl
        simp only [lvK, Option.isSome_some]
        obtain ⟨V, eV⟩ : ∃ V, (pt (lkL S s k) j).v = V := ⟨_, rfl⟩
        rw [eV] at hfl ⊢
        by_cases hv : S.fl < V
        · have HX := hid (show V = (settleF S s).fl by rw [hfl, if_pos hv])
          have hvb : decide (S.fl < V) = true := by simpa using hv
          have HF := hid (hat.setF V)
          have HKF := hid (KeptT.setB wr b 3 (.int .u64 V) (fun t => t = tQ))
          clear hfl hbf hLF hat hR ebo eV hv
          go_wp2
          go_end0
          exact ⟨rfl, HFIN.out _ _ HF.out.1 HX.out, HRR.out.bel.trans HF.out.2, HRR.out.kept.trans HKF.out⟩
        · have HX := hid (show S.fl = (settleF S s).fl by rw [hfl, if_neg hv])
          have hvb : decide (S.fl < V) = false := by simpa using hv
          clear hfl hbf hLF hat hR ebo eV hv
          go_wp2
          go_end0
          exact ⟨rfl, HFIN.out _ _ HAT.out HX.out, HRR.out.bel, HRR.out.kept⟩
end Go.Proofs.YtookaodcdglhfaaDoor
