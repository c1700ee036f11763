/-
  Layer 05's FifoPours: what is poured over is lost nowhere. No condition.
-/
import Derived.Test.YtifdogmlaengoaaFifU
import Derived.Test.YtifdogmlaengoaaAppB
import Derived.Deep.RegionLaw
import Derived.RegionTactic
import Derived.ChangeAlike
import Derived.Test.YtifdogmlaengoaaFifW
import Derived.Deep.CutRange
import Derived.StillTailTactics
namespace Go.Proofs.Ytifdogmlaengoaa
open Go.RowKit Go.ChangeShapes Go.WideShapes Go.ChangeAt
attribute [local go_sem] Oper.semAt_some
/-- Two new queues. -/
theorem two_new (m1 m2 : Int) {B : Nat} {w0 W w' : World} {b1 b2 : Nat} {F1 F2 : Nat → Prop} (hB : B ≤ w0.heap.size) (hb : Below B w0 W) (h1 : QA B W b1 F1 m1 0 []) (hw : Below W.heap.size W w') (h2 : QA B w' b2 F2 m2 0 []) (hF : ∀ k, F2 k → W.heap.size ≤ k) : Q2 B w0 w' b1 b2 m1 m2 0 0 [] [] :=
  ⟨hB, hb.trans (hw.mono (Nat.le_trans hB hb.size)), F1, F2, h1.far hw, h2, fun k a b => by have := (h1.foot k a).2; have := hF k b; omega⟩
/-- What was pushed, one by one. -/
def tkv (t : Int) (l : List Int) : List (Int × Int) := tkt t (l.map fun v => (0, v))
theorem tkv_snoc (t : Int) (l : List Int) (v : Int) : tkv t (l ++ [v]) = tkv t l ++ [(t + l.length + 1, v)] := by
  unfold tkv; rw [List.map_append, List.map_cons, List.map_nil, tkt_snoc, List.length_map]
theorem tkv_length (t : Int) (l : List Int) : (tkv t l).length = l.length := by unfold tkv; rw [tkt_length, List.length_map]
theorem take_snocI {l : List Int} {k : Nat} (h : k < l.length) : l.take (k + 1) = l.take k ++ [atL l k] := by
  rw [List.take_succ_eq_append_getElem h]; simp [atL, h]
theorem i64s_one (l : List Int) : ∀ u ∈ i64s l, u.oneCell' = true := by
  intro u hu
  obtain ⟨x, -, rfl⟩ := List.mem_map.1 hu
  rfl
theorem i64s_append (a b : List Int) : i64s a ++ i64s b = i64s (a ++ b) := by simp [i64s]
theorem i64s_take (a : List Int) (k : Nat) : i64s (a.take k) = (i64s a).take k := by simp [i64s, List.map_take]
theorem i64s_drop (a : List Int) (k : Nat) : i64s (a.drop k) = (i64s a).drop k := by simp [i64s, List.map_drop]
theorem tkv_map (t : Int) (l : List Int) : (tkv t l).map (·.2) = l := by unfold tkv; rw [tkt_map, List.map_map]; simp [Function.comp_def]
theorem info_i64 : (Try.prog.info? 3).map (fun i => (i.zero, i.size, i.bytes)) = some (some (.int .i64 0), 1, 8) := by kernel_rfl
set_option maxRecDepth 100000 in
set_option maxHeartbeats 4000000 in
theorem FifoPours_any (A B2 : Option Addr) (ca cb n m : Nat) (a b : List Int) (en : a.length = n) (em : b.length = m) (hn : n ≤ maxLen) (hm : m ≤ maxLen) (hca : n ≤ ca) (y : Int) (hy : I64 y) (w : World) (ha : Cells w A (i64s a)) (hb : Cells w B2 (i64s b)) :
    Calls Try.prog 3 #[.slice A n ca, .slice B2 m cb, .int .i64 y] w (Gives (.bool true) w) := by
  have HAW := hid (awake_any w)
  have HA := hid ha
  have HBB := hid hb
  have EN := hid en
  have EM := hid em
  clear ha hb
  by_cases h40 : n ≤ 40 ∧ m ≤ 40
  · obtain ⟨h1, h2⟩ := h40
    clear en em
    go_enter Try.func3, Try.ntmps3
    go_upto_region 5 with (refine HAW.out.mono ?_; rintro _ _ ⟨rfl, x0, rfl⟩)
    obtain ⟨w1, ew1⟩ : ∃ W, W = w.past x0 := ⟨_, rfl⟩
    have HB1 := hid (show Below w.heap.size w w1 by rw [ew1]; exact w.below_past _)
    rw [← ew1]
    clear ew1 HAW
    go_wp2_with fail
    refine (QNew_any w1.heap.size 50 w1 (Nat.le_refl _)).mono ?_
    rintro _ w2 ⟨b1, F1, rfl, g1, -, g3⟩
    have HG1 := hid g1
    have HG3 := hid g3
    clear g1 g3
    go_wp2_with fail
    refine (QNew_any w1.heap.size 50 w2 HG3.out.size).mono ?_
    rintro _ w3 ⟨b2, F2, rfl, g1, g2, g3⟩
    have HQ := hid (two_new (mostA 50) (mostA 50) (Nat.le_refl _) HG3.out HG1.out g3 g1 g2)
    rw [show mostA 50 = 50 by decide] at HQ
    clear g1 g2 g3 HG1 HG3
    go_wp2_with fail
    go_loopw [10, 36] (fun _ i wr => ∃ k : Nat, i = .int .i64 (k : Int) ∧ k ≤ n ∧ Hid (Q2 w1.heap.size w1 wr b1 b2 50 50 (k : Int) 0 (tkv 0 (a.take k)) [])) (fun _ i _ => n - natJ i)
    case atStart => exact ⟨0, rfl, by omega, hid HQ.out⟩
    case round =>
      clear HQ
      obtain ⟨k, rfl, hk, HR⟩ := hrel
      have HBW := hid (HB1.out.trans (HR.out.bel.mono HB1.out.size))
      by_cases hlt : k < n
      · obtain ⟨g, o, rfl, c0⟩ := i64_at (HA.out.below HBW.out) (k := k) (by rw [EN.out]; exact hlt)
        have HSN := hid (show tkv 0 (a.take (k + 1)) = tkv 0 (a.take k) ++ [((k : Int) + 1, atL a k)] by
          rw [take_snocI (by rw [EN.out]; exact hlt), tkv_snoc, List.length_take, Nat.min_eq_left (by rw [EN.out]; omega), Int.zero_add])
        have HPU := hid (show Calls Try.prog 8 #[.pointer (some ⟨b1, 0, none⟩), .int .i64 (atL a k)] wr (fun e w' => e = .returned (.tuple #[.int .i64 ((k : Int) + 1), .int .i64 0]) ∧ Q2 w1.heap.size w1 w' b1 b2 50 50 ((k : Int) + 1) 0 (tkv 0 (a.take k) ++ [((k : Int) + 1, atL a k)]) []) by
          have ht : (k : Int) ≤ 1000000 := by omega
          have hc : ((tkv 0 (a.take k)).length : Int) < 50 := by rw [tkv_length, List.length_take]; omega
          refine HR.out.act1 (t' := (k : Int) + 1) (L' := tkv 0 (a.take k) ++ [((k : Int) + 1, atL a k)]) ?_
          intro F hF
          exact QPush_any hF HR.out.size ht hc (atL a k))
        obtain ⟨v, ev⟩ : ∃ v, atL a k = v := ⟨_, rfl⟩
        rw [ev] at c0 HPU HSN
        clear ev
        go_wp2_with (go_at_call 8; refine HPU.out.mono ?_; rintro _ w5 ⟨rfl, h5⟩; have H5 := hid h5; clear h5)
        go_roundw
        case rel => exact ⟨k + 1, by go_num, by omega, hid (by rw [HSN.out]; exact H5.out)⟩
        case measure => simp [natJ]; omega
      · obtain rfl : k = n := by omega
        have hta : a.take k = a := List.take_of_length_le (by rw [EN.out]; exact Nat.le_refl _)
        have HQ := hid (show Q2 w1.heap.size w1 wr b1 b2 50 50 (k : Int) 0 (tkv 0 a) [] by rw [← hta]; exact HR.out)
        clear HR hta hlt HBW
        go_wp2_with fail
        go_loopw [12, 46] (fun _ i wr => ∃ j : Nat, i = .int .i64 (j : Int) ∧ j ≤ m ∧ Hid (Q2 w1.heap.size w1 wr b1 b2 50 50 (k : Int) (j : Int) (tkv 0 a) (tkv 0 (b.take j)))) (fun _ i _ => m - natJ i)
        case atStart => exact ⟨0, rfl, by omega, HQ⟩
        case round =>
          clear HQ
          obtain ⟨j, rfl, hj, HR⟩ := hrel
          have HBW := hid (HB1.out.trans (HR.out.bel.mono HB1.out.size))
          by_cases hlt : j < m
          · obtain ⟨g, o, rfl, c0⟩ := i64_at (HBB.out.below HBW.out) (k := j) (by rw [EM.out]; exact hlt)
            have HSN := hid (show tkv 0 (b.take (j + 1)) = tkv 0 (b.take j) ++ [((j : Int) + 1, atL b j)] by
              rw [take_snocI (by rw [EM.out]; exact hlt), tkv_snoc, List.length_take, Nat.min_eq_left (by rw [EM.out]; omega), Int.zero_add])
            have HPU := hid (show Calls Try.prog 8 #[.pointer (some ⟨b2, 0, none⟩), .int .i64 (atL b j)] wr (fun e w' => e = .returned (.tuple #[.int .i64 ((j : Int) + 1), .int .i64 0]) ∧ Q2 w1.heap.size w1 w' b1 b2 50 50 (k : Int) ((j : Int) + 1) (tkv 0 a) (tkv 0 (b.take j) ++ [((j : Int) + 1, atL b j)])) by
              have ht : (j : Int) ≤ 1000000 := by omega
              have hc : ((tkv 0 (b.take j)).length : Int) < 50 := by rw [tkv_length, List.length_take]; omega
              refine HR.out.act2 (t' := (j : Int) + 1) (L' := tkv 0 (b.take j) ++ [((j : Int) + 1, atL b j)]) ?_
              intro F hF
              exact QPush_any hF HR.out.size ht hc (atL b j))
            obtain ⟨v, ev⟩ : ∃ v, atL b j = v := ⟨_, rfl⟩
            rw [ev] at c0 HPU HSN
            clear ev
            go_wp2_with (go_at_call 8; refine HPU.out.mono ?_; rintro _ w5 ⟨rfl, h5⟩; have H5 := hid h5; clear h5)
            go_roundw
            case rel => exact ⟨j + 1, by go_num, by omega, hid (by rw [HSN.out]; exact H5.out)⟩
            case measure => simp [natJ]; omega
          · obtain rfl : j = m := by omega
            have htb : b.take j = b := List.take_of_length_le (by rw [EM.out]; exact Nat.le_refl _)
            have HQ := hid (show Q2 w1.heap.size w1 wr b1 b2 50 50 (k : Int) (j : Int) (tkv 0 a) (tkv 0 b) by rw [← htb]; exact HR.out)
            clear HR htb hlt
            have HPO := hid (Pour_any HQ.out (by omega) (by omega) (by rw [tkv_length, EN.out]; omega) (by rw [tkv_length, EM.out]; omega) y hy)
            obtain ⟨K, eK⟩ : ∃ K, pourN y 50 (tkv 0 a) (tkv 0 b) = K := ⟨_, rfl⟩
            have hK : (K : Int) = min (min (max y 0) k) (max (50 - j) 0) := by rw [← eK]; unfold pourN; rw [tkv_length, tkv_length, EN.out, EM.out]; omega
            rw [eK] at HPO
            clear eK HQ
            have hKk : K ≤ k := by omega
            have hKj : K + j ≤ 50 := by omega
            go_upto_region 17 with (go_at_call 9; refine HPO.out.mono ?_; rintro _ w6 ⟨rfl, h6⟩; have H6 := hid h6; clear h6)
            have HL1 := hid H6.out.len1
            have HL2 := hid (fun y : Past => (H6.out.far (w6.below_past y)).swap.len1)
            rw [List.length_drop, tkv_length, EN.out] at HL1
            rw [List.length_append, tkt_length, tkv_length, List.length_take, tkv_length, EN.out, EM.out, Nat.min_eq_left hKk] at HL2
            obtain ⟨M, eM⟩ : ∃ M : Int, (if (0 : Int) > y then 0 else y) = M := ⟨_, rfl⟩
            have hM : M = max y 0 := by rw [← eM]; omega
            have e3 : (if (50 - (j : Int)) < (if (k : Int) < M then (k : Int) else M) then (50 - (j : Int)) else (if (k : Int) < M then (k : Int) else M)) = K := by omega
            have HK := hid hK
            clear hK hM
            go_upto_region 18 with (first | (go_at_call 10; first | (refine HL1.out.mono ?_; clear HL1; rintro _ _ ⟨rfl, x1, rfl⟩) | (refine (HL2.out _).mono ?_; rintro _ _ ⟨rfl, x2, rfl⟩)))
            obtain ⟨w7, ew7⟩ : ∃ W, W = w6.past (x1.and x2) := ⟨_, rfl⟩
            have HQ7 := hid (show Q2 w1.heap.size w1 w7 b1 b2 50 50 (k : Int) ((j : Int) + K) ((tkv 0 a).drop K) (tkv 0 b ++ tkt (j : Int) ((tkv 0 a).take K)) by rw [ew7]; exact H6.out.far (w6.below_past _))
            rw [← ew7]
            have HB7 := hid (HB1.out.trans (HQ7.out.bel.mono HB1.out.size))
            have HI := hid (info_parts info_i64)
            clear ew7 H6 HL2 eM e3 HBW
            obtain ⟨i0, hi, hz0, hz1, hz2⟩ := HI.out
            clear HI
            have HLIT := hid (show ∀ W : World, Below w7.heap.size w7 W → (W.alloc (.cells #[] 3)).ownsRow w7.heap.size 3 1 (.slice (some ⟨W.heap.size, 0, none⟩) 0 0) 0 [] from fun W hW => World.ownsRow_lit (base := w7.heap.size) (size := 1) W #[] 0 hW.size (by unfold maxLen; omega) rfl)
            have hKca : K ≤ ca := by omega
            have HB70 := HB7.out.size
            have HB70' := HB1.out.size
            go_cut [92, 93, 94] from 86 to 94 (fun r l z wx => ∃ R cR, r = .slice R (j + K) cR ∧ l = .int .i64 ((j : Int) + K) ∧ z = .int .i64 0 ∧ Hid (wx.ownsRow w7.heap.size 3 1 (.slice R (j + K) cR) (j + K) (i64s b ++ i64s (a.take K))) ∧ Hid (Below w7.heap.size w7 wx))
            case first =>
              go_region_law (first | (refine step_appB rfl (.tmp 86) (.tmp 87) 22 rfl 3 i0 (.int .i64 0) 1 8 Try.underlying22 hi hz0 hz1 hz2 rfl (by decide) w7.heap.size ?_ (.slice (some ⟨w7.heap.size, 0, none⟩) 0 0) 0 [] ?_ ?_ B2 j cb (i64s b) ?_ ?_ ?_ ?_ ?_ ?_ ?_; (· simp [go_sem]); (· simp [go_sem]); (· first | exact HLIT.out _ (Below.refl _ _) | exact (HLIT.out _ (Below.refl _ _)).drew); (· rfl); (· rw [i64s_length, EM.out]; omega); (· refine HBB.out.below (HB7.out.trans (RowKit.Below.mono ?_ HB70)); (repeat (first | exact Below.refl _ _ | refine RowKit.Below.past ?_ _ | refine RowKit.Below.alloc' ?_ _ | refine RowKit.Below.drew' ?_ | refine RowKit.Below.drewN' ?_ _ | refine RowKit.Below.setCell' ?_ (by simp [go_sem]) _))); (· exact i64s_one _); (· unfold maxLen; omega); (· omega); intro w8 A8 c8 ho8 hg8 _; rw [Nat.zero_add] at ho8 ⊢; have HB8 : Below w7.heap.size w7 w8 := Below.grown (by (repeat (first | exact Below.refl _ _ | refine RowKit.Below.past ?_ _ | refine RowKit.Below.alloc' ?_ _ | refine RowKit.Below.drew' ?_ | refine RowKit.Below.drewN' ?_ _ | refine RowKit.Below.setCell' ?_ (by simp [go_sem]) _))) hg8 (by simp [go_sem]) (by simp [Value.ownBlock]); have HO8 := hid ho8; clear ho8 hg8) | (refine step_appB rfl (.tmp 88) (.tmp 91) 22 rfl 3 i0 (.int .i64 0) 1 8 Try.underlying22 hi hz0 hz1 hz2 rfl (by decide) w7.heap.size HB8.size (.slice A8 j c8) j ([] ++ i64s b) ?_ HO8.out A K ca (i64s (a.take K)) ?_ ?_ ?_ ?_ ?_ ?_ ?_; (· simp [go_sem]); (· rfl); (· rw [i64s_length, List.length_take, EN.out]; omega); (· rw [i64s_take]; exact (HA.out.below (HB7.out.trans (HB8.mono HB70))).take K); (· exact i64s_one _); (· unfold maxLen; omega); (· omega); intro w9 A9 c9 ho9 hg9 _; have HB9 : Below w7.heap.size w7 w9 := Below.grown HB8 hg9 HB8.size (fun k hk => (HO8.out.lt k hk).1); rw [List.nil_append] at ho9; have HO9 := hid ho9; clear ho9 hg9))
              all_goals (
                go_wp2_with fail
                go_meet
                exact ⟨_, _, rfl, rfl, rfl, HO9, hid HB9⟩)
            case rest =>
              obtain ⟨R, cR, rfl, rfl, rfl, HR8, HB8⟩ := hcut
              have hR9 : wc.ownsRow w7.heap.size 3 1 (.slice R (j + K) cR) (j + K) (i64s (b ++ a.take K)) := by rw [← i64s_append]; exact HR8.out
              obtain ⟨X, hX, hQK⟩ := HQ7.out.qk HB8.out
              obtain ⟨LL, eLL⟩ : ∃ LL, tkv 0 b ++ tkt (j : Int) ((tkv 0 a).take K) = LL := ⟨_, rfl⟩
              obtain ⟨LD, eLD⟩ : ∃ LD, (tkv 0 a).drop K = LD := ⟨_, rfl⟩
              obtain ⟨RR, eRR⟩ : ∃ RR, b ++ a.take K = RR := ⟨_, rfl⟩
              have HLR := hid (show LL.map (·.2) = RR by rw [← eLL, ← eRR, List.map_append, tkt_map, tkv_map, List.map_take, tkv_map])
              have HRL := hid (show RR.length = j + K by rw [← eRR, List.length_append, List.length_take, EN.out, EM.out]; omega)
              have HDR := hid (show LD.map (·.2) = a.drop K by rw [← eLD, List.map_drop, tkv_map])
              have HDL := hid (show (a.drop K).length = k - K by rw [List.length_drop, EN.out])
              rw [eLL, eLD] at hQK
              rw [eRR] at hR9
              have HROW := hid (fun (W : World) (h : Kept X wc W) => Cells.kept2 (Cells.of_own hR9) h (fun x e => by
                subst e
                have h1 := (hR9.lt x.block rfl).1
                intro h2
                have := (hX _ h2).2
                omega))
              obtain ⟨A2, eA2⟩ : ∃ A2, (if ca = K then A else Option.map (fun x => x.add K) A) = A2 := ⟨_, rfl⟩
              have HROW2 := hid (fun (W : World) (h : Kept X wc W) => show Cells W A2 (i64s (a.drop K)) by
                have hc : Cells W A (i64s a) := Cells.old HA.out HB70' (HB7.out.trans (HB8.out.mono HB70)) h (fun k hk => (hX k hk).1)
                by_cases e0 : a.drop K = []
                · rw [e0]; exact Cells.nil _ _
                have hne : i64s a ≠ [] := by
                  intro e
                  have h0 : a.length = 0 := by rw [← i64s_length, e]; rfl
                  exact e0 (List.eq_nil_of_length_eq_zero (by rw [List.length_drop]; omega))
                have hcK : ¬ ca = K := by
                  intro e
                  exact e0 (List.eq_nil_of_length_eq_zero (by rw [HDL.out]; omega))
                obtain ⟨g, o, rfl, -⟩ := hc hne
                rw [← eA2, if_neg hcK, i64s_drop, Option.map_some, add_flat rfl]
                exact hc.drop K)
              have HQK := hid hQK
              have HBX := hid (fun (W : World) (h : Kept X wc W) => show Below w.heap.size w W from h.to_below (HB7.out.trans (HB8.out.mono HB70)) (HB7.out.trans (HB8.out.mono HB70)).size (fun k hk => Nat.le_trans HB70' (hX k hk).1))
              clear hQK hR9 hX eLL eLD eRR HR8 HQ7
              go_wp2_with fail
              go_loopw [15, 16, 17, 94] (fun _ _ _ i wr => ∃ c : Nat, i = .int .i64 (c : Int) ∧ c ≤ j + K ∧ Hid (QK w1.heap.size X wc wr b1 b2 50 50 (k : Int) ((j : Int) + K) LD (LL.drop c))) (fun _ _ _ i _ => (j + K) - natJ i)
              case atStart => exact ⟨0, rfl, by omega, HQK⟩
              case round =>
                clear HQK
                obtain ⟨c, rfl, hc, HR⟩ := hrel
                by_cases hlt : c < j + K
                · obtain ⟨g, o, rfl, c0⟩ := i64_at (HROW.out _ HR.out.kp) (k := c) (by rw [HRL.out]; exact hlt)
                  obtain ⟨t, htd⟩ := drop_snd HLR.out (i := c) (by rw [HRL.out]; exact hlt)
                  have HPP := hid (show Calls Try.prog 11 #[.pointer (some ⟨b2, 0, none⟩)] wr (fun e w' => e = .returned (.tuple #[.int .i64 (atL RR c), .bool true]) ∧ QK w1.heap.size X wc w' b1 b2 50 50 (k : Int) ((j : Int) + K) LD (LL.drop (c + 1))) by
                    have h := HR.out
                    rw [htd] at h
                    exact h.act2 (fun F hF => QPop_any hF h.size (by omega)))
                  obtain ⟨v, ev⟩ : ∃ v, atL RR c = v := ⟨_, rfl⟩
                  rw [ev] at c0 HPP
                  clear ev htd
                  go_wp2_with (go_at_call 11; refine HPP.out.mono ?_; rintro _ w5 ⟨rfl, h5⟩; have H5 := hid h5; clear h5)
                  go_roundw
                  case rel => exact ⟨c + 1, by go_num, by omega, H5⟩
                  case measure => simp [natJ]; omega
                · obtain rfl : c = j + K := by omega
                  go_wp2_with fail
                  clear hlt hc eA2
                  have HQ9 := hid HR.out
                  go_loopw [19, 20, 21, 115] (fun _ _ _ i wr => ∃ c : Nat, i = .int .i64 (c : Int) ∧ c ≤ k - K ∧ Hid (QK w1.heap.size X wc wr b1 b2 50 50 (k : Int) ((j : Int) + K) (LD.drop c) (LL.drop (j + K)))) (fun _ _ _ i _ => (k - K) - natJ i)
                  case atStart => exact ⟨0, rfl, by omega, HQ9⟩
                  case round =>
                    clear HQ9 HR
                    obtain ⟨c, rfl, hc, HR⟩ := hrel
                    by_cases hlt : c < k - K
                    · obtain ⟨g, o, rfl, c0⟩ := i64_at (HROW2.out _ HR.out.kp) (k := c) (by rw [HDL.out]; exact hlt)
                      obtain ⟨t, htd⟩ := drop_snd HDR.out (i := c) (by rw [HDL.out]; exact hlt)
                      have HPP := hid (show Calls Try.prog 11 #[.pointer (some ⟨b1, 0, none⟩)] wr (fun e w' => e = .returned (.tuple #[.int .i64 (atL (a.drop K) c), .bool true]) ∧ QK w1.heap.size X wc w' b1 b2 50 50 (k : Int) ((j : Int) + K) (LD.drop (c + 1)) (LL.drop (j + K))) by
                        have h := HR.out
                        rw [htd] at h
                        exact h.act1 (fun F hF => QPop_any hF h.size (by omega)))
                      obtain ⟨v, ev⟩ : ∃ v, atL (a.drop K) c = v := ⟨_, rfl⟩
                      rw [ev] at c0 HPP
                      clear ev htd
                      go_wp2_with (go_at_call 11; refine HPP.out.mono ?_; rintro _ w5 ⟨rfl, h5⟩; have H5 := hid h5; clear h5)
                      refine ⟨?_, ?measure⟩
                      (repeat apply Exists.intro)
                      refine ⟨?rel, rfl⟩
                      case rel => exact ⟨c + 1, by go_num, by omega, H5⟩
                      case measure => simp [natJ]; omega
                    · obtain rfl : c = k - K := by omega
                      go_wp2_with fail
                      go_ret
                      exact Gives.mk rfl (HBX.out _ HR.out.kp)
  · have hcase : 40 < n ∨ (n ≤ 40 ∧ 40 < m) := by omega
    clear h40 en em
    rcases hcase with h1 | ⟨h1, h2⟩
    all_goals
      go_enter Try.func3, Try.ntmps3
      go_wp2_with (refine HAW.out.mono ?_; rintro _ _ ⟨rfl, x0, rfl⟩)
      go_ret
      exact Gives.mk rfl (by (repeat (first | exact Below.refl _ _ | refine RowKit.Below.past ?_ _ | refine RowKit.Below.alloc' ?_ _ | refine RowKit.Below.drew' ?_ | refine RowKit.Below.drewN' ?_ _ | refine RowKit.Below.setCell' ?_ (by simp [go_sem]) _)))
theorem cs_i64s : Try.prog.cellsOf 3 = 1 := by kernel_rfl
theorem rd_i64s {H : Type} {enc : TypeId × Value → H} {W : World} {v : Value} (h : Rd enc Try.prog W 22 [v]) : ∃ (A : Option Addr) (c : Nat) (l : List Int), v = .slice A l.length c ∧ Cells W A (i64s l) ∧ (∀ x ∈ l, I64 x) ∧ l.length ≤ maxLen :=
  rd_ints_row h Try.underlying22 Try.underlying3 cs_i64s (fun _ hx => i64_of hx)
theorem rd_cap {H : Type} {enc : TypeId × Value → H} {P : Program} {W : World} {t e : TypeId} {A : Option Addr} {n c : Nat} (h : Rd enc P W t [.slice A n c]) (ht : P.underlying t = some (.slice e)) : n ≤ c := by
  rcases h.slice ht with h | ⟨a, len, cap, hv, hl, hm, hi⟩
  · injection h with h _
    injection h with _ h1 h2
    omega
  · injection hv with hv _
    injection hv with _ h1 h2
    omega
theorem fifoPours_own : ownKnob Try.prog.godebug = none := by kernel_rfl
theorem fifoPours_laidOut : laidOutB Try.prog = true := by kernel_rfl
theorem fifoPours_types : ∀ t ∈ Try.f3.params.toList, Try.prog.readableRec t = true ∧ t < Try.prog.types.size := by
  rw [Try.params3]
  intro t ht
  simp only [List.mem_cons, List.not_mem_nil, or_false] at ht
  rcases ht with rfl | rfl | rfl
  · exact ⟨by kernel_rfl, of_decide_eq_true (by kernel_rfl)⟩
  · exact ⟨by kernel_rfl, of_decide_eq_true (by kernel_rfl)⟩
  · exact ⟨by kernel_rfl, of_decide_eq_true (by kernel_rfl)⟩
set_option maxRecDepth 100000 in
theorem fifoPours_lifted (os : Os) (started : os.Started) (H : Type) (enc : TypeId × Value → H) :
    ReturnsInHanded {} Try.checked os 3 .any (Rows.fifoPoursSpec.pre6 enc Try.prog Try.f3 Rows.fifoPoursRow.domain false) (Rows.fifoPoursSpec.post enc Try.prog Try.f3 false true false false) := by
  refine returnsInHanded_of_change (C := Try.checked) fifoPours_own started (by kernel_rfl) Try.func3
    (ChangeSpec.witness6 (enc := enc) (C := Try.checked) false ⟨#[], #[.slice none 0 0, .slice none 0 0, .int .i64 0], []⟩ 8 (by kernel_rfl) (by kernel_rfl) (by kernel_rfl) (by kernel_rfl)) ?_
  intro W base args ds gs before hval0 hW hcnd _
  have hval : ∀ (j : Nat) t v, Try.f3.params[j]? = some t → args[j]? = some v → Value.okWide Try.prog W .any base t v := hval0
  have hW' := hW
  obtain ⟨p, q, hA0, hV, hpq, hfz, hnd⟩ := hW
  have hA : DataW.TrodAll enc Try.prog W 0 (fun _ => true) true Try.f3.params.toList args.toList ds p := hA0
  rw [Try.params3] at hA hval
  obtain ⟨v0, vs0, d0, ds0, p0, q0, hargs, rfl, rfl, h0, r0⟩ := trodAll_cons hA
  obtain ⟨v1, vs1, d1, ds1, p1, q1, rfl, rfl, rfl, h1, r1⟩ := trodAll_cons r0
  obtain ⟨v2, vs2, d2, ds2, p2, q2, rfl, rfl, rfl, h2, r2⟩ := trodAll_cons r1
  obtain ⟨rfl, rfl, rfl⟩ := trodAll_nil r2
  obtain rfl : args = #[v0, v1, v2] := by cases args; simp_all
  have k0 := hval 0 22 v0 rfl rfl
  have k1 := hval 1 22 v1 rfl rfl
  have k2 := hval 2 3 v2 rfl rfl
  clear hA0 hval0 hval hcnd hfz hnd hpq hV hargs r2
  suffices hs : Calls Try.prog 3 #[v0, v1, v2] W (Gives (.bool true) W) from hs.mono fun e W' ⟨he, x, hx⟩ => ⟨_, he, law_post fifoPours_laidOut hW' rfl rfl (by kernel_rfl) (by first | exact Try.underlying4 | rfl) fifoPours_types (hx ▸ W.below_past x)⟩
  clear hW'
  have hrd := rd_slice Try.underlying22 k0 h0
  obtain ⟨A, ca, a, rfl, ha, _, hl⟩ := rd_i64s hrd
  obtain ⟨B, cb, b, rfl, hb, _, hl2⟩ := rd_i64s (rd_slice Try.underlying22 k1 h1)
  obtain ⟨y, rfl, _, _, wy⟩ := open_int Try.underlying3 k2 h2
  exact FifoPours_any A B ca cb _ _ a b rfl rfl hl hl2 (rd_cap hrd Try.underlying22) y (i64_of wy) W ha hb
theorem fifoPours_holds : Rows.FifoPoursSaid :=
  OpenClaim.holds_of_wide 3 Try.f3 rfl rfl rfl rfl rfl rfl rfl ⟨rfl, rfl, rfl, rfl, rfl⟩ rfl rfl rfl rfl rfl (by kernel_rfl) Try.func3 (by kernel_rfl)
    (of_decide_eq_true (by kernel_rfl)) (by unfold Func.isWrapper; first | (rw [if_pos (by decide +kernel)]; kernel_rfl) | (rw [if_neg (by decide +kernel)]; exact ⟨rfl, rfl⟩))
    (fun os started H enc _ => fifoPours_lifted os started H enc)
end Go.Proofs.Ytifdogmlaengoaa
