/-
  Whether budgets fit into their periods: layer 38's Fit, and the document's: what they answer. No condition but on lengths.
-/
import Derived.Test.YtmkndabbkceknaaQuota
import Derived.Test.YtmkndabbkceknaaBig
import Derived.Test.YtmkndabbkceknaaTab
import Derived.Test.YtmkndabbkceknaaDigC
namespace Go.Proofs.Ytmkndabbkceknaa
open Go.RowKit
def fitStep (t : Int × Int) (x : Int × Int) : Int × Int := (t.1 * bringF x.2 1 1048576 + t.2 * bringF x.1 1 1048576, t.2 * bringF x.2 1 1048576)
def fitTL (l : List (Int × Int)) : Int × Int := l.foldl fitStep (0, 1)
def fitB (l : List (Int × Int)) : Bool := decide (l.length ≤ 64) && decide ((fitTL l).1 ≤ (fitTL l).2)
theorem fitTL_snoc (l : List (Int × Int)) (x : Int × Int) : fitTL (l ++ [x]) = fitStep (fitTL l) x := by simp [fitTL]
theorem take_snoc {α : Type} {l : List α} {k : Nat} {x : α} (h : l[k]? = some x) : l.take (k + 1) = l.take k ++ [x] := by
  rw [List.take_add_one, h]; rfl
/-- The two numbers: what they are, and where they lie. -/
structure FitW (w wr : World) (T L : Option Addr) (ct cl : Nat) (tl ll : List Int) (t : Int × Int) (k : Nat) : Prop where
  below : Below w.heap.size w wr
  ct : Cells wr T (u64s tl)
  cl : Cells wr L (u64s ll)
  wt : Words tl
  wl : Words ll
  nt : 0 < tl.length ∧ tl.length ≤ 2 * k + 1
  nl : ll.length = k + 1
  vt : wv tl = t.1
  vl : wv ll = t.2
theorem own_apart {w w' : World} {b b' : Nat} {e e' : TypeId} {s s' n n' : Nat} {v v' : Value} {xs xs' : List Value} (h : w.ownsRow b e s v n xs) (h' : w'.ownsRow b' e' s' v' n' xs') (hb : w.heap.size ≤ b') : v.ownBlock = none ∨ v.ownBlock ≠ v'.ownBlock := by
  cases hv : v.ownBlock with
  | none => exact .inl rfl
  | some g =>
    refine .inr fun e => ?_
    have := (h.lt g hv).2
    have := (h'.lt g e.symm).1
    omega
theorem own_apart' {w w' : World} {b b' : Nat} {e e' : TypeId} {s s' n n' : Nat} {v v' : Value} {xs xs' : List Value} (h : w.ownsRow b e s v n xs) (h' : w'.ownsRow b' e' s' v' n' xs') (hb : w.heap.size ≤ b') : v'.ownBlock = none ∨ v'.ownBlock ≠ v.ownBlock := by
  cases hv : v'.ownBlock with
  | none => exact .inl rfl
  | some g =>
    refine .inr fun e => ?_
    have := (h.lt g e.symm).2
    have := (h'.lt g hv).1
    omega
theorem wv_one (x : Int) : wv [x] = x := by simp [wv, wvN, atD]
set_option maxHeartbeats 4000000 in
theorem Fit_any (A : Option Addr) (ca : Nat) (l : List (Int × Int)) (n : Nat) (en : l.length = n) (w : World) (hn : n ≤ 1000000) (hI : ∀ x ∈ l, I64 x.1 ∧ I64 x.2) (ha : Cells w A (tab pairI l)) :
    Calls Try.prog 9 #[.slice A n ca] w (Gives (.bool (fitB l)) w) := by
  obtain ⟨i0, hi, hz0, hz1, hz2⟩ := info_parts info_u64
  have EN := hid en
  have HA := hid ha
  clear en ha
  by_cases hbig : 64 < n
  · go_enter Try.func9, Try.ntmps9
    go_wp2
    go_ret
    exact Gives.refl (by unfold fitB; rw [EN.out]; simp [show ¬ n ≤ 64 by omega])
  · go_enter Try.func9, Try.ntmps9
    go_wp2
    go_loopw [3, 4, 18] (fun top low i wr => Hid (∃ (k : Nat) (T L : Option Addr) (ct cl : Nat) (tl ll : List Int), i = .int .i64 k ∧ k ≤ n ∧ top = .slice T tl.length ct ∧ low = .slice L ll.length cl ∧ Hid (FitW w wr T L ct cl tl ll (fitTL (l.take k)) k))) (fun _ _ i _ => n - (intOf i).toNat)
    case atStart =>
      refine hid ⟨0, _, _, 1, 1, [0], [1], rfl, by omega, rfl, rfl, hid ⟨?_, ?_, ?_, ?_, ?_, by simp, by simp, by rw [wv_one]; rfl, by rw [wv_one]; rfl⟩⟩
      · (repeat (first | exact Below.refl _ _ | refine RowKit.Below.past ?_ _ | refine RowKit.Below.alloc' ?_ _ | refine RowKit.Below.drew' ?_ | refine RowKit.Below.drewN' ?_ _ | refine RowKit.Below.setCell' ?_ (by simp [go_sem]) _))
      · exact (Cells.of_own (World.ownsRow_lit (base := 0) (size := 1) w #[.int .u64 0] 1 (Nat.zero_le _) (by unfold maxLen; omega) rfl)).alloc _
      · have := Cells.of_own (World.ownsRow_lit (base := 0) (size := 1) (w.alloc (.cells #[.int .u64 0] 28)) #[.int .u64 1] 1 (Nat.zero_le _) (by unfold maxLen; omega) rfl) (e := 28)
        rw [World.size_alloc] at this
        exact this
      · intro x hx; simp at hx; subst hx; exact ⟨by omega, by omega⟩
      · intro x hx; simp at hx; subst hx; exact ⟨by omega, by omega⟩
    case round =>
      obtain ⟨k, T, L, ct, cl, tl, ll, rfl, hk, rfl, rfl, HW⟩ := hrel.out
      clear hrel
      by_cases hlt : k < n
      · obtain ⟨x, hx⟩ : ∃ x, l[k]? = some x := ⟨_, List.getElem?_eq_getElem (by rw [EN.out]; exact hlt)⟩
        obtain ⟨b1, o1, rfl, hc⟩ := (HA.out.below HW.out.below).tab_at pairI_length hx (by omega)
        have hc1 := hc 0 _ rfl
        have hc2 := hc 1 _ rfl
        obtain ⟨x1, x2⟩ := x
        simp only [Nat.add_zero] at hc1
        have hx12 := hI _ (List.mem_of_getElem? hx)
        obtain ⟨P, eP⟩ : ∃ P, bringF x2 1 1048576 = P := ⟨_, rfl⟩
        obtain ⟨B, eB⟩ : ∃ B, bringF x1 1 1048576 = B := ⟨_, rfl⟩
        have hp := bring_in x2
        have hb := bring_in x1
        rw [eP] at hp
        rw [eB] at hb
        have e1 : IntKind.u64.wrap P = P := by rw [IntKind.wrap_u64]; omega
        have e2 : IntKind.u64.wrap B = B := by rw [IntKind.wrap_u64]; omega
        have HX := hid hx
        have HI := hid hx12
        have EP := hid eP
        have EB := hid eB
        have HP : Hid (U64 P) := hid ⟨by omega, by omega⟩
        have HB : Hid (U64 B) := hid ⟨by omega, by omega⟩
        clear hc hx hx12 eP eB hp hb
        have q1 : ∀ w', Calls Try.prog 13 #[.int .i64 x1] w' (Gives (.int .i64 B) w') := fun w' => by have := qbring_any x1 HI.out.1 w'; rw [EB.out] at this; exact this
        have q2 : ∀ w', Calls Try.prog 13 #[.int .i64 x2] w' (Gives (.int .i64 P) w') := fun w' => by have := qbring_any x2 HI.out.2 w'; rw [EP.out] at this; exact this
        obtain ⟨nt, ent⟩ : ∃ nt, tl.length = nt := ⟨_, rfl⟩
        obtain ⟨nl, enl⟩ : ∃ nl, ll.length = nl := ⟨_, rfl⟩
        have hnt := HW.out.nt
        have hnl := HW.out.nl
        rw [ent] at hnt ⊢
        rw [enl] at hnl ⊢
        have ENT := hid ent
        have ENL := hid enl
        have HNL := hid hnl
        have hl0 : 0 < nl := by omega
        have hl1 : nl ≤ 1000 := by omega
        have ht1 : nt ≤ 1000 := by omega
        clear ent enl hnl
        go_wp2_with fail
        refine wp_region_past (by kernel_rfl) (by kernel_rfl) ?_
        repeat (go_big_quiet_step ((first | (go_at_call 13; first | exact Calls.in_past (q1 _) | exact Calls.in_past2 (q1 _)) | (go_at_call 13; first | exact Calls.in_past (q2 _) | exact Calls.in_past2 (q2 _)))))
        refine wpQuiet_nil ?_
        rintro _ ⟨_, rfl⟩
        clear q1 q2 hc1 hc2
        go_wp2_with fail
        refine (wtimes_n L cl ll nl ENL.out B HB.out _ (by omega) HW.out.wl ((HW.out.cl.alloc _).past _)).mono ?_
        rintro _ w2 ⟨M, cm, rfl, hb2, ho2⟩
        have HB2 := hid (show Below wr.heap.size wr w2 from below_trans' (by (repeat (first | exact Below.refl _ _ | refine RowKit.Below.past ?_ _ | refine RowKit.Below.alloc' ?_ _ | refine RowKit.Below.drew' ?_ | refine RowKit.Below.drewN' ?_ _ | refine RowKit.Below.setCell' ?_ (by simp [go_sem]) _))) hb2)
        have HO2 := hid (own_base ho2 (show wr.heap.size ≤ _ by simp [go_sem]; omega))
        clear ho2 hb2
        go_wp2_with fail
        refine (wtimes_n T ct tl nt ENT.out P HP.out w2 (by omega) HW.out.wt (HW.out.ct.below HB2.out)).mono ?_
        rintro _ w3 ⟨S, cs, rfl, hb3, ho3⟩
        have HB3 := hid hb3
        have HO3 := hid ho3
        clear hb3 ho3
        obtain ⟨m, em⟩ : ∃ m, nl + 1 = m := ⟨_, rfl⟩
        obtain ⟨t, et⟩ : ∃ t, nt + 1 = t := ⟨_, rfl⟩
        rw [em] at HO2 ⊢
        rw [et] at HO3 ⊢
        have hm1 : m ≤ 1001 := by omega
        have ht2 : t ≤ 1001 := by omega
        have EMM := hid em
        have ETT := hid et
        obtain ⟨N, eN⟩ : ∃ N, max t m = N := ⟨_, rfl⟩
        have n1 : t ≤ N := by omega
        have n2 : m ≤ N := by omega
        have n3 : N ≤ 1001 := by omega
        have NN := hid eN
        have e3 : IntKind.i64.wrap ((N : Int) - (t : Int)) = ((N - t : Nat) : Int) := by rw [IntKind.wrap_i64]; omega
        have e4 : IntKind.i64.wrap ((N : Int) - (m : Int)) = ((N - m : Nat) : Int) := by rw [IntKind.wrap_i64]; omega
        clear em et eN
        go_upto_region 10 with fail
        go_cut [10] from 19 to 57 (fun v wx => v = .int .i64 (N : Int) ∧ w3 = wx)
        case first =>
          go_wp2_with fail
          all_goals
            go_meet
            case rel => exact ⟨congrArg (Value.int .i64) (by have := NN.out; omega), rfl⟩
        case rest =>
          obtain ⟨rfl, rfl⟩ := hcut
          go_wp2_with (at_builtin; first
            | (refine wpList_zeros rfl (.tmp 41) (.tmp 45) 46 3 rfl w2.heap.size 28 i0 (.int .u64 0) .i64 8 Try.underlying46 Try.underlying3 hi hz0 hz1 hz2 rfl rfl (.slice S t cs) t (u64s (wtimes tl P)) rfl HO3.out (N - t) ?_ ?_ ?_ HB3.out.size ?_; (· rfl); (· unfold maxLen; omega); (· omega); intro w4 S2 cs2 ho4 hg4 _
               rw [show t + (N - t) = N by omega, u64s_zeros] at ho4
               have HB4 := hid (HB3.out.grown hg4 HB3.out.size (fun k hk => (HO3.out.lt k hk).1))
               have HM4 := hid ((own_below HO2.out HB3.out (Nat.le_refl _)).kept hg4 (own_apart HO2.out HO3.out (Nat.le_refl _)))
               have HO4 := hid ho4
               have HB24 := hid (below_trans' HB2.out HB4.out)
               clear ho4 hg4)
            | (refine wpList_zeros rfl (.tmp 47) (.tmp 51) 46 3 rfl wr.heap.size 28 i0 (.int .u64 0) .i64 8 Try.underlying46 Try.underlying3 hi hz0 hz1 hz2 rfl rfl (.slice M m cm) m (u64s (wtimes ll B)) rfl HM4.out (N - m) ?_ ?_ ?_ HB24.out.size ?_; (· rfl); (· unfold maxLen; omega); (· omega); intro w5 M2 cm2 ho5 hg5 _
               rw [show m + (N - m) = N by omega, u64s_zeros] at ho5
               have HB5 := hid (HB24.out.grown hg5 HB24.out.size (fun k hk => (HM4.out.lt k hk).1))
               have HS5 := hid (HO4.out.kept hg5 (own_apart' HO2.out HO4.out (Nat.le_refl _)))
               have HM5 := hid ho5
               clear ho5 hg5 HM4 HB24 HB4 HO4))
          have WT : Words (wtimes tl P ++ List.replicate (N - t) 0) := words_zeros (wtimes_words HW.out.wt HP.out) _
          have WM : Words (wtimes ll B ++ List.replicate (N - m) 0) := words_zeros (wtimes_words HW.out.wl HB.out) _
          have lt1 : (wtimes tl P ++ List.replicate (N - t) 0).length = N := by rw [List.length_append, wtimes_length, List.length_replicate]; have := ENT.out; have := ETT.out; omega
          have lt2 : (wtimes ll B ++ List.replicate (N - m) 0).length = N := by rw [List.length_append, wtimes_length, List.length_replicate]; have := ENL.out; have := EMM.out; omega
          refine (wplus_n S2 M2 cs2 cm2 _ _ N lt1 lt2 w5 (by omega) WT WM (Cells.of_own HS5.out) (Cells.of_own HM5.out)).mono ?_
          rintro _ w6 ⟨T3, c3, rfl, hb6, ho6⟩
          have hv := wplus_val (wtimes tl P ++ List.replicate (N - t) 0) (wtimes ll B ++ List.replicate (N - m) 0) (by rw [lt1, lt2])
          rw [wv_zeros, wv_zeros, wtimes_val, wtimes_val, HW.out.vt, HW.out.vl] at hv
          have hw := wplus_words WT WM
          have hlen := wplus_length (wtimes tl P ++ List.replicate (N - t) 0) (wtimes ll B ++ List.replicate (N - m) 0)
          rw [lt1] at hlen
          generalize wplus (wtimes tl P ++ List.replicate (N - t) 0) (wtimes ll B ++ List.replicate (N - m) 0) = tl3 at hv hw hlen ho6
          have HV := hid hv
          have HWT := hid hw
          have HLEN := hid hlen
          have HB6 := hid (below_trans' HB5.out hb6)
          have HO6 := hid ho6
          clear hv hw hlen hb6 ho6 WT WM lt1 lt2 HS5 HM5 HB5 HO3 HO2 HB3 HB2
          go_wp2_with fail
          refine (wtimes_n L cl ll nl ENL.out P HP.out w6 (by omega) HW.out.wl (HW.out.cl.below HB6.out)).mono ?_
          rintro _ w7 ⟨L3, c4, rfl, hb7, ho7⟩
          have hn1 : nl + 1 = (wtimes ll P).length := by rw [wtimes_length, ENL.out]
          have hn2 : N + 1 = tl3.length := HLEN.out.symm
          have FW : FitW w w7 T3 L3 c3 c4 tl3 (wtimes ll P) (fitTL (l.take (k + 1))) (k + 1) := by
            refine ⟨below_trans' HW.out.below (below_trans' HB6.out hb7), (Cells.of_own HO6.out).below hb7, Cells.of_own ho7, HWT.out, wtimes_words HW.out.wl HP.out, ?_, ?_, ?_, ?_⟩
            · have := HLEN.out; have := NN.out; have := ETT.out; have := EMM.out; have := HNL.out
              omega
            · have := HNL.out; omega
            · rw [HV.out, take_snoc HX.out, fitTL_snoc]
              simp only [fitStep, EP.out, EB.out]
            · rw [wtimes_val, HW.out.vl, take_snoc HX.out, fitTL_snoc]
              simp only [fitStep, EP.out]
          have FW := hid FW
          have hn1 := hid hn1
          have hn2 := hid hn2
          clear hb7 ho7 HW
          go_wp2_with fail
          go_roundw
          case rel =>
            exact hid ⟨k + 1, T3, L3, c3, c4, tl3, wtimes ll P, by go_num, by omega, by rw [← hn2.out], by rw [← hn1.out], FW⟩
          case measure => simp [intOf]; omega
      · obtain rfl : k = n := by omega
        have hnt := HW.out.nt
        have hnl := HW.out.nl
        have hv : wgt tl ll = !fitB l := by
          have e : l.take k = l := by rw [← EN.out]; exact List.take_length
          have h1 := HW.out.vt
          have h2 := HW.out.vl
          rw [e] at h1 h2
          unfold wgt fitB
          rw [h1, h2, EN.out]
          by_cases h : (fitTL l).1 ≤ (fitTL l).2
          · simp [h, show ¬ (fitTL l).2 < (fitTL l).1 by omega, show k ≤ 64 by omega]
          · simp [h, show (fitTL l).2 < (fitTL l).1 by omega]
        have HV := hid hv
        have HNT := hid hnt
        have HNL := hid hnl
        clear hv hnt hnl
        go_wp2_with fail
        refine (wabove_any T L ct cl tl ll _ _ rfl rfl wr HNT.out.1 (by have := HNL.out; omega) (by have := HNT.out; omega) (by have := HNL.out; omega) HW.out.wt HW.out.wl HW.out.ct HW.out.cl).mono ?_
        rintro _ _ ⟨rfl, x8, rfl⟩
        rw [HV.out]
        go_wp2
        go_ret
        exact Gives.mk (by simp) (RowKit.Below.past HW.out.below _)
structure RFitW (w wr : World) (T L : Option Addr) (tl ll : List Int) (t : Int × Int) (k : Nat) : Prop where
  below : Below w.heap.size w wr
  ct : Cells wr T (u64s tl)
  cl : Cells wr L (u64s ll)
  wt : Digs tl
  wl : Digs ll
  nt : tl.length ≤ 8 * k + 1
  nl : ll.length ≤ 5 * k + 1
  vt : val tl = t.1
  vl : val ll = t.2
def two (p : Int) : List Int := [p % 65536, p / 65536]
theorem two_digs {p : Int} (h : 1 ≤ p ∧ p ≤ 1048576) : Digs (two p) := by
  intro x hx
  simp only [two, List.mem_cons, List.not_mem_nil, or_false] at hx
  rcases hx with rfl | rfl <;> omega
theorem two_val (p : Int) : val (two p) = p := by
  simp [val, valN, two, atD]; omega
theorem timesD_le (a b : List Int) : (timesD a b).length ≤ a.length + 2 * b.length + 1 := timesK_length a b _
theorem Times_lit (T : Option Addr) (ct : Nat) (tl : List Int) (p : Int) (hp : 1 ≤ p ∧ p ≤ 1048576) (W : World) (g : Nat) (hg : g = W.heap.size) (hl : tl.length ≤ 1000) (dt : Digs tl) (ht : Cells W T (u64s tl)) :
    Calls Try.prog 20 #[.slice T tl.length ct, .slice (some ⟨g, 0, none⟩) 2 2] (W.alloc (.cells #[.int .u64 (p % 65536), .int .u64 (p / 65536)] 28))
      (fun e w' => ∃ A cap, e = .returned (.slice A (timesD tl (two p)).length cap) ∧ Below W.heap.size W w' ∧ Cells w' A (u64s (timesD tl (two p)))) := by
  subst hg
  have hc : Cells (W.alloc (.cells #[.int .u64 (p % 65536), .int .u64 (p / 65536)] 28)) (some ⟨W.heap.size, 0, none⟩) (u64s (two p)) :=
    Cells.of_own (World.ownsRow_lit (base := 0) (size := 1) W #[.int .u64 (p % 65536), .int .u64 (p / 65536)] 2 (Nat.zero_le _) (by unfold maxLen; omega) rfl)
  refine (Times_ref T (some ⟨W.heap.size, 0, none⟩) ct 2 tl (two p) _ hl (by simp [two]) dt (two_digs hp) (ht.alloc _) hc).mono ?_
  rintro _ w' ⟨A, cap, rfl, hb, ho⟩
  exact ⟨A, cap, rfl, ((Below.refl _ W).alloc (Nat.le_refl _) _).trans (hb.mono (by simp)), Cells.of_own ho⟩
set_option maxHeartbeats 4000000 in
theorem RFit_any (A : Option Addr) (ca : Nat) (l : List (Int × Int)) (n : Nat) (en : l.length = n) (w : World) (hn : n ≤ 1000000) (hI : ∀ x ∈ l, I64 x.1 ∧ I64 x.2) (ha : Cells w A (tab pairI l)) :
    Calls Try.prog 10 #[.slice A n ca] w (Gives (.bool (fitB l)) w) := by
  have EN := hid en
  have HA := hid ha
  clear en ha
  by_cases hbig : 64 < n
  · go_enter Try.func10, Try.ntmps10
    go_wp2
    go_ret
    exact Gives.refl (by unfold fitB; rw [EN.out]; simp [show ¬ n ≤ 64 by omega])
  · go_enter Try.func10, Try.ntmps10
    go_wp2
    go_loopw [3, 4, 5] (fun top low i wr => Hid (∃ (k : Nat) (T L : Option Addr) (ct cl : Nat) (tl ll : List Int), i = .int .i64 k ∧ k ≤ n ∧ top = .slice T tl.length ct ∧ low = .slice L ll.length cl ∧ Hid (RFitW w wr T L tl ll (fitTL (l.take k)) k))) (fun _ _ i _ => n - (intOf i).toNat)
    case atStart =>
      refine hid ⟨0, _, _, 1, 1, [0], [1], rfl, by omega, rfl, rfl, hid ⟨?_, ?_, ?_, ?_, ?_, by simp, by simp, by simp [val, valN, atD]; rfl, by simp [val, valN, atD]; rfl⟩⟩
      · (repeat (first | exact Below.refl _ _ | refine RowKit.Below.past ?_ _ | refine RowKit.Below.alloc' ?_ _ | refine RowKit.Below.drew' ?_ | refine RowKit.Below.drewN' ?_ _ | refine RowKit.Below.setCell' ?_ (by simp [go_sem]) _))
      · exact (Cells.of_own (World.ownsRow_lit (base := 0) (size := 1) w #[.int .u64 0] 1 (Nat.zero_le _) (by unfold maxLen; omega) rfl)).alloc _
      · have := Cells.of_own (World.ownsRow_lit (base := 0) (size := 1) (w.alloc (.cells #[.int .u64 0] 28)) #[.int .u64 1] 1 (Nat.zero_le _) (by unfold maxLen; omega) rfl) (e := 28)
        rw [World.size_alloc] at this
        exact this
      · intro x hx; simp at hx; subst hx; exact ⟨by omega, by omega⟩
      · intro x hx; simp at hx; subst hx; exact ⟨by omega, by omega⟩
    case round =>
      obtain ⟨k, T, L, ct, cl, tl, ll, rfl, hk, rfl, rfl, HW⟩ := hrel.out
      clear hrel
      by_cases hlt : k < n
      · obtain ⟨x, hx⟩ : ∃ x, l[k]? = some x := ⟨_, List.getElem?_eq_getElem (by rw [EN.out]; exact hlt)⟩
        obtain ⟨b1, o1, rfl, hc⟩ := (HA.out.below HW.out.below).tab_at pairI_length hx (by omega)
        have hc1 := hc 0 _ rfl
        have hc2 := hc 1 _ rfl
        obtain ⟨x1, x2⟩ := x
        simp only [Nat.add_zero] at hc1
        have hx12 := hI _ (List.mem_of_getElem? hx)
        obtain ⟨P, eP⟩ : ∃ P, bringF x2 1 1048576 = P := ⟨_, rfl⟩
        obtain ⟨B, eB⟩ : ∃ B, bringF x1 1 1048576 = B := ⟨_, rfl⟩
        have hp := bring_in x2
        have hb := bring_in x1
        rw [eP] at hp
        rw [eB] at hb
        have e1 : IntKind.u64.wrap P = P := by rw [IntKind.wrap_u64]; omega
        have e2 : IntKind.u64.wrap B = B := by rw [IntKind.wrap_u64]; omega
        have e3 : P.tmod 65536 = P % 65536 := Int.tmod_eq_emod_of_nonneg (by omega)
        have e4 : B.tmod 65536 = B % 65536 := Int.tmod_eq_emod_of_nonneg (by omega)
        have e5 : IntKind.u64.wrap (P.tdiv 65536) = P / 65536 := by rw [Int.tdiv_eq_ediv_of_nonneg (by omega), IntKind.wrap_u64]; omega
        have e6 : IntKind.u64.wrap (B.tdiv 65536) = B / 65536 := by rw [Int.tdiv_eq_ediv_of_nonneg (by omega), IntKind.wrap_u64]; omega
        have HX := hid hx
        have HI := hid hx12
        have EP := hid eP
        have EB := hid eB
        have HP := hid hp
        have HB := hid hb
        have q1 : ∀ w', Calls Try.prog 7 #[.int .i64 x1, .int .i64 1, .int .i64 1048576] w' (Gives (.int .i64 B) w') := fun w' => by have := Bring_any x1 1 1048576 w'; rw [EB.out] at this; exact this
        have q2 : ∀ w', Calls Try.prog 7 #[.int .i64 x2, .int .i64 1, .int .i64 1048576] w' (Gives (.int .i64 P) w') := fun w' => by have := Bring_any x2 1 1048576 w'; rw [EP.out] at this; exact this
        have Q1 := hid q1
        have Q2 := hid q2
        clear hc hx hx12 eP eB hp hb q1 q2
        go_wp2_with (go_at_call 7; first | ((with_reducible refine (Q1.out _).mono ?_); rintro _ _ ⟨rfl, _, rfl⟩) | ((with_reducible refine (Q2.out _).mono ?_); rintro _ _ ⟨rfl, _, rfl⟩))
        have hnt := HW.out.nt
        have hnl := HW.out.nl
        have HNT := hid hnt
        have HNL := hid hnl
        clear hnt hnl hc1 hc2
        refine (Times_lit T ct tl P HP.out _ _ (by simp [go_sem]) (by have := HNT.out; omega) HW.out.wt (HW.out.ct.past _)).mono ?_
        rintro _ w2 ⟨T2, c2, rfl, hb2, hc2⟩
        have HB2 := hid (show Below wr.heap.size wr w2 from below_trans' (by (repeat (first | exact Below.refl _ _ | refine RowKit.Below.past ?_ _ | refine RowKit.Below.alloc' ?_ _ | refine RowKit.Below.drew' ?_ | refine RowKit.Below.drewN' ?_ _ | refine RowKit.Below.setCell' ?_ (by simp [go_sem]) _))) hb2)
        have HC2 := hid hc2
        clear hb2 hc2
        obtain ⟨t2, ht2⟩ : ∃ t2, timesD tl (two P) = t2 := ⟨_, rfl⟩
        have v2 := times_val HW.out.wt (two_digs HP.out)
        have l2 := timesD_le tl (two P)
        have d2 := times_digs tl (two P)
        rw [ht2, HW.out.vt, two_val] at v2
        rw [ht2] at l2 d2 HC2 ⊢
        replace l2 : t2.length ≤ tl.length + 5 := l2
        have V2 := hid v2
        have L2 := hid l2
        have D2 := hid d2
        clear ht2 v2 l2 d2
        go_wp2_with fail
        refine (Times_lit L cl ll B HB.out w2 _ rfl (by have := HNL.out; omega) HW.out.wl (HW.out.cl.below HB2.out)).mono ?_
        rintro _ w3 ⟨M, c3, rfl, hb3, hc3⟩
        have HB3 := hid (below_trans' HB2.out hb3)
        have HC3 := hid hc3
        have HC2' := hid (HC2.out.below hb3)
        obtain ⟨t3, ht3⟩ : ∃ t3, timesD ll (two B) = t3 := ⟨_, rfl⟩
        have v3 := times_val HW.out.wl (two_digs HB.out)
        have l3 := timesD_le ll (two B)
        have d3 := times_digs ll (two B)
        rw [ht3, HW.out.vl, two_val] at v3
        rw [ht3] at l3 d3 HC3 ⊢
        replace l3 : t3.length ≤ ll.length + 5 := l3
        have V3 := hid v3
        have L3 := hid l3
        have D3 := hid d3
        clear ht3 v3 l3 d3 hb3 hc3
        go_wp2_with fail
        refine (Sum_any T2 M c2 c3 t2 t3 w3 (by have := HNT.out; have := L2.out; omega) (by have := HNL.out; have := L3.out; omega) D2.out D3.out HC2'.out HC3.out).mono ?_
        rintro _ w4 ⟨S, c4, rfl, hb4, ho4⟩
        have HB4 := hid (below_trans' HB3.out hb4)
        have HC4 := hid (Cells.of_own ho4)
        obtain ⟨t4, ht4⟩ : ∃ t4, sumD t2 t3 = t4 := ⟨_, rfl⟩
        have v4 := sum_val D2.out D3.out
        have l4 : (sumD t2 t3).length = lonD t2 t3 + 1 := by simp [sumD, sumK]
        have d4 := sum_digs t2 t3
        rw [ht4, V2.out, V3.out] at v4
        rw [ht4] at l4 d4 HC4 ⊢
        replace l4 : t4.length ≤ 8 * (k + 1) + 1 := by
          have := HNT.out; have := HNL.out; have := L2.out; have := L3.out
          rw [l4]; unfold lonD; split <;> omega
        have V4 := hid v4
        have L4 := hid l4
        have D4 := hid d4
        clear ht4 v4 l4 d4 hb4 ho4 HC2 HC2' HC3 V2 L2 D2 V3 L3 D3
        go_wp2_with fail
        refine (Times_lit L cl ll P HP.out w4 _ rfl (by have := HNL.out; omega) HW.out.wl (HW.out.cl.below HB4.out)).mono ?_
        rintro _ w5 ⟨L5, c5, rfl, hb5, hc5⟩
        obtain ⟨t5, ht5⟩ : ∃ t5, timesD ll (two P) = t5 := ⟨_, rfl⟩
        have v5 := times_val HW.out.wl (two_digs HP.out)
        have l5 := timesD_le ll (two P)
        have d5 := times_digs ll (two P)
        rw [ht5, HW.out.vl, two_val] at v5
        rw [ht5] at l5 d5 hc5 ⊢
        replace l5 : t5.length ≤ ll.length + 5 := l5
        have FW : RFitW w w5 S L5 t4 t5 (fitTL (l.take (k + 1))) (k + 1) := by
          refine ⟨below_trans' HW.out.below (below_trans' HB4.out hb5), HC4.out.below hb5, hc5, D4.out, d5, L4.out, by have := HNL.out; omega, ?_, ?_⟩
          · rw [V4.out, take_snoc HX.out, fitTL_snoc]
            simp only [fitStep, EP.out, EB.out]
          · rw [v5, take_snoc HX.out, fitTL_snoc]
            simp only [fitStep, EP.out]
        have FW := hid FW
        clear ht5 v5 l5 d5 hc5 hb5 V4 HC4 L4 D4 HW
        go_wp2_with fail
        go_roundw
        case rel => exact hid ⟨k + 1, S, L5, c4, c5, t4, t5, by go_num, by omega, by rfl, by rfl, FW⟩
        case measure => simp [intOf]; omega
      · obtain rfl : k = n := by omega
        have hv : decide (cmpF (val tl) (val ll) ≤ 0) = fitB l := by
          have e : l.take k = l := by rw [← EN.out]; exact List.take_length
          have h1 := HW.out.vt
          have h2 := HW.out.vl
          rw [e] at h1 h2
          unfold fitB
          rw [h1, h2, EN.out]
          unfold cmpF
          by_cases h : (fitTL l).1 ≤ (fitTL l).2
          · simp [h, show k ≤ 64 by omega]
            by_cases h3 : (fitTL l).1 < (fitTL l).2
            · simp [h3]
            · simp [h3, show ¬ (fitTL l).2 < (fitTL l).1 by omega]
          · simp [h, show ¬ (fitTL l).1 < (fitTL l).2 by omega, show (fitTL l).2 < (fitTL l).1 by omega]
        have HV := hid hv
        have hnt := HW.out.nt
        have hnl := HW.out.nl
        have HNT := hid hnt
        have HNL := hid hnl
        clear hv hnt hnl
        go_wp2_with fail
        refine (Less_any T L ct cl tl ll wr (by have := HNT.out; omega) (by have := HNL.out; omega) HW.out.wt HW.out.wl HW.out.ct HW.out.cl).mono ?_
        rintro _ _ ⟨rfl, x8, rfl⟩
        go_wp2
        go_ret
        exact Gives.mk (by rw [← HV.out]; rfl) (RowKit.Below.past HW.out.below _)
end Go.Proofs.Ytmkndabbkceknaa
