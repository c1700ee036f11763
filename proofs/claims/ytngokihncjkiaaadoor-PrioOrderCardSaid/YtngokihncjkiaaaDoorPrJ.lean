/-
  Layer 39: a queue of levels (ints): All, Peek. No condition.
-/
import Derived.Test.YtngokihncjkiaaaDoorPrW
import Derived.Test.YtngokihncjkiaaaDoorFifI
import Derived.Test.YtngokihncjkiaaaDoorIdset
import Derived.Test.YtngokihncjkiaaaDoorRangeN
import Derived.Test.YtngokihncjkiaaaDoorPastRd
import Derived.Deep.CutRange
import Derived.StillTailTactics
import Derived.Shelf.Abstract
namespace Go.Proofs.YtngokihncjkiaaaDoor
open Go.RowKit Go.Shelf
attribute [local go_sem] Oper.semAt_some
/-- All values of some levels, each with its level. -/
def itemsL (L : Nat → List (Int × Int)) (ls : List Nat) : List (Int × Int) := ls.flatMap fun i => (L i).map fun x => ((i : Int), x.2)
theorem callsIn_round {l n : Nat} {P : Program} {f : FuncId} {args : Array Value} {w : World} {R : Ending → World → Prop} (h : Calls P f args w R) : CallsIn (Fence.wide.inRound l) n P f args w R := (callsIn_wide (n := n)).2 h
theorem itemsL_snoc (L : Nat → List (Int × Int)) (ls : List Nat) (i : Nat) : itemsL L (ls ++ [i]) = itemsL L ls ++ (L i).map fun x => ((i : Int), x.2) := by simp [itemsL]
theorem itemsL_prefix {L : Nat → List (Int × Int)} {ls l2 : List Nat} (h : ls <+: l2) : itemsL L ls <+: itemsL L l2 := by
  obtain ⟨t, rfl⟩ := h
  exact ⟨itemsL L t, by simp [itemsL]⟩
theorem items_in {L : Nat → List (Int × Int)} {ls l2 : List Nat} {i : Nat} (h : ls ++ [i] <+: l2) {ys : List (Int × Int)} (hy : ys <+: L i) : itemsL L ls ++ (ys.map fun x => ((i : Int), x.2)) <+: itemsL L l2 := by
  refine List.IsPrefix.trans ?_ (itemsL_prefix h)
  rw [itemsL_snoc]
  exact List.prefix_append_right_inj _ |>.2 (hy.map _)
theorem PA.qaF {B : Nat} {w : World} {b : Nat} {F : Nat → Prop} {most : Int} {rp : Nat → Option Nat} {tk : Nat → Int} {L : Nat → List (Int × Int)} {so : Nat} {n : Int} (h : PA B w b F most rp tk L so n) {i : Nat} (hi : i < 64) {q : Nat} (hq : rp i = Option.some q) : ∃ G : Nat → Prop, QA B w q G (mostA most) (tk i) (L i) ∧ ∀ k, G k → F k := by
  obtain ⟨Fs, h1, _, _, h4⟩ := h.qs
  have := h1 i hi
  rw [hq] at this
  exact ⟨Fs i, this, fun k hk => (h4 k).2 (.inr ⟨i, hi, hk⟩)⟩
set_option maxRecDepth 100000 in
set_option maxHeartbeats 4000000 in
theorem prio_all_seq (m : Nat) (hm : 7 ≤ m) (w0 : World) (Bx b B : Nat) (F : Nat → Prop) (most : Int) (tk : Nat → Int) (L : Nat → List (Int × Int)) (h : PQ B w0 b F most tk L) (T : Nat → Prop)
    (hBx : w0.cell? ⟨Bx, 0, none⟩ = some (.pointer (some ⟨b, 0, none⟩))) (hBT : ¬ T Bx) (hF : ∀ k, F k → ¬ T k) (hT : ∀ k, T k → k < w0.heap.size) (hZ : Tz w0) (hZT : ¬ T 0) :
    ∃ ls : List Nat, (∀ i, i ∈ ls ↔ i < 64 ∧ L i ≠ []) ∧ ls.Pairwise (· < ·) ∧
    SeqE Fence.wide m Tryd.prog 36 #[.pointer (some ⟨Bx, 0, none⟩)] encP T (fun ys => ys = itemsL L ls) (fun pre => pre <+: itemsL L ls) (itemsL L ls).length w0 := by
  obtain ⟨rp, so, n, hA, hS, hn⟩ := h
  refine ⟨bitsL so, fun i => ?_, List.Pairwise.filter _ List.pairwise_lt_range, ?_⟩
  · rw [mem_bits]
    constructor
    · rintro ⟨h1, h2⟩
      rw [hS.2 i h1] at h2
      exact ⟨h1, by simpa using h2⟩
    · rintro ⟨h1, h2⟩
      exact ⟨h1, by rw [hS.2 i h1]; simpa using h2⟩
  intro lp J Jx W hW hJ hJx hY h0
  have hsz := hW.size
  obtain ⟨To, eTo⟩ : ∃ To : Nat → Prop, To = TT T w0.heap.size W.heap.size := ⟨_, rfl⟩
  rw [← eTo] at hY
  have hlx := World.block_lt_of_cell? w0 _ hBx
  simp only at hlx
  have hToT : ∀ k, k < w0.heap.size → ¬ T k → ¬ To k := fun k h1 h2 h3 => by
    rw [eTo] at h3
    rcases h3 with h3 | h3
    · exact h2 h3
    · omega
  have hToW : ∀ k, To k → k < W.heap.size := fun k h3 => by
    rw [eTo] at h3
    rcases h3 with h3 | h3
    · have := hT k h3; omega
    · omega
  have hAW : PA B W b F most rp tk L so n := (PA.is).kept hA (ks_kept hW) hF
  have hFT : ∀ k, F k → ¬ To k := fun k hk => hToT k ((PA.is).foot hA hk).2 (hF k hk)
  have hZW : Tz W := fun j hj => hW.cell hZT (hZ j hj)
  have hZo : ¬ To 0 := hToT _ hZ.lt hZT
  have cbx := hW.cell hBT hBx
  have hBo := hToT Bx hlx hBT
  have hlW := World.block_lt_of_cell? W _ cbx
  simp only at hlW
  refine callsIn_of_wp_marks Tryd.func36 rfl trivial ?_ rfl
  simp only [Tryd.ntmps36, List.size_toArray, List.length_cons, List.length_nil, Nat.reduceAdd, Nat.reduceSub, Array.replicate_succ, Array.replicate_zero, List.push_toArray, List.append_toArray, List.nil_append, List.cons_append]
  obtain ⟨w1, ew1⟩ : ∃ w1, w1 = W.alloc (.cells #[.func (.yield lp) #[] #[]] 74) := ⟨_, rfl⟩
  have hb1 : Below W.heap.size W w1 := by rw [ew1]; exact (Below.refl _ W).alloc (Nat.le_refl _) _
  have by1 : Boxed w1 W.heap.size 74 (.func (.yield lp) #[] #[]) := by rw [ew1]; exact Boxed.new W _ _
  have cbx1 := below_cell hb1 (Nat.le_refl _) _ _ cbx
  have hl1 := hb1.size
  have HLV := hid (PLevels_any (hAW.far hb1))
  have EW1 := hid ew1
  have HCBX := hid cbx
  have HY := hid hY
  have HJ := hid hJ
  have HJX := hid hJx
  have HAW := hid hAW
  have HB1 := hid hb1
  have HZ1 := hid (hZW.below hb1)
  have H0 := hid h0
  have HS := hid hS
  clear hY hJ hJx hAW hZW h0 hA hS hn hZ hZT hW ew1 hb1
  refine wpIn_wide.2 ?_
  go_wp2_with fail
  rw [← EW1.out]
  refine HLV.out.mono ?_
  rintro _ _ ⟨rfl, x1, rfl⟩
  obtain ⟨w2, ew2⟩ : ∃ w2, w2 = w1.past x1 := ⟨_, rfl⟩
  have hb2 : Below w1.heap.size w1 w2 := by rw [ew2]; exact w1.below_past _
  rw [← ew2]
  clear ew2
  go_wp2_with fail
  refine (idAll_any (so : Int) w2).mono ?_
  rintro _ w3 ⟨rfl, hb3, hs3, hx3⟩
  have hb23 : Below w1.heap.size w1 w3 := below_trans' hb2 hb3
  have hb03 : Below W.heap.size W w3 := below_trans' HB1.out hb23
  have by3 : Boxed w3 W.heap.size 74 (.func (.yield lp) #[] #[]) := (hb23.block _ by1.lt).trans by1
  have hi2 : W.heap.size < w2.heap.size := by have := by1.lt; have := hb2.size; omega
  have hToI : ¬ To w2.heap.size := fun e => by have := hToW _ e; omega
  have hToY : ¬ To W.heap.size := fun e => by have := hToW _ e; omega
  have hi3 : W.heap.size < w3.heap.size := by omega
  have HB03 := hid hb03
  have HBY := hid by3
  have HSEQ := hid (idAll_seq (m - 1) (by omega) w3 w2.heap.size so HS.out.1 To hx3 hToI (HZ1.out.below hb23) hZo)
  have HCB := hid (fun U (h : KS To w3 U) => (KS.trans (KS.of_below (S := To) hb03) h : KS To W U))
  have hTo3 : ∀ k, To k → k < w3.heap.size := fun k hk => by have := hToW k hk; omega
  have hb03s := hb03.size
  obtain ⟨bi, ebi⟩ : ∃ bi, w2.heap.size = bi := ⟨_, rfl⟩
  rw [ebi] at HSEQ ⊢
  clear hx3 hb23 hb03 by3 hb3 hb2 HLV EW1 by1 cbx1 cbx
  go_wp2_with fail
  refine (wpIn_wide (n := m)).1 ?_
  apply wpIn_rangeFunc_G1H rfl (by omega) (gf := 55) (lb := #[.pointer (some ⟨bi, 0, none⟩)]) rfl trivial (enters_of Tryd.func55 (by kernel_rfl) rfl) HSEQ.out hTo3 (KS.refl _ _) (fun _ => rfl)
    (fun ls U => KS To w3 U ∧ J (itemsL L ls) U)
    (fun c _ U => c = .ret ∧ ∃ pre, pre <+: itemsL L (bitsL so) ∧ Jx pre U)
    (fun _ _ _ h hb => ⟨h.1.far hb, HJ.out _ _ _ h.2 (hb.mono hb03s)⟩)
    (fun _ _ _ _ h hb => ⟨h.1, by obtain ⟨pre, p1, p2⟩ := h.2; exact ⟨pre, p1, HJX.out _ _ _ p2 (hb.mono hb03s)⟩⟩)
    ⟨KS.refl _ _, HJ.out _ _ _ H0.out HB03.out⟩
    3 (fun x => #[.int .i64 (x : Int)]) _ ?assign ?body ?done ?stop
  case assign =>
    intro lq x U c K hs hc hK
    simp only [encN]
    gi_wp2
    exact hK _ (by rw [← hc]; exact Rec.new U _ _) ((Below.refl _ U).alloc (Nat.le_refl _) _)
  case body =>
    rintro lq pre lv c U hlq ⟨rl, hrl⟩ hsU ⟨hk, hj⟩ hlen hsp hcS hrec
    obtain ⟨hlv, hbit⟩ := mem_bits.1 (hsp.subset (show lv ∈ pre ++ [lv] by simp))
    have hne : L lv ≠ [] := by rw [HS.out.2 lv hlv] at hbit; simpa using hbit
    have hAU : PA B U b F most rp tk L so n := (PA.is).kept HAW.out (ks_kept (HCB.out U hk)) hFT
    obtain ⟨q, hq⟩ : ∃ q, rp lv = some q := by
      cases hr : rp lv with
      | some q => exact ⟨q, rfl⟩
      | none => exact absurd (hAU.no hlv hr).1 hne
    have cb := (HCB.out U hk).cell hBo HCBX.out
    have hlb := World.block_lt_of_cell? U _ cb
    simp only at hlb
    have crow : U.cell? ⟨b, 1 + lv, none⟩ = some (.pointer (some ⟨q, 0, none⟩)) := by
      have := hAU.row hlv
      rwa [hq] at this
    have cc0 := Rec.cell hrec 0
    simp at cc0
    have hlc := hrec.lt
    have hlbb := hAU.rc.lt
    have hl64 : (lv : Int) < 64 := by omega
    have hl0 : (0 : Int) ≤ lv := by omega
    obtain ⟨G, hG, hGF⟩ := hAU.qaF hlv hq
    obtain ⟨qq, f, cn, Q, ks, g1, g2, g3, -⟩ := hG
    have HG1 := hid g1
    have HG2 := hid g2
    have HG3 := hid g3
    have HGT := hid (show ∀ k, G k → ¬ To k from fun k hk => hFT k (hGF k hk))
    have HK := hid hk
    have HJ1 := hid hj
    have HREC := hid hrec
    have HRL := hid hrl
    have HSP := hid hsp
    have HHL := hid hlen
    clear g1 g2 g3 hGF hk hj hrec hrl hsp hAU hq hbit hlen
    gi_wp2_with fail
    refine wpIn_region_toR 6 1 (by kernel_rfl) (by kernel_rfl) (by kernel_rfl) rfl (by kernel_rfl) ?_
    simp only [List.take_succ_cons, List.take_zero]
    repeat (gi_big_quiet_step ((fail)))
    refine wpQuietIn_nil ?_
    rintro _ ⟨xq, rfl⟩
    obtain ⟨U1, eU1⟩ : ∃ V, V = U.past xq := ⟨_, rfl⟩
    have hbU1 : Below U.heap.size U U1 := by rw [eU1]; exact U.below_past _
    rw [← eU1]
    clear eU1 cb crow cc0
    refine wpAnyIn_ready (rs := [6]) (by kernel_rfl) (by simp) ?_
    refine AllReadyIn.cons rfl (fun K hK => ?_) AllReadyIn.nil
    gi_wp2_with fail
    refine ⟨fun _ => by omega, (callsIn_round (All_any (some ⟨q, 0, none⟩) U1)).mono ?_⟩
    rintro _ U2 ⟨rfl, hbU2, hsU2, hxU2⟩
    refine hK _ _ ?_
    clear hK K
    refine wpAnyIn_done (by kernel_rfl) ?_ _
    have hbUU : Below U.heap.size U U2 := below_trans' hbU1 hbU2
    have hUW : W.heap.size ≤ U.heap.size := by omega
    have hb2s : U.heap.size ≤ U2.heap.size := hbUU.size
    have hb1s : U1.heap.size ≤ U2.heap.size := hbU2.size
    have hu1s : U.heap.size ≤ U1.heap.size := hbU1.size
    have hToB : ∀ k, W.heap.size ≤ k → ¬ To k := fun k hk e => by have := hToW k e; omega
    have hseq2 := all_seq (m - 1 - 1 - 1) (by omega) U2 U1.heap.size q B G (mostA most) qq (tk lv) f cn Q ks (HG1.out.far hbUU) HG2.out To hxU2 (hToB _ (by omega)) HGT.out (fun k hk => by have := hToW k hk; omega)
    rw [HG3.out] at hseq2
    have hQl : Q.length = (L lv).length := by rw [← HG3.out, List.length_map]
    rw [hQl] at hseq2
    have HSEQ2 := hid (SeqE.wide (l1 := lq) hseq2)
    have HRL2 := hid (show U2.heap[lq]? = some (.loop rl) from (hbUU.block _ (Array.getElem?_eq_some_iff.1 HRL.out).1).trans HRL.out)
    have HK2 := hid (show KS To w3 U2 from HK.out.far (hbUU.mono hsU))
    have HKU := hid (show KS To U U2 from KS.of_below hbUU)
    have HY2 := hid (show U2.cell? ⟨W.heap.size, 0, none⟩ = some (.func (.yield lp) #[] #[]) from HK2.out.cell hToY HBY.out.cell)
    have HC2 := hid (show U2.cell? ⟨c, 0, none⟩ = some (.int .i64 (lv : Int)) from by
      have := Rec.cell HREC.out 0
      simp at this
      exact below_cell hbUU (Nat.le_refl _) _ _ this)
    have HJ2 := hid (HJ.out _ _ _ HJ1.out (hbUU.mono hUW))
    obtain ⟨bq, ebq⟩ : ∃ bq, U1.heap.size = bq := ⟨_, rfl⟩
    rw [ebq] at HSEQ2 ⊢
    have hcW : W.heap.size ≤ c := by omega
    clear hseq2 hbUU hxU2 hbU1 hbU2 hsU2 HG1 HG2 HGT HRL HK HJ1 HREC
    gi_wp2_with fail
    apply wpIn_rangeFunc_N rfl HRL2.out (by omega) (gf := 56) (lb := #[.pointer (some ⟨bq, 0, none⟩)]) rfl trivial (enters_of Tryd.func56 (by kernel_rfl) rfl) HSEQ2.out (fun k hk => by have := hToW k hk; omega) (KS.refl _ _) (fun _ => rfl)
      (fun ys V => KS To U2 V ∧ J (itemsL L pre ++ ys.map fun x => ((lv : Int), x.2)) V)
      (fun cd _ V => cd = .ret ∧ KS To U2 V ∧ ∃ pr, pr <+: itemsL L (bitsL so) ∧ Jx pr V)
      (fun _ _ _ h hb => ⟨h.1.far hb, HJ.out _ _ _ h.2 (hb.mono (by omega))⟩)
      (fun _ _ _ _ h hb => ⟨h.1, h.2.1.far hb, by obtain ⟨pr, p1, p2⟩ := h.2.2; exact ⟨pr, p1, HJX.out _ _ _ p2 (hb.mono (by omega))⟩⟩)
      ⟨KS.refl _ _, by simpa using HJ2.out⟩ _ ?assign2 ?body2 ?done2 ?stop2
    case assign2 =>
      intro lq2 x V K hK
      simp only [encP]
      gi_wp2
      exact hK
    case body2 =>
      rintro lq2 ys ⟨xt, xv⟩ V hsV ⟨hkV, hjV⟩ hlen2 hsp2
      have hyy0 := hkV.cell hToY HY2.out
      have hcc0 := hkV.cell (hToB c hcW) HC2.out
      have hly := World.block_lt_of_cell? V _ hyy0
      have hlc2 := World.block_lt_of_cell? V _ hcc0
      simp only at hly hlc2
      have hpre := items_in HSP.out hsp2
      rw [List.map_append, ← List.append_assoc] at hpre
      simp only [List.map_cons, List.map_nil] at hpre
      obtain ⟨fy, ty, asy, bdy, hyy, hRy⟩ := (HY.out (itemsL L pre ++ ys.map fun x => ((lv : Int), x.2)) ((lv : Int), xv) V (by omega) hjV (by have := hpre.length_le; simp at this ⊢; omega) hpre).wide (m' := m - 1 - 1 - 1 - 1 - 1) lq lq2
      simp only [encP] at hyy
      have HRY := hid hRy
      have HKV := hid hkV
      have HPRE := hid hpre
      clear hRy hkV hjV hpre hsp2 hlen2
      gi_wp2_with fail
      refine ⟨fun _ => by omega, HRY.out.mono ?_⟩
      rintro e W3 hE
      obtain ⟨bb, eE, hE2⟩ := yield_two hE
      clear hE
      subst eE
      cases bb
      · rcases hE2 with ⟨e, _⟩ | ⟨_, hJx3, hk3⟩
        · cases e
        · have HX := hid hJx3
          have HK3 := hid hk3
          clear hJx3 hk3 hyy0 hcc0
          gi_wp2
          exact ⟨HK3.out, rfl, KS.trans HKV.out HK3.out, _, HPRE.out, HX.out⟩
      · rcases hE2 with ⟨_, hJ3, hk3⟩ | ⟨e, _⟩
        · have HX := hid hJ3
          have HK3 := hid hk3
          clear hJ3 hk3 hyy0 hcc0
          gi_wp2
          refine ⟨HK3.out, KS.trans HKV.out HK3.out, ?_⟩
          rw [List.map_append, ← List.append_assoc]
          exact HX.out
        · cases e
    case done2 =>
      rintro ys V hys ⟨hkV, hjV⟩
      subst hys
      exact ⟨KS.trans HKU.out hkV, KS.trans HK2.out hkV, by rw [itemsL_snoc]; exact hjV⟩
    case stop2 =>
      rintro cd ys V hys ⟨hcd, hkV, pr, p1, p2⟩
      subst hcd
      gi_wp2
      exact ⟨KS.trans HKU.out hkV, rfl, pr, p1, p2⟩
  case stop =>
    rintro D c pre U hD hSp ⟨hc, pre2, hp1, hp2⟩ hKD
    subst hc
    refine wpIn_wide.2 ?_
    go_wp2
    refine ⟨by simp, .inl ⟨_, _, rfl, run_takeDeferred hKD, ?_⟩⟩
    exact ⟨.tuple #[], by simp [results, Tryd.results36, go_sem], ⟨_, rfl⟩, .inr ⟨pre2, hp1, HJX.out _ _ _ hp2 (below_putObj (Below.refl _ _) (by omega) _)⟩⟩
  case done =>
    rintro D pre U hD hS2 ⟨hk, hj⟩ hKD
    subst hS2
    go_wp2_with fail
    refine ⟨by simp, .inl ⟨_, _, rfl, run_takeDeferred hKD, ?_⟩⟩
    exact ⟨.tuple #[], by simp [results, Tryd.results36, go_sem], ⟨_, rfl⟩, .inl ⟨_, rfl, HJ.out _ _ _ hj (below_putObj (Below.refl _ _) (by omega) _)⟩⟩
end Go.Proofs.YtngokihncjkiaaaDoor
namespace Go.Proofs.YtngokihncjkiaaaDoor
open Go.RowKit Go.Shelf
attribute [local go_sem] Oper.semAt_some
theorem PAll_any (bp : Option Addr) (w : World) :
    Calls Tryd.prog 19 #[.pointer bp] w (fun e w' => e = .returned (.func (.func 36) #[] #[.pointer (some ⟨w.heap.size, 0, none⟩)]) ∧
      Below w.heap.size w w' ∧ w'.heap.size = w.heap.size + 1 ∧ w'.cell? ⟨w.heap.size, 0, none⟩ = some (.pointer bp)) := by
  go_enter Tryd.func19, Tryd.ntmps19
  go_wp2
  go_ret
  exact ⟨rfl, (Below.refl _ w).alloc (Nat.le_refl _) _, by simp, by simp [go_sem]⟩
def peekV : List (Int × Int) → Value
  | [] => .tuple #[.int .i64 0, .int .i64 0, .bool false]
  | x :: _ => .tuple #[.int .i64 x.1, .int .i64 x.2, .bool true]
/-- The three results are written. -/
theorem three_set {T : Nat → Prop} {W : World} {s : Nat} {a b c a' b' c' : Value} {t1 t2 t3 : TypeId} (h1 : Boxed W s t1 a) (h2 : Boxed W (s + 1) t2 b) (h3 : Boxed W (s + 1 + 1) t3 c) (hT1 : T s) (hT2 : T (s + 1)) (hT3 : T (s + 1 + 1)) {W' : World} (e : W' = ((W.setCell ⟨s, 0, none⟩ a').setCell ⟨s + 1, 0, none⟩ b').setCell ⟨s + 1 + 1, 0, none⟩ c') :
    KS T W W' ∧ Boxed W' s t1 a' ∧ Boxed W' (s + 1) t2 b' ∧ Boxed W' (s + 1 + 1) t3 c' := by
  subst e
  refine ⟨(((KS.refl T W).setCell hT1 0 _).setCell hT2 0 _).setCell hT3 0 _, ?_, ?_, ?_⟩
  · exact (Below.heap_setCell _ ⟨s + 1 + 1, 0, none⟩ _ s (by simp; omega)).trans ((Below.heap_setCell _ ⟨s + 1, 0, none⟩ _ s (by simp)).trans (h1.set _))
  · have g2 : Boxed (W.setCell ⟨s, 0, none⟩ a') (s + 1) t2 b := (Below.heap_setCell W ⟨s, 0, none⟩ a' (s + 1) (by simp)).trans h2
    exact (Below.heap_setCell _ ⟨s + 1 + 1, 0, none⟩ _ (s + 1) (by simp)).trans (g2.set b')
  · have g2 : Boxed (W.setCell ⟨s, 0, none⟩ a') (s + 1 + 1) t3 c := (Below.heap_setCell W ⟨s, 0, none⟩ a' (s + 1 + 1) (by simp; omega)).trans h3
    have g3 : Boxed ((W.setCell ⟨s, 0, none⟩ a').setCell ⟨s + 1, 0, none⟩ b') (s + 1 + 1) t3 c := (Below.heap_setCell _ ⟨s + 1, 0, none⟩ b' (s + 1 + 1) (by simp)).trans g2
    exact g3.set c'
set_option maxRecDepth 100000 in
set_option maxHeartbeats 4000000 in
theorem PPeek_any {B : Nat} {w : World} {b : Nat} {F : Nat → Prop} {most : Int} {tk : Nat → Int} {L : Nat → List (Int × Int)} (h : PQ B w b F most tk L) (hZ : Tz w) :
    ∃ ls : List Nat, (∀ i, i ∈ ls ↔ i < 64 ∧ L i ≠ []) ∧ ls.Pairwise (· < ·) ∧ Calls Tryd.prog 10 #[.pointer (some ⟨b, 0, none⟩)] w (Gives (peekV (itemsL L ls)) w) := by
  have HQ := hid h
  have HZ := hid hZ
  obtain ⟨s, es⟩ : ∃ s, w.heap.size = s := ⟨_, rfl⟩
  obtain ⟨w3, ew3⟩ : ∃ w3, w3 = ((w.alloc (.cells #[.int .i64 0] 3)).alloc (.cells #[.int .i64 0] 3)).alloc (.cells #[.bool false] 4) := ⟨_, rfl⟩
  have r1 := ((Boxed.new w 3 (.int .i64 0)).alloc (.cells #[.int .i64 0] 3)).alloc (.cells #[.bool false] 4)
  have r2 := (Boxed.new (w.alloc (.cells #[.int .i64 0] 3)) 3 (.int .i64 0)).alloc (.cells #[.bool false] 4)
  have r3 := Boxed.new ((w.alloc (.cells #[.int .i64 0] 3)).alloc (.cells #[.int .i64 0] 3)) 4 (.bool false)
  rw [World.size_alloc] at r2
  rw [World.size_alloc, World.size_alloc] at r3
  have hB3 : Below w.heap.size w w3 := by rw [ew3]; exact (((Below.refl _ w).alloc (Nat.le_refl _) _).alloc (by simp) _).alloc (by simp; omega) _
  have hs3 : w3.heap.size = w.heap.size + 3 := by rw [ew3]; simp
  rw [← ew3, es] at r1 r2 r3
  have EW := hid ew3
  have HALL := PAll_any (some ⟨b, 0, none⟩) w3
  -- the iterator's contract, at the world behind All
  obtain ⟨T, eT⟩ : ∃ T : Nat → Prop, T = fun k => k = s ∨ k = s + 1 ∨ k = s + 1 + 1 := ⟨_, rfl⟩
  have hT1 : T s := by rw [eT]; exact .inl rfl
  have hT2 : T (s + 1) := by rw [eT]; exact .inr (.inl rfl)
  have hT3 : T (s + 1 + 1) := by rw [eT]; exact .inr (.inr rfl)
  have hTb : ∀ k, T k → w.heap.size ≤ k ∧ k < w.heap.size + 3 := by rw [eT]; rintro k (rfl | rfl | rfl) <;> omega
  have hFs : ∀ k, F k → ¬ T k := fun k hk ht => by have := ((PQ.is).foot h hk).2; have := (hTb k ht).1; omega
  have hZT : ¬ T 0 := fun ht => by have := (hTb _ ht).1; have := hZ.lt; omega
  have key : ∀ w8 : World, Below w3.heap.size w3 w8 → w8.heap.size = w3.heap.size + 1 → w8.cell? ⟨w3.heap.size, 0, none⟩ = some (.pointer (some ⟨b, 0, none⟩)) → ∃ ls : List Nat, (∀ i, i ∈ ls ↔ i < 64 ∧ L i ≠ []) ∧ ls.Pairwise (· < ·) ∧ SeqE Fence.wide (8 - 1) Tryd.prog 36 #[.pointer (some ⟨w3.heap.size, 0, none⟩)] encP T (fun ys => ys = itemsL L ls) (fun pre => pre <+: itemsL L ls) (itemsL L ls).length w8 := fun w8 h1 h2 h3 =>
    prio_all_seq (8 - 1) (by omega) w8 w3.heap.size b B F most tk L (h.far (below_trans' hB3 h1)) T h3 (fun ht => by have := (hTb _ ht).2; omega) hFs (fun k hk => by have := (hTb k hk).2; omega) (hZ.below (below_trans' hB3 h1)) hZT
  obtain ⟨ls, hls1, hls2⟩ : ∃ ls : List Nat, (∀ i, i ∈ ls ↔ i < 64 ∧ L i ≠ []) ∧ ls.Pairwise (· < ·) := by
    obtain ⟨rp, so, n, hA, hS, hn⟩ := h
    refine ⟨bitsL so, fun i => ?_, List.Pairwise.filter _ List.pairwise_lt_range⟩
    rw [mem_bits]
    constructor
    · rintro ⟨h1, h2⟩
      rw [hS.2 i h1] at h2
      exact ⟨h1, by simpa using h2⟩
    · rintro ⟨h1, h2⟩
      exact ⟨h1, by rw [hS.2 i h1]; simpa using h2⟩
  refine ⟨ls, hls1, hls2, ?_⟩
  have HUQ := hid (fun ls' (g1 : ∀ i, i ∈ ls' ↔ i < 64 ∧ L i ≠ []) (g2 : ls'.Pairwise (· < ·)) => (show ls' = ls from
    List.Perm.eq_of_pairwise (fun a b _ _ h1 h2 => absurd (Nat.lt_trans h1 h2) (Nat.lt_irrefl a)) g2 hls2 ((List.perm_ext_iff_of_nodup (g2.imp Nat.ne_of_lt) (hls2.imp Nat.ne_of_lt)).2 fun i => (g1 i).trans (hls1 i).symm)))
  have HKEY := hid key
  clear key ew3 hFs
  refine (callsIn_wide (n := 8)).1 ?_
  refine callsIn_of_wp_marks Tryd.func10 rfl trivial ?_ rfl
  refine wpIn_wide.2 ?_
  simp only [Tryd.ntmps10, List.size_toArray, List.length_cons, List.length_nil, Nat.reduceAdd, Nat.reduceSub, Array.replicate_succ, Array.replicate_zero, List.push_toArray, List.append_toArray, List.nil_append, List.cons_append]
  go_wp2_with fail
  rw [← EW.out]
  refine HALL.mono ?_
  rintro _ w8 ⟨rfl, hb8, hs8, hx8⟩
  obtain ⟨ls', g1, g2, hseq⟩ := HKEY.out w8 hb8 hs8 hx8
  obtain rfl := HUQ.out ls' g1 g2
  have q1 : Boxed w8 s 3 (.int .i64 0) := (hb8.block _ r1.lt).trans r1
  have q2 : Boxed w8 (s + 1) 3 (.int .i64 0) := (hb8.block _ r2.lt).trans r2
  have q3 : Boxed w8 (s + 1 + 1) 4 (.bool false) := (hb8.block _ r3.lt).trans r3
  have hB8 : Below w.heap.size w w8 := below_trans' hB3 hb8
  have HT8 := hid (fun W (h : KS T w8 W) => (hB8.trans (h.under (fun k hk => (hTb k hk).1) hB8.size) : Below w.heap.size w W))
  have hTw : ∀ k, T k → k < w8.heap.size := fun k hk => by have := (hTb k hk).2; omega
  have HSEQ := hid hseq
  obtain ⟨bx, ebx⟩ : ∃ bx, w3.heap.size = bx := ⟨_, rfl⟩
  rw [ebx] at HSEQ ⊢
  clear hseq hx8 HKEY HUQ r1 r2 r3 hb8 eT g1 g2 hls1 hls2 HALL
  go_wp2_with fail
  refine (wpIn_wide (n := 8)).1 ?_
  apply wpIn_rangeFunc_E rfl (by omega) (gf := 36) (lb := #[.pointer (some ⟨bx, 0, none⟩)]) rfl trivial (enters_of Tryd.func36 (by kernel_rfl) rfl) HSEQ.out hTw (KS.refl _ _) (fun _ => rfl)
    (fun pre W => pre = [] ∧ KS T w8 W ∧ Boxed W s 3 (.int .i64 0) ∧ Boxed W (s + 1) 3 (.int .i64 0) ∧ Boxed W (s + 1 + 1) 4 (.bool false))
    (fun c pre W => c = .ret ∧ KS T w8 W ∧ ∃ x, pre = [x] ∧ Boxed W s 3 (.int .i64 x.1) ∧ Boxed W (s + 1) 3 (.int .i64 x.2) ∧ Boxed W (s + 1 + 1) 4 (.bool true))
    (fun _ _ _ h hb => ⟨h.1, h.2.1.far hb, (hb.block _ q1.lt).trans h.2.2.1, (hb.block _ q2.lt).trans h.2.2.2.1, (hb.block _ q3.lt).trans h.2.2.2.2⟩)
    (fun _ _ _ _ h hb => ⟨h.1, h.2.1.far hb, by obtain ⟨x, h1, h2, h3, h4⟩ := h.2.2; exact ⟨x, h1, (hb.block _ q1.lt).trans h2, (hb.block _ q2.lt).trans h3, (hb.block _ q3.lt).trans h4⟩⟩)
    ⟨rfl, KS.refl _ _, q1, q2, q3⟩ _ ?assign ?body ?done ?stop
  case assign =>
    intro lq x W K hK
    simp only [encP]
    gi_wp2
    exact hK
  case body =>
    rintro lq pre ⟨xl, xv⟩ W hsW ⟨hpre, hks, p1, p2, p3⟩ hlen hsp
    subst hpre
    have c1 := p1.cell
    have c2 := p2.cell
    have c3 := p3.cell
    have f1 := p1.frozen
    have f2 := p2.frozen
    have f3 := p3.frozen
    have l1 := p1.lt
    have l2 := p2.lt
    have l3 := p3.lt
    have HKS := hid hks
    have P1 := hid p1
    have P2 := hid p2
    have P3 := hid p3
    clear hks p1 p2 p3 HSEQ hsp hlen
    gi_wp2
    obtain ⟨W', eW'⟩ : ∃ W', W' = ((W.setCell ⟨s, 0, none⟩ (.int .i64 xl)).setCell ⟨s + 1, 0, none⟩ (.int .i64 xv)).setCell ⟨s + 1 + 1, 0, none⟩ (.bool true) := ⟨_, rfl⟩
    obtain ⟨hk, b1, b2, b3⟩ := three_set P1.out P2.out P3.out hT1 hT2 hT3 eW'
    rw [← eW']
    exact ⟨hk, rfl, KS.trans HKS.out hk, _, rfl, b1, b2, b3⟩
  case stop =>
    rintro D c pre W hD hSp ⟨hc, hks, x, hpre, p1, p2, p3⟩ hKD
    subst hc
    subst hpre
    obtain ⟨tl, etl⟩ := hSp
    have hD2 : s + 1 + 1 < D := by have := q3.lt; omega
    have z1 : (W.putObj D (.deferred none)).cell? ⟨s, 0, none⟩ = some (.int .i64 x.1) := Boxed.cell (show Boxed _ _ 3 _ from (World.putObj_heap_other (by omega)).trans p1)
    have z2 : (W.putObj D (.deferred none)).cell? ⟨s + 1, 0, none⟩ = some (.int .i64 x.2) := Boxed.cell (show Boxed _ _ 3 _ from (World.putObj_heap_other (by omega)).trans p2)
    have z3 : (W.putObj D (.deferred none)).cell? ⟨s + 1 + 1, 0, none⟩ = some (.bool true) := Boxed.cell (show Boxed _ _ 4 _ from (World.putObj_heap_other (by omega)).trans p3)
    have hBx := below_putObj (HT8.out W hks) (show w.heap.size ≤ D by have := hB8.size; omega) (.deferred none)
    have hpk : peekV (itemsL L ls') = .tuple #[.int .i64 x.1, .int .i64 x.2, .bool true] := by rw [← etl]; rfl
    refine wpIn_wide.2 ?_
    go_wp2
    refine ⟨by simp, .inl ⟨_, _, rfl, run_takeDeferred hKD, ?_⟩⟩
    exact ⟨.tuple #[.int .i64 x.1, .int .i64 x.2, .bool true], by simp [results, Tryd.results10, go_sem, z1, z2, z3], Gives.mk (by rw [hpk]) hBx⟩
  case done =>
    rintro D pre W hD hS ⟨hpre, hks, p1, p2, p3⟩ hKD
    subst hpre
    have c1 := p1.cell
    have c2 := p2.cell
    have c3 := p3.cell
    have f1 := p1.frozen
    have f2 := p2.frozen
    have f3 := p3.frozen
    have l1 := p1.lt
    have l2 := p2.lt
    have l3 := p3.lt
    have HKS := hid hks
    have P1 := hid p1
    have P2 := hid p2
    have P3 := hid p3
    have HKD := hid hKD
    have hD2 : s + 1 + 1 < D := by have := q3.lt; omega
    have HPK := hid (show peekV (itemsL L ls') = .tuple #[.int .i64 0, .int .i64 0, .bool false] by rw [← hS]; rfl)
    have HDW := hid (show w.heap.size ≤ D by have := hB8.size; omega)
    clear hks p1 p2 p3 HSEQ hS hKD
    go_wp2_with fail
    obtain ⟨W', eW'⟩ : ∃ W', W' = ((W.setCell ⟨s, 0, none⟩ (.int .i64 0)).setCell ⟨s + 1, 0, none⟩ (.int .i64 0)).setCell ⟨s + 1 + 1, 0, none⟩ (.bool false) := ⟨_, rfl⟩
    obtain ⟨hk, b1, b2, b3⟩ := three_set P1.out P2.out P3.out hT1 hT2 hT3 eW'
    have hKD' : W'.heap[D]? = some (.deferred (some [])) := by
      rw [eW']
      exact (Below.heap_setCell _ ⟨s + 1 + 1, 0, none⟩ _ D (by simp; omega)).trans ((Below.heap_setCell _ ⟨s + 1, 0, none⟩ _ D (by simp; omega)).trans ((Below.heap_setCell _ ⟨s, 0, none⟩ _ D (by simp; omega)).trans HKD.out))
    rw [← eW']
    have z1 : (W'.putObj D (.deferred none)).cell? ⟨s, 0, none⟩ = some (.int .i64 0) := Boxed.cell (show Boxed _ _ 3 _ from (World.putObj_heap_other (by omega)).trans b1)
    have z2 : (W'.putObj D (.deferred none)).cell? ⟨s + 1, 0, none⟩ = some (.int .i64 0) := Boxed.cell (show Boxed _ _ 3 _ from (World.putObj_heap_other (by omega)).trans b2)
    have z3 : (W'.putObj D (.deferred none)).cell? ⟨s + 1 + 1, 0, none⟩ = some (.bool false) := Boxed.cell (show Boxed _ _ 4 _ from (World.putObj_heap_other (by omega)).trans b3)
    have hBx := below_putObj (HT8.out W' (KS.trans HKS.out hk)) HDW.out (.deferred none)
    clear c1 c2 c3 f1 f2 f3 eW'
    refine ⟨by simp, .inl ⟨_, _, rfl, run_takeDeferred hKD', ?_⟩⟩
    exact ⟨.tuple #[.int .i64 0, .int .i64 0, .bool false], by simp [results, Tryd.results10, go_sem, z1, z2, z3], Gives.mk (by rw [HPK.out]) hBx⟩
end Go.Proofs.YtngokihncjkiaaaDoor
