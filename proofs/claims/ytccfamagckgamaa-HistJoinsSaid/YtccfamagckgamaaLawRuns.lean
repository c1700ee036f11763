/-
  Layer 34's HistRuns: whatever comes, however often, all that is told of it is the document's. No condition.
-/
import Derived.Test.YtccfamagckgamaaHisJ
import Derived.Deep.RegionHeld3
namespace Go.Proofs.Ytccfamagckgamaa
open Go.RowKit Go.ChangeShapes Go.WideShapes Go.ChangeAt
theorem zero_ref_info : (Try.prog.info? 39).map (fun i => i.zero) = some (some (.agg #[.slice none 0 0])) := by kernel_rfl
/-- A new object of the document's. -/
theorem ref_new (B : Nat) (w : World) (hB : B ≤ w.heap.size) : RefAt B (w.alloc (.cells #[.slice none 0 0] 39)) w.heap.size [] :=
  ⟨hB, none, 0, Rec.new w _ _, rfl, .inl ⟨rfl, rfl⟩⟩
/-- Both objects, and the number that comes. -/
structure Both (w : World) (bh bw g : Nat) (L M : List Cm) (x : Cm) (W : World) : Prop where
  his : HisAt W bh L
  ref : RefAt w.heap.size W bw M
  below : Below w.heap.size w W
  box : Rec W g 29 #[.int .u64 x.1, .int .i64 x.2]
theorem Both.c0 {w : World} {bh bw g : Nat} {L M : List Cm} {x : Cm} {W : World} (h : Both w bh bw g L M x W) : W.cell? ⟨g, 0, none⟩ = some (.int .u64 x.1) := by rw [Rec.cell h.box]; rfl
theorem Both.c1 {w : World} {bh bw g : Nat} {L M : List Cm} {x : Cm} {W : World} (h : Both w bh bw g L M x W) : W.cell? ⟨g, 1, none⟩ = some (.int .i64 x.2) := by rw [Rec.cell h.box]; rfl
theorem Both.drew {w : World} {bh bw g : Nat} {L M : List Cm} {x : Cm} {W : World} (h : Both w bh bw g L M x W) : Both w bh bw g L M x W.drew :=
  ⟨h.his, h.ref.below (Below.refl _ _).drew, h.below.drew, h.box⟩
theorem both_add {w : World} {bh bw g : Nat} {L M : List Cm} {x : Cm} (hL : OkL L) (hn : U64 x.1) (ht : I64 x.2) (hbh : w.heap.size ≤ bh) (hg : g ≠ bh) (W : World) (h : Both w bh bw g L M x W) :
    Calls Try.prog 8 #[.pointer (some ⟨bh, 0, none⟩), .int .u64 x.1, .int .i64 x.2] W (fun e W' => e = .returned (.bool (addOk L x)) ∧ Both w bh bw g (addL L x) M x W' ∧ W'.cell? ⟨g, 0, none⟩ = some (.int .u64 x.1) ∧ W'.cell? ⟨g, 1, none⟩ = some (.int .i64 x.2)) :=
  (Add_any' bh L hL x.1 x.2 hn ht W h.his).mono fun _ _ ⟨h1, h2, h3⟩ =>
    have hb : Both w bh bw g (addL L x) M x _ := ⟨h2, h.ref.kept h3 h.his, h3.to_below h.below h.below.size (fun k hk => by subst hk; exact hbh), h.box.kept h3 hg⟩
    ⟨h1, hb, hb.c0, hb.c1⟩
theorem both_ref {w : World} {bh bw g : Nat} {L M : List Cm} {x : Cm} (hM : OkL M) (hne : bh ≠ bw) (hg : g ≠ bw) (W : World) (h : Both w bh bw g L M x W) :
    Calls Try.prog 12 #[.pointer (some ⟨bw, 0, none⟩), .int .u64 x.1, .int .i64 x.2] W (fun e W' => e = .returned (.bool (addOk M x)) ∧ Both w bh bw g L (addL M x) x W' ∧ W'.cell? ⟨g, 0, none⟩ = some (.int .u64 x.1) ∧ W'.cell? ⟨g, 1, none⟩ = some (.int .i64 x.2)) :=
  (RAdd_ref w.heap.size bw M hM x.1 x.2 W h.ref h.below.size).mono fun _ _ ⟨h1, h2, h3, h4⟩ =>
    have hb : Both w bh bw g L (addL M x) x _ := ⟨h4 bh _ _ h.his hne (by decide), h2, h.below.trans h3, h4 g _ _ h.box hg (by decide)⟩
    ⟨h1, hb, hb.c0, hb.c1⟩
set_option maxHeartbeats 1000000 in
theorem HistRuns_any (A : Option Addr) (ca n : Nat) (l : List Cm) (en : l.length = n) (hmx : n ≤ maxLen) (hl : ∀ x ∈ l, U64 x.1 ∧ I64 x.2) (a b : Int) (ha : I64 a) (hb : I64 b) (w : World) (hc : Cells w A (tab cmV l)) :
    Calls Try.prog 4 #[.slice A n ca, .int .i64 a, .int .i64 b] w (Gives (.bool true) w) := by
  have HAW := hid (awake_any w)
  by_cases h40 : 40 < n
  · clear en hl hc
    go_enter Try.func4, Try.ntmps4
    go_wp2_with ((go_at_call 6; refine (HAW.out).mono ?_; rintro _ _ ⟨rfl, _, rfl⟩))
    go_ret
    exact Gives.mk rfl (World.below_past _ _)
  · have EN := hid en
    have HL := hid hl
    have HC := hid hc
    clear en hl hc
    go_enter Try.func4, Try.ntmps4
    go_wp2_with (first | (go_at_call 6; refine HAW.out.mono ?_; rintro _ _ ⟨rfl, x0, rfl⟩) | (go_at_call 7; refine (New_ex _).mono ?_; rintro _ w1 ⟨bh, rfl, hbh0, h1, hb1⟩))
    have hbh : w.heap.size ≤ bh := by simp [go_sem] at hbh0; omega
    have hB1 : Below w.heap.size w w1 := (w.below_past x0).trans (hb1.mono (by simp [go_sem]))
    have hlt1 := Rec.lt h1
    have J1 := hid (show HisAt (w1.alloc (.cells #[.slice none 0 0] 39)) bh (runL l 0) from h1.alloc _)
    have J2 := hid (show RefAt w.heap.size (w1.alloc (.cells #[.slice none 0 0] 39)) w1.heap.size (runL l 0) from ref_new _ w1 hB1.size)
    have JB := hid (hB1.alloc hB1.size (.cells #[.slice none 0 0] 39))
    obtain ⟨bw, ebw⟩ : ∃ bw, w1.heap.size = bw := ⟨_, rfl⟩
    have hne : bh ≠ bw := by omega
    rw [ebw] at J2
    clear h1 hb1 hB1 hbh0 hlt1
    rw [ebw]
    clear ebw
    go_loopw [21] (fun i wr => ∃ (k : Nat), i = .int .i64 k ∧ k ≤ n ∧ Hid (HisAt wr bh (runL l k)) ∧ Hid (RefAt w.heap.size wr bw (runL l k)) ∧ Hid (Below w.heap.size w wr)) (fun i _ => n - numOf i)
    case atStart => exact ⟨0, rfl, by omega, J1, J2, JB⟩
    case round =>
      clear J1 J2 JB
      obtain ⟨k, rfl, hk, HH, HR, HB⟩ := hrel
      by_cases hlt : k < n
      · obtain ⟨b1, o1, rfl, c0, c1⟩ := cm_at (HC.out.below HB.out) (show k < l.length by rw [EN.out]; exact hlt)
        have hx := cm_ok HL.out k
        have HRUN := hid (show runL l (k + 1) = addL (runL l k) (cm l k) from rfl)
        have hok := run_ok HL.out k
        generalize runL l k = L at HH HR HRUN hok
        generalize cm l k = x at c0 c1 hx HRUN
        obtain ⟨xn, xt⟩ := x
        simp only at c0 c1 hx
        have hlth := Rec.lt HH.out
        obtain ⟨A0, c00, hrw, _⟩ := HR.out.ex
        have hltw := Rec.lt hrw
        obtain ⟨W9, eW9⟩ : ∃ W9, W9 = wr.alloc (.cells #[.int .u64 xn, .int .i64 xt] 29) := ⟨_, rfl⟩
        have B9 : Both w bh bw wr.heap.size L L (xn, xt) W9 := ⟨by rw [eW9]; exact Rec.alloc HH.out _, by rw [eW9]; exact HR.out.below ((Below.refl _ _).alloc (Nat.le_refl _) _), by rw [eW9]; exact HB.out.alloc HB.out.size _, by rw [eW9]; exact Rec.new wr _ _⟩
        have K1 := hid (fun W h => both_add (w := w) (bh := bh) (bw := bw) (g := wr.heap.size) (L := L) (M := L) (x := (xn, xt)) hok hx.1 hx.2 hbh (by omega) W h)
        have K2 := hid (fun W h => both_ref (w := w) (bh := bh) (bw := bw) (g := wr.heap.size) (L := addL L (xn, xt)) (M := L) (x := (xn, xt)) hok hne (by omega) W h)
        have K3 := hid (fun W => Place_any xn hx.1 W)
        have K4 := hid (fun W => RPlace_any xn hx.1 W)
        have d0 := B9.c0
        have d1 := B9.c1
        have BD := hid B9.drew
        have EW9 := hid eW9
        have HN := hid hne
        clear hx hok hrw B9 eW9 hne
        go_wp2
        rw [← EW9.out]
        obtain ⟨ok, eok⟩ : ∃ ok, addOk L (xn, xt) = ok := ⟨_, rfl⟩
        rw [eok] at K1 K2
        obtain ⟨pl, epl⟩ : ∃ pl, placeF xn = pl := ⟨_, rfl⟩
        rw [epl] at K3 K4
        clear eok epl
        go_region_held3 (fun w' => w'.cell? ⟨wr.heap.size, 0, none⟩ = some (.int .u64 xn) ∧ w'.cell? ⟨wr.heap.size, 1, none⟩ = some (.int .i64 xt)) (simp [go_sem, *]) (first | (go_at_call 8; refine (K1.out _ BD.out).mono ?_; rintro _ w5 ⟨rfl, B5, c50, c51⟩) | (go_at_call 12; refine (K2.out _ B5).mono ?_; rintro _ w6 ⟨rfl, B6, c60, c61⟩) | (go_at_call 11; refine (K3.out _).mono ?_; rintro _ _ ⟨rfl, y1, rfl⟩) | (go_at_call 13; refine (K4.out _).mono ?_; rintro _ _ ⟨rfl, y2, rfl⟩))
        have BR := hid B6
        clear B6 B5 c50 c51 c60 c61 c0 c1 d0 d1
        go_wp2
        go_roundw
        case rel => exact ⟨k + 1, by go_num, by omega, hid (by rw [HRUN.out]; exact Rec.past BR.out.his _), hid (by rw [HRUN.out]; exact BR.out.ref.below (World.below_past _ _)), hid (BR.out.below.trans ((World.below_past _ _).mono BR.out.below.size))⟩
        case measure => simp [numOf]; omega
      · obtain rfl : k = n := by omega
        have HS := hid (same_any bh bw (runL l k) (run_ok HL.out k) a b ha hb wr HH.out HR.out.read)
        go_wp2_with (go_at_call 14; refine HS.out.mono ?_; rintro _ _ ⟨rfl, x1, rfl⟩)
        go_ret
        exact Gives.mk rfl (HB.out.trans ((wr.below_past _).mono HB.out.size))
theorem histRuns_own : ownKnob Try.prog.godebug = none := by kernel_rfl
theorem histRuns_laidOut : laidOutB Try.prog = true := by kernel_rfl
theorem histRuns_types : ∀ t ∈ Try.f4.params.toList, Try.prog.readableRec t = true ∧ t < Try.prog.types.size := by
  rw [Try.params4]
  intro t ht
  simp only [List.mem_cons, List.not_mem_nil, or_false] at ht
  rcases ht with rfl | rfl | rfl
  · exact ⟨by kernel_rfl, of_decide_eq_true (by kernel_rfl)⟩
  · exact ⟨by kernel_rfl, of_decide_eq_true (by kernel_rfl)⟩
  · exact ⟨by kernel_rfl, of_decide_eq_true (by kernel_rfl)⟩
set_option maxRecDepth 100000 in
theorem histRuns_lifted (os : Os) (started : os.Started) (H : Type) (enc : TypeId × Value → H) :
    ReturnsInHanded {} Try.checked os 4 .any (Rows.histRunsSpec.pre6 enc Try.prog Try.f4 Rows.histRunsRow.domain false) (Rows.histRunsSpec.post enc Try.prog Try.f4 false true false false) := by
  refine returnsInHanded_of_change (C := Try.checked) histRuns_own started (by kernel_rfl) Try.func4
    (ChangeSpec.witness6 (enc := enc) (C := Try.checked) false ⟨#[], #[.slice none 0 0, .int .i64 0, .int .i64 0], []⟩ 8 (by kernel_rfl) (by kernel_rfl) (by kernel_rfl) (by kernel_rfl)) ?_
  intro W base args ds gs before hval0 hW hcnd _
  have hval : ∀ (j : Nat) t v, Try.f4.params[j]? = some t → args[j]? = some v → Value.okWide Try.prog W .any base t v := hval0
  have hW' := hW
  obtain ⟨p, q, hA0, hV, hpq, hfz, hnd⟩ := hW
  have hA : DataW.TrodAll enc Try.prog W 0 (fun _ => true) true Try.f4.params.toList args.toList ds p := hA0
  rw [Try.params4] at hA hval
  obtain ⟨v0, vs0, d0, ds0, p0, q0, hargs, rfl, rfl, h0, r0⟩ := trodAll_cons hA
  obtain ⟨v1, vs1, d1, ds1, p1, q1, rfl, rfl, rfl, h1, r1⟩ := trodAll_cons r0
  obtain ⟨v2, vs2, d2, ds2, p2, q2, rfl, rfl, rfl, h2, r2⟩ := trodAll_cons r1
  obtain ⟨rfl, rfl, rfl⟩ := trodAll_nil r2
  obtain rfl : args = #[v0, v1, v2] := by cases args; simp_all
  have k0 := hval 0 22 v0 rfl rfl
  have k1 := hval 1 3 v1 rfl rfl
  have k2 := hval 2 3 v2 rfl rfl
  clear hA0 hval0 hval hcnd hfz hnd hpq hV hargs r2
  suffices hs : Calls Try.prog 4 #[v0, v1, v2] W (Gives (.bool true) W) from hs.mono fun e W' ⟨he, x, hx⟩ => ⟨_, he, law_post histRuns_laidOut hW' rfl rfl (by kernel_rfl) (by first | exact Try.underlying4 | rfl) histRuns_types (hx ▸ W.below_past x)⟩
  clear hW'
  obtain ⟨A, ca, l, rfl, ha, hK, hl⟩ := rd_tab cmV_length (by omega) (rd_slice Try.underlying22 k0 h0) Try.underlying22 c_came rd_cm
  obtain ⟨x1, rfl, _, _, w1⟩ := open_int Try.underlying3 k1 h1
  obtain ⟨x2, rfl, _, _, w2⟩ := open_int Try.underlying3 k2 h2
  exact HistRuns_any A ca _ l rfl hl hK x1 x2 (i64_of w1) (i64_of w2) W ha
theorem histRuns_holds : Rows.HistRunsSaid :=
  OpenClaim.holds_of_wide 4 Try.f4 rfl rfl rfl rfl rfl rfl rfl ⟨rfl, rfl, rfl, rfl, rfl⟩ rfl rfl rfl rfl rfl (by kernel_rfl) Try.func4 (by kernel_rfl)
    (of_decide_eq_true (by kernel_rfl)) (by unfold Func.isWrapper; first | (rw [if_pos (by decide +kernel)]; kernel_rfl) | (rw [if_neg (by decide +kernel)]; exact ⟨rfl, rfl⟩))
    (fun os started H enc _ => histRuns_lifted os started H enc)
end Go.Proofs.Ytccfamagckgamaa
