/-
  Layer 33's SpanGaps: the first gap is in no span, and all ahead of it is in one; it ends where it was asked to, or where a span begins. No condition.
-/
import Derived.Test.YtjihhpipdhhjkaaSpX
namespace Go.Proofs.Ytjihhpipdhhjkaa
open Go.RowKit Go.ChangeShapes Go.WideShapes Go.ChangeAt
attribute [local go_sem] Oper.semAt_some
theorem add_ok {L : List (Int × Int)} (h : Good L) (low high : Int) : Good (addL L low high) ∧ (addL L low high).length ≤ L.length + 1 ∧ (∀ x, Mem (addL L low high) x ↔ Mem L x ∨ (low < high ∧ low ≤ x ∧ x < high)) := by
  by_cases hlt : low < high
  · obtain ⟨h1, h2, h3⟩ := add_good h hlt
    refine ⟨h1, h3, fun x => ?_⟩
    rw [h2]; simp [hlt]
  · have e : addL L low high = L := by unfold addL ltV; rw [if_neg (by simpa using hlt)]
    rw [e]
    exact ⟨h, by omega, fun x => by simp [hlt]⟩
set_option maxRecDepth 100000 in
set_option maxHeartbeats 8000000 in
theorem SpanGaps_any (A : Option Addr) (ca n : Nat) (l : List Dd) (en : l.length = n) (hn : n ≤ maxLen) (low high : Int) (w : World) (ha : Cells w A (tab ddV l)) :
    Calls Try.prog 3 #[.slice A n ca, .int .i64 low, .int .i64 high] w (Gives (.bool true) w) := by
  have HAW := hid (awake_any w)
  have HA := hid ha
  have EN := hid en
  have HFW := hid (fun W (hW : Below w.heap.size w W) => few_any A ca n l en hn W (ha.below hW))
  clear ha
  by_cases hg : fewB l = true ∧ -200 ≤ low ∧ high ≤ 200 ∧ low < high
  · obtain ⟨g1, g2, g3, g4⟩ := hg
    have hf := g1
    unfold fewB at hf
    have hf := of_decide_eq_true hf
    have hn60 : n ≤ 60 := by rw [← en]; exact hf.1
    rw [g1] at HFW
    have HG4 := hid g4
    clear g1 hf en hn
    go_enter Try.func3, Try.ntmps3
    go_upto_region 5 with (first | (refine HAW.out.mono ?_; rintro _ _ ⟨rfl, x0, rfl⟩) | (go_at_call 7; refine (HFW.out _ (by (repeat (first | exact Below.refl _ _ | refine RowKit.Below.past ?_ _ | refine RowKit.Below.alloc' ?_ _ | refine RowKit.Below.drew' ?_ | refine RowKit.Below.drewN' ?_ _ | refine RowKit.Below.setCell' ?_ (by simp [go_sem]) _)))).mono ?_; rintro _ _ ⟨rfl, x1, rfl⟩))
    obtain ⟨w1, ew1⟩ : ∃ W, W = w.past (x0.and x1) := ⟨_, rfl⟩
    have HB1 := hid (show Below w.heap.size w w1 by rw [ew1]; exact w.below_past _)
    rw [← ew1]
    clear ew1
    go_wp2_with fail
    refine (New_any w1).mono ?_
    rintro _ w2 ⟨rfl, h2, hb2⟩
    have HS2 := hid h2
    have HB2 := hid hb2
    obtain ⟨b, eb⟩ : ∃ b, w1.heap.size = b := ⟨_, rfl⟩
    rw [eb] at HS2 HB2 ⊢
    have hwb : w.heap.size ≤ b := by rw [← eb]; exact HB1.out.size
    have EB := hid eb
    clear eb h2 hb2
    go_wp2_with fail
    go_loopw [9, 35] (fun _ i wr => ∃ (k : Nat) (L : List (Int × Int)), i = .int .i64 (k : Int) ∧ k ≤ n ∧ Hid (SpAt b wr b L) ∧ Hid (Good L ∧ L.length ≤ k) ∧ Hid (Below b w1 wr)) (fun _ i _ => n - natI i)
    case atStart => exact ⟨0, [], rfl, by omega, HS2, hid ⟨good_nil, by simp⟩, HB2⟩
    case round =>
      clear HS2 HB2
      obtain ⟨k, L, rfl, hk, HS, HL, HB⟩ := hrel
      have HBW := hid (HB1.out.trans (HB.out.mono hwb))
      by_cases hlt : k < n
      · obtain ⟨g, o, rfl, c0, c1, c2⟩ := dd_at (HA.out.below HBW.out) (k := k) (by rw [EN.out]; exact hlt)
        obtain ⟨d, ed⟩ : ∃ d, dd l k = d := ⟨_, rfl⟩
        rw [ed] at c0 c1 c2
        clear ed
        obtain ⟨a1, a2, _⟩ := add_ok HL.out.1 d.a d.b
        have HAD := hid (fun o => Add_any (HS.out.far ((Below.refl _ wr).alloc (Nat.le_refl _) o)) d.a d.b (by have := HL.out.2; omega))
        have HN := hid (And.intro a1 (show (addL L d.a d.b).length ≤ k + 1 by have := HL.out.2; omega))
        have hbs : b ≤ wr.heap.size := Nat.le_of_lt HS.out.lt
        clear a1 a2
        go_wp2_with (go_at_call 9; refine (HAD.out _).mono ?_; rintro _ w5 ⟨rfl, h5, hb5, -⟩; have HS5 := hid h5; have HB5 := hid ((HB.out.alloc hbs _).trans hb5); clear h5 hb5)
        go_roundw
        case rel => exact ⟨k + 1, _, by go_num, by omega, HS5, HN, HB5⟩
        case measure => simp [natI]; omega
      · obtain rfl : k = n := by omega
        have HGI := hid (gap_spec HL.out.1 HG4.out)
        have HGP := hid (Gap_any HS.out low high)
        have HHS := hid (fun W (hW : Below wr.heap.size wr W) x => Has_any (HS.out.far hW) x)
        have HHM := hid (fun x => has_mem HL.out.1 x)
        obtain ⟨⟨a, c, ok⟩, eg⟩ : ∃ g, gapV L low high = g := ⟨_, rfl⟩
        rw [eg] at HGI HGP
        clear eg
        have HA2 : Hid (∃ a2 c2, (ok = false → a2 = high ∧ c2 = high) ∧ (ok = true → a2 = a ∧ c2 = c) ∧ low ≤ a2 ∧ a2 ≤ c2 ∧ c2 ≤ high ∧ (∀ x, low ≤ x → x < c2 → hasV L x = decide (x < a2)) ∧ (c2 = high ∨ hasV L c2 = true)) := hid (by
          rcases HGI.out with ⟨h1, h2, h3, h4⟩ | ⟨h1, h2, h3, h4, h5, h6, h7⟩
          · simp only at h1
            refine ⟨high, high, fun _ => ⟨rfl, rfl⟩, fun e => (by rw [h1] at e; cases e), by omega, Int.le_refl _, Int.le_refl _, fun x g5 g6 => ?_, .inl rfl⟩
            rw [(HHM.out x).2 (h4 x g5 g6)]
            simp; omega
          · simp only at h1 h2 h3 h4 h5 h6 h7
            refine ⟨a, c, fun e => (by rw [h1] at e; cases e), fun _ => ⟨rfl, rfl⟩, h2, by omega, h4, fun x g5 g6 => ?_, ?_⟩
            · by_cases hx : x < a
              · rw [(HHM.out x).2 (h5 x g5 hx)]; simp [hx]
              · have : hasV L x = false := by
                  cases e : hasV L x with
                  | false => rfl
                  | true => exact (h6 x (by omega) g6 ((HHM.out x).1 e)).elim
                rw [this]; simp; omega
            · rcases h7 with h7 | h7
              · exact .inl h7
              · exact .inr ((HHM.out c).2 h7))
        have hokF : ok = true → low ≤ a ∧ a < c ∧ c ≤ high := fun e => by
          rcases HGI.out with ⟨h1, _⟩ | ⟨h1, h2, h3, h4, _⟩
          · simp only at h1; rw [e] at h1; cases h1
          · exact ⟨h2, h3, h4⟩
        have HOK := hid hokF
        have HFIN := hid (HB1.out.trans (HB.out.mono hwb))
        clear hokF
        obtain ⟨a2, c2, q1, q2, q3, q4, q5, q6, q7⟩ := HA2.out
        have HQ6 := hid q6
        have HQ7 := hid q7
        have HQ1 := hid q1
        have HQ2 := hid q2
        clear q6 q7 q1 q2 HA2
        cases ok with
        | false =>
          obtain ⟨e1, e2⟩ := HQ1.out rfl
          subst e1; subst e2
          go_upto_block 1 with (go_at_call 10; refine HGP.out.mono ?_; rintro _ _ ⟨rfl, x4, rfl⟩)
          go_wp2_with fail
          go_loopw [13] (fun i wx => ∃ (y : Int) (x : Past), i = .int .i64 y ∧ low ≤ y ∧ y ≤ c2 ∧ wx = wr.past x) (fun i _ => (c2 - intZ i).toNat)
          case atStart => exact ⟨low, _, rfl, Int.le_refl _, by omega, rfl⟩
          case round =>
            obtain ⟨y, x, rfl, hy1, hy2, rfl⟩ := hrel
            have HX := hid (HHS.out _ (wr.below_past x) y)
            by_cases hy : y < c2
            · have e := HQ6.out y hy1 hy
              rw [e] at HX
              clear e
              have hd : decide (y < c2) = true := by simpa using hy
              all_goals
                rw [hd] at HX
                go_wp2_with (go_at_call 11; refine HX.out.mono ?_; rintro _ _ ⟨rfl, x6, rfl⟩)
                go_roundw
                case rel => exact ⟨y + 1, _, rfl, by omega, by omega, rfl⟩
                case measure => simp [intZ]; omega
            · obtain rfl : c2 = y := by omega
              have h7 := HQ7.out
              obtain ⟨hb, ehb⟩ : ∃ z, hasV L c2 = z := ⟨_, rfl⟩
              rw [ehb] at HX h7
              have hcase : c2 = c2 ∨ (¬ c2 = c2 ∧ hb = true) := by
                by_cases e : c2 = c2
                · exact .inl e
                · rcases h7 with h7 | h7
                  · exact (e (by first | exact h7 | rfl)).elim
                  · exact .inr ⟨e, h7⟩
              clear h7 ehb
              rcases hcase with e1 | ⟨e1, rfl⟩
              · have hbq : (c2 == c2) = true := by simp
                clear e1
                go_wp2_with fail
                go_ret
                exact Gives.mk rfl (HFIN.out.trans ((wr.below_past _).mono HFIN.out.size))
              · exact (e1 rfl).elim
        | true =>
          obtain ⟨e1, e2⟩ := HQ2.out rfl
          subst e1; subst e2
          obtain ⟨p1, p2, p3⟩ := HOK.out rfl
          go_upto_block 1 with (go_at_call 10; refine HGP.out.mono ?_; rintro _ _ ⟨rfl, x4, rfl⟩)
          go_wp2_with fail
          go_loopw [13] (fun i wx => ∃ (y : Int) (x : Past), i = .int .i64 y ∧ low ≤ y ∧ y ≤ c2 ∧ wx = wr.past x) (fun i _ => (c2 - intZ i).toNat)
          case atStart => exact ⟨low, _, rfl, Int.le_refl _, by omega, rfl⟩
          case round =>
            obtain ⟨y, x, rfl, hy1, hy2, rfl⟩ := hrel
            have HX := hid (HHS.out _ (wr.below_past x) y)
            by_cases hy : y < c2
            · have e := HQ6.out y hy1 hy
              rw [e] at HX
              clear e
              rcases dec_cases (y < a2) with hd | hd
              all_goals
                rw [hd] at HX
                go_wp2_with (go_at_call 11; refine HX.out.mono ?_; rintro _ _ ⟨rfl, x6, rfl⟩)
                go_roundw
                case rel => exact ⟨y + 1, _, rfl, by omega, by omega, rfl⟩
                case measure => simp [intZ]; omega
            · obtain rfl : c2 = y := by omega
              have h7 := HQ7.out
              obtain ⟨hb, ehb⟩ : ∃ z, hasV L c2 = z := ⟨_, rfl⟩
              rw [ehb] at HX h7
              have hcase : c2 = high ∨ (¬ c2 = high ∧ hb = true) := by
                by_cases e : c2 = high
                · exact .inl e
                · rcases h7 with h7 | h7
                  · exact (e (by first | exact h7 | rfl)).elim
                  · exact .inr ⟨e, h7⟩
              clear h7 ehb
              rcases hcase with e1 | ⟨e1, rfl⟩
              · have hbq : (c2 == high) = true := by simpa using e1
                clear e1
                go_wp2_with fail
                go_ret
                exact Gives.mk rfl (HFIN.out.trans ((wr.below_past _).mono HFIN.out.size))
              · have hbq : (c2 == high) = false := by simpa using e1
                clear e1
                go_wp2_with (go_at_call 11; refine HX.out.mono ?_; rintro _ _ ⟨rfl, x6, rfl⟩)
                go_ret
                exact Gives.mk rfl (HFIN.out.trans ((wr.below_past _).mono HFIN.out.size))
  · have hcase : fewB l = false ∨ (fewB l = true ∧ low < -200) ∨ (fewB l = true ∧ -200 ≤ low ∧ 200 < high) ∨ (fewB l = true ∧ -200 ≤ low ∧ high ≤ 200 ∧ high ≤ low) := by
      cases e : fewB l with
      | false => exact .inl rfl
      | true =>
        by_cases a1 : low < -200
        · exact .inr (.inl ⟨rfl, a1⟩)
        · by_cases a2 : 200 < high
          · exact .inr (.inr (.inl ⟨rfl, by omega, a2⟩))
          · exact .inr (.inr (.inr ⟨rfl, by omega, by omega, by
              rcases Int.lt_or_le low high with g | g
              · exact (hg ⟨e, by omega, by omega, g⟩).elim
              · exact g⟩))
    clear hg en hn
    rcases hcase with h | ⟨h, h1⟩ | ⟨h, h1, h2⟩ | ⟨h, h1, h2, h3⟩
    all_goals
      rw [h] at HFW
      clear h
      go_enter Try.func3, Try.ntmps3
      go_wp2_with (first | (refine HAW.out.mono ?_; rintro _ _ ⟨rfl, x0, rfl⟩) | (go_at_call 7; refine (HFW.out _ (by (repeat (first | exact Below.refl _ _ | refine RowKit.Below.past ?_ _ | refine RowKit.Below.alloc' ?_ _ | refine RowKit.Below.drew' ?_ | refine RowKit.Below.drewN' ?_ _ | refine RowKit.Below.setCell' ?_ (by simp [go_sem]) _)))).mono ?_; rintro _ _ ⟨rfl, x1, rfl⟩))
      go_ret
      exact Gives.mk rfl (by (repeat (first | exact Below.refl _ _ | refine RowKit.Below.past ?_ _ | refine RowKit.Below.alloc' ?_ _ | refine RowKit.Below.drew' ?_ | refine RowKit.Below.drewN' ?_ _ | refine RowKit.Below.setCell' ?_ (by simp [go_sem]) _)))
theorem c_deed3 : Try.prog.cellsOf 28 = 3 := by kernel_rfl
theorem c_u8 : Try.prog.cellsOf 5 = 1 := by kernel_rfl
theorem c_int1 : Try.prog.cellsOf 3 = 1 := by kernel_rfl
theorem rd_deed {H : Type} {enc : TypeId × Value → H} {W : World} {cs : List Value} (h : Rd enc Try.prog W 28 cs) : ∃ x : Dd, cs = ddV x ∧ (0 ≤ x.k ∧ x.k < 256) ∧ I64 x.a ∧ I64 x.b := by
  obtain ⟨z0, z1, z2, ecs⟩ := cs_three ((h.struct Try.underlying28).1.trans c_deed3)
  rw [ecs] at h
  obtain ⟨y0, e0, g0⟩ := Rd.int (h.field Try.underlying28 0 5 0 1 rfl c_u8) Try.underlying5
  obtain ⟨y1, e1, g1⟩ := Rd.int (h.field Try.underlying28 1 3 1 1 rfl c_int1) Try.underlying3
  obtain ⟨y2, e2, g2⟩ := Rd.int (h.field Try.underlying28 2 3 2 1 rfl c_int1) Try.underlying3
  simp at e0 e1 e2
  subst e0; subst e1; subst e2
  exact ⟨⟨y0, y1, y2⟩, ecs, u8_of g0, i64_of g1, i64_of g2⟩
theorem spanGaps_own : ownKnob Try.prog.godebug = none := by kernel_rfl
theorem spanGaps_laidOut : laidOutB Try.prog = true := by kernel_rfl
theorem spanGaps_types : ∀ t ∈ Try.f3.params.toList, Try.prog.readableRec t = true ∧ t < Try.prog.types.size := by
  rw [Try.params3]
  intro t ht
  simp only [List.mem_cons, List.not_mem_nil, or_false] at ht
  rcases ht with rfl | rfl | rfl
  · exact ⟨by kernel_rfl, of_decide_eq_true (by kernel_rfl)⟩
  · exact ⟨by kernel_rfl, of_decide_eq_true (by kernel_rfl)⟩
  · exact ⟨by kernel_rfl, of_decide_eq_true (by kernel_rfl)⟩
set_option maxRecDepth 100000 in
theorem spanGaps_lifted (os : Os) (started : os.Started) (H : Type) (enc : TypeId × Value → H) :
    ReturnsInHanded {} Try.checked os 3 .any (Rows.spanGapsSpec.pre6 enc Try.prog Try.f3 Rows.spanGapsRow.domain false) (Rows.spanGapsSpec.post enc Try.prog Try.f3 false true false false) := by
  refine returnsInHanded_of_change (C := Try.checked) spanGaps_own started (by kernel_rfl) Try.func3
    (ChangeSpec.witness6 (enc := enc) (C := Try.checked) false ⟨#[], #[.slice none 0 0, .int .i64 0, .int .i64 0], []⟩ 8 (by kernel_rfl) (by kernel_rfl) (by kernel_rfl) (by kernel_rfl)) ?_
  intro W base args ds gs before hval0 hW hcnd _
  have hval : ∀ (j : Nat) t v, Try.f3.params[j]? = some t → args[j]? = some v → Value.okWide Try.prog W .any base t v := hval0
  have hW' := hW
  obtain ⟨p, q, hA0, hV, hpq, hfz, hnd⟩ := hW
  have hA : DataW.TrodAll enc Try.prog W 0 (fun _ => true) true Try.f3.params.toList args.toList ds p := hA0
  rw [Try.params3] at hA hval
  obtain ⟨v0, vs0, d0, ds0, p0, q0, hargs, rfl, rfl, h0, r0⟩ := trodAll_cons hA
  obtain ⟨v1, vs1, d1, ds1, p1, q1, rfl, rfl, rfl, h1, r1⟩ := trodAll_cons r0
  obtain ⟨v2, vs2, d2, ds2, p2, q2, rfl, rfl, rfl, h2, r2⟩ := trodAll_cons r1
  obtain ⟨rfl, rfl, rfl⟩ := trodAll_nil r2
  obtain rfl : args = #[v0, v1, v2] := by cases args; simp_all
  have k0 := hval 0 22 v0 rfl rfl
  have k1 := hval 1 3 v1 rfl rfl
  have k2 := hval 2 3 v2 rfl rfl
  clear hA0 hval0 hval hcnd hfz hnd hpq hV hargs r2
  suffices hs : Calls Try.prog 3 #[v0, v1, v2] W (Gives (.bool true) W) from hs.mono fun e W' ⟨he, x, hx⟩ => ⟨_, he, law_post spanGaps_laidOut hW' rfl rfl (by kernel_rfl) (by first | exact Try.underlying4 | rfl) spanGaps_types (hx ▸ W.below_past x)⟩
  clear hW'
  obtain ⟨A, ca, l, rfl, ha, _, hl, _⟩ := rd_tabC (f := ddV) (c := 3) (K := fun _ => True) ddV_length (by omega) (rd_slice Try.underlying22 k0 h0) Try.underlying22 c_deed3 (fun _ h => by obtain ⟨x, e, _⟩ := rd_deed h; exact ⟨x, e, trivial⟩)
  obtain ⟨p, rfl, _, _, _⟩ := open_int Try.underlying3 k1 h1
  obtain ⟨q, rfl, _, _, _⟩ := open_int Try.underlying3 k2 h2
  exact SpanGaps_any A ca _ l rfl hl p q W ha
theorem spanGaps_holds : Rows.SpanGapsSaid :=
  OpenClaim.holds_of_wide 3 Try.f3 rfl rfl rfl rfl rfl rfl rfl ⟨rfl, rfl, rfl, rfl, rfl⟩ rfl rfl rfl rfl rfl (by kernel_rfl) Try.func3 (by kernel_rfl)
    (of_decide_eq_true (by kernel_rfl)) (by unfold Func.isWrapper; first | (rw [if_pos (by decide +kernel)]; kernel_rfl) | (rw [if_neg (by decide +kernel)]; exact ⟨rfl, rfl⟩))
    (fun os started H enc _ => spanGaps_lifted os started H enc)
end Go.Proofs.Ytjihhpipdhhjkaa
