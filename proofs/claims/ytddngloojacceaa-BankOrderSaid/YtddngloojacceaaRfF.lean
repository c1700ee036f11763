/-
  Layer 44, the document's: so much from free to a client. No condition but that the bank, the client and the numbers may be.
-/
import Derived.Test.YtddngloojacceaaRfE
import Derived.Deep.RegionLaw
namespace Go.Proofs.Ytddngloojacceaa
open Go Go.RowKit
set_option maxRecDepth 100000 in
set_option maxHeartbeats 8000000 in
theorem rmove_any (x : Bk) (k nh : Nat) (ok : x.Ok k nh) (who : Nat) (hw : who < nh) (A : Option Addr) (ca : Nat) (n : List Int) (en : n.length = k) (hn : Sml n) (s : Int) (hs : s = 1 ∨ s = -1) (w : World) (hx : x.In w) (ha : Cells w A (i64s n)) :
    Calls Try.prog 30 #[.agg x.cs, .int .i64 who, .slice A k ca, .int .i64 s] w (RMovedP x who n s w) := by
  obtain ⟨i0, hi, hz0, hz1, hz2⟩ := info_parts info_i64
  obtain ⟨i1, gi, gz0, gz1, gz2⟩ := info_parts info_row
  obtain ⟨z, ez⟩ : ∃ z : Array Value, z = #[.slice none 0 0, .slice none 0 0, .slice none 0 0] := ⟨_, rfl⟩
  have hk1 := ok.k1
  have hk4 := ok.k4
  have h8 := ok.h8
  have hcs : x.cs = #[.slice x.F.1 k x.F.2.1, .slice x.AH nh x.cH, .slice x.AM nh x.cM] := by unfold Bk.cs; rw [ok.ef, ok.eh, ok.em]
  obtain ⟨w1, ew1⟩ : ∃ w1, w1 = (w.alloc (.cells x.cs 25)).alloc (.cells z 25) := ⟨_, rfl⟩
  obtain ⟨w2, ew2⟩ : ∃ w2, w2 = w1.alloc (.cells #[.slice none 0 0, .slice none 0 0, .slice x.AM nh x.cM] 25) := ⟨_, rfl⟩
  have hsz1 : w1.heap.size = w.heap.size + 1 + 1 := by rw [ew1]; simp
  have hrec : Rec w1 w.heap.size 25 x.cs := by rw [ew1]; exact (Rec.new w _ _).alloc _
  have hres : Rec w1 (w.heap.size + 1) 25 z := by rw [ew1]; have := Rec.new (w.alloc (.cells x.cs 25)) 25 z; simpa using this
  have r2 := Rec.cell hrec 2
  rw [hcs] at r2
  simp at r2
  have HM0 : Hid (MoW w w2 w.heap.size (w.heap.size + 1) (w.heap.size + 1 + 1) x.cs z (.slice none 0 0) (.slice none 0 0) (.slice x.AM nh x.cM) [] []) := hid (by
    have hb1 : Below w.heap.size w w1 := by rw [ew1]; exact ((Below.refl _ w).alloc (Nat.le_refl _) _).alloc (by simp) _
    have hb12 : Below w1.heap.size w1 w2 := by rw [ew2]; exact (Below.refl _ w1).alloc (Nat.le_refl _) _
    refine ⟨hb1.trans (hb12.mono hb1.size), hrec.below hb12 (Nat.le_refl _), hres.below hb12 (Nat.le_refl _), by rw [ew2, ← hsz1]; exact Rec.new w1 _ _, ⟨by simp [i64s], .inl ⟨rfl, rfl⟩⟩, ⟨by simp [tab], .inl ⟨rfl, rfl⟩⟩, fun i hi => by simp at hi, by omega, by omega, by omega⟩)
  rw [hcs, ez] at ew1
  have EW1 := hid ew1
  have EW2 := hid ew2
  have HX := hid hx
  have HA := hid ha
  have OK := hid ok
  have EN := hid en
  have SN := hid hn
  have HS := hid hs
  have HCS := hid hcs
  have EZ := hid ez
  have HSZ := hid hsz1
  rw [hcs]
  clear ew1 ew2 hrec hres hx ha ok en hn hcs ez hsz1
  go_enter Try.func30, Try.ntmps30
  go_upto_region 1 with (fail)
  rw [← EW1.out]
  go_upto_region 2 with (fail)
  rw [← EW2.out, HSZ.out]
  clear r2 EW1 EW2 HSZ
  go_wp2_with fail
  go_loopw [10] (fun i wr => ∃ (t : Nat) (f : Option Addr) (c : Nat), i = .int .i64 t ∧ t ≤ k ∧ Hid (MoW w wr w.heap.size (w.heap.size + 1) (w.heap.size + 1 + 1) x.cs z (.slice f t c) (.slice none 0 0) (.slice x.AM nh x.cM) (subK x.F.2.2 n s t) [])) (fun i _ => k - (intOf i).toNat)
  case atStart => exact ⟨0, none, 0, rfl, by omega, HM0⟩
  case round =>
    clear HM0
    obtain ⟨t, f, c, rfl, ht, HM⟩ := hrel
    by_cases hlt : t < k
    · have hin := (HX.out.below HM.out.below).f
      obtain ⟨b1, o1, e1, hc1⟩ := i64_at hin (k := t) (by rw [OK.out.ef]; exact hlt)
      have hbk := HM.out.bank
      rw [HCS.out, e1] at hbk
      have q0 := Rec.cell hbk 0
      simp at q0
      obtain ⟨b2, o2, rfl, hc2⟩ := i64_at (HA.out.below HM.out.below) (k := t) (by rw [EN.out]; exact hlt)
      have qb := Rec.cell HM.out.box 0
      simp at qb
      have a1 := OK.out.fv t hlt
      have a2 := SN.out t
      have hsu := subK_succ x.F.2.2 n s t
      obtain ⟨u, eu⟩ : ∃ u, atL x.F.2.2 t = u := ⟨_, rfl⟩
      obtain ⟨v, ev⟩ : ∃ v, atL n t = v := ⟨_, rfl⟩
      rw [eu] at hc1 a1 hsu
      rw [ev] at hc2 a2 hsu
      have hsv : s * v = v ∨ s * v = -v := by
        rcases hs with rfl | rfl
        · exact .inl (Int.one_mul v)
        · exact .inr (by rw [Int.neg_mul, Int.one_mul])
      have hneg : u + -s * v = u - s * v := by rw [Int.neg_mul]; omega
      rw [hneg] at hsu
      have w1' : IntKind.i64.wrap (s * v) = s * v := by rw [IntKind.wrap_i64]; omega
      have w2' : IntKind.i64.wrap (u - s * v) = u - s * v := by rw [IntKind.wrap_i64]; omega
      have hlb : w.heap.size + 1 + 1 < wr.heap.size := Rec.lt HM.out.box
      have hle := HM.out.below.size
      have HSU := hid hsu
      have hfl := subK_length x.F.2.2 n s t
      have HFO : Hid (wr.drew.ownsRow w.heap.size 3 1 (.slice f t c) t (i64s (subK x.F.2.2 n s t))) := hid (by have := HM.out.fo.drew; rw [hfl] at this; exact this)
      have HBX := hid HM.out.box
      have HFL := hid hfl
      have HE1 := hid e1
      clear hsv hneg hsu eu ev hbk e1 hfl hin
      go_wp2_with fail
      go_region_law ((refine step_pushB rfl (.tmp 25) (.tmp 38) 22 rfl 3 i0 (.int .i64 0) 1 8 Try.underlying22 hi hz0 hz1 hz2 rfl (by decide) w.heap.size ?_ (.slice f t c) t (i64s (subK x.F.2.2 n s t)) ?_ HFO.out _ #[.int .i64 (u - s * v)] ?_ rfl rfl ?_ ?_ ?_ ?_; (· exact hle); (· rfl); (· simp [go_sem]); (· simp [Value.oneCell']); (· omega); (· unfold maxLen; omega); intro w3 g3 c3 ho3 hg3 _; have HO3 := hid ho3; have HG3 := hid hg3; have HR3 := hid (Rec.grown (Rec.drew HBX.out) HFO.out hg3 (by decide)); have f13 : w3.frozen? ⟨w.heap.size + 1 + 1, 0, none⟩ = false := Rec.frozen HR3.out 0; have hlt3 := Rec.lt HR3.out; have d13 : w3.cell? ⟨w.heap.size + 1 + 1, 0, none⟩ = some (.slice f t c) := (by rw [Rec.cell HR3.out]; simp); clear ho3 hg3))
      all_goals
        have HN := hid (HM.out.drew.pushF (v := u - s * v) (by rw [HFL.out]; exact HO3.out) HG3.out)
        rw [← HSU.out] at HN
        clear HO3 HG3 HR3 f13 hlt3 d13 HM
        go_wp2_with fail
        go_roundw
        case rel => exact ⟨t + 1, some ⟨g3, 0, none⟩, c3, by go_num, by omega, HN⟩
        case measure => simp [intOf]; omega
    · obtain rfl : k = t := by omega
      have HM0 := HM
      rw [show subK x.F.2.2 n s k = plusF x.F.2.2 n (-s) by rw [← subK_all, OK.out.ef]] at HM0
      have hin := (HX.out.below HM.out.below).f
      have hbk := HM.out.bank
      rw [HCS.out] at hbk
      have q0 := Rec.cell hbk 0
      simp at q0
      clear HM hin hbk
      go_wp2_with fail
      clear q0
      go_loopw [11] (fun i wr => ∃ (q : Nat) (h : Option Addr) (c' : Nat) (LH : List Rw), i = .int .i64 q ∧ q ≤ nh ∧ Hid (MoW w wr w.heap.size (w.heap.size + 1) (w.heap.size + 1 + 1) x.cs z (.slice f k c) (.slice h q c') (.slice x.AM nh x.cM) (plusF x.F.2.2 n (-s)) LH) ∧ Hid (LH.length = q) ∧ Hid (valR LH = rowsK (valR x.H) who (plusF (hasR x who) n s) q)) (fun i _ => nh - (intOf i).toNat)
      case atStart => exact ⟨0, none, 0, [], rfl, by omega, HM0, hid rfl, hid rfl⟩
      case round =>
        clear HM0
        obtain ⟨q, h, c', LH, rfl, hq, HM, HLL, HVV⟩ := hrel
        obtain ⟨wo, rfl⟩ : ∃ wo : World, wo = wr := ⟨_, rfl⟩
        have hbk := HM.out.bank
        rw [HCS.out] at hbk
        by_cases hlt : q < nh
        · have hin := HX.out.below HM.out.below
          obtain ⟨bh, oh, Rh, ch, eh, q1, k1⟩ := hin.h.at (i := q) (by rw [OK.out.eh]; exact hlt)
          rw [eh] at hbk
          have r1 := Rec.cell hbk 1
          simp at r1
          rw [show (rAt x.H q).2.2.length = k from OK.out.hl q hlt] at q1
          obtain ⟨b1, o1, rfl, -⟩ := i64_at k1 (k := 0) (by rw [show (rAt x.H q).2.2.length = k from OK.out.hl q hlt]; omega)
          have HKN := hid (news_of k1 3)
          have HIL := hid (show (i64s (rAt x.H q).2.2).length = k by rw [i64s_length]; exact OK.out.hl q hlt)
          have hlb := Rec.lt HM.out.bank
          have e1 : (wo.alloc (.cells #[] 3)).cell? ⟨w.heap.size, 1, none⟩ = some (.slice (some ⟨bh, oh, none⟩) nh x.cH) := (((Below.refl _ wo).alloc (Nat.le_refl _) _).cell (lt_of_cell r1)).trans r1
          have e2 : (wo.alloc (.cells #[] 3)).cell? ⟨bh, oh + q, none⟩ = some (.slice (some ⟨b1, o1, none⟩) k ch) := (((Below.refl _ wo).alloc (Nat.le_refl _) _).cell (lt_of_cell q1)).trans q1
          have EHQ : Hid ((rAt x.H q).2.2 = hasR x q) := hid rfl
          clear hin hbk k1 eh
          go_upto_region 10 with (at_builtin; refine wpList_append_own_at _ rfl (.tmp 48) (.tmp 53) 22 rfl wo.heap.size 3 i0 (.int .i64 0) 1 8 Try.underlying22 hi hz0 hz1 hz2 rfl (by decide) _ 0 [] rfl (World.ownsRow_lit (base := wo.heap.size) (size := 1) wo #[] 0 (Nat.le_refl _) (by unfold maxLen; omega) rfl) ⟨b1, o1, none⟩ k ch (i64s (rAt x.H q).2.2) (by rfl) (by rw [HIL.out]; simp) HKN.out (i64s_one (rAt x.H q).2.2) (by unfold maxLen; omega) (by omega) (by simp) ?_; intro v' w5 hown' hgrow hq7 hq8; clear hq7 hq8)
          simp only [Nat.zero_add, List.nil_append] at hown'
          obtain ⟨g5, c5, rfl, -⟩ := own_succ hown' (by omega)
          have hb5 := ((Below.refl wo.heap.size wo).alloc (Nat.le_refl _) (.cells #[] 3)).grown hgrow (by simp) (fun q hq => by have e : some wo.heap.size = some q := hq; injection e with e; omega)
          have HR5 : Hid (RowW wo w5 g5 k c5 (plusK (hasR x q) n s 0)) := hid ⟨hb5, by rw [plusK_zero]; exact hown'⟩
          clear hown' hgrow hb5 e1 e2 r1 q1 HKN HIL hlb
          by_cases hqw : q = who
          · subst hqw
            go_wp2_with fail
            go_loopw [13] (fun i W => ∃ p : Nat, i = .int .i64 p ∧ p ≤ k ∧ Hid (RowW wo W g5 k c5 (plusK (hasR x q) n s p))) (fun i _ => k - (intOf i).toNat)
            case atStart => exact ⟨0, rfl, by omega, HR5⟩
            case round =>
              clear HR5
              obtain ⟨p, rfl, hp, HR⟩ := hrel
              by_cases hlp : p < k
              · obtain ⟨b2, o2, rfl, hc2⟩ := i64_at ((HA.out.below HM.out.below).below HR.out.below) (k := p) (by rw [EN.out]; exact hlp)
                have cc := HR.out.cell (k := p) hlp
                have fcz := HR.out.frozen p
                have lc := HR.out.lt.2
                rw [plusK_at (by rw [OK.out.hl q hlt]; exact hlp), if_neg (Nat.lt_irrefl _)] at cc
                have hst := plusK_set (a := hasR x q) (b := n) (s := s) (k := p) (by rw [OK.out.hl q hlt]; exact hlp)
                have a1 := OK.out.hv q hlt p hlp
                have a2 := SN.out p
                obtain ⟨u, eu⟩ : ∃ u, atL (hasR x q) p = u := ⟨_, rfl⟩
                obtain ⟨v, ev⟩ : ∃ v, atL n p = v := ⟨_, rfl⟩
                rw [eu] at cc a1 hst
                rw [ev] at hc2 a2 hst
                have hsv : s * v = v ∨ s * v = -v := by
                  rcases hs with rfl | rfl
                  · exact .inl (Int.one_mul v)
                  · exact .inr (by rw [Int.neg_mul, Int.one_mul])
                have w1' : IntKind.i64.wrap (s * v) = s * v := by rw [IntKind.wrap_i64]; omega
                have w2' : IntKind.i64.wrap (u + s * v) = u + s * v := by rw [IntKind.wrap_i64]; omega
                have HN := hid (HR.out.drew.set p (u + s * v))
                rw [hst] at HN
                clear hsv eu ev hst
                go_wp2_with fail
                go_still_tail 14, (by kernel_rfl)
                change wpList _ _ _ _ _ wr.drew
                clear hc2
                obtain ⟨W5, eW5⟩ : ∃ W5, W5 = wr.drew := ⟨_, rfl⟩
                have cc' : W5.cell? ⟨g5, p, none⟩ = some (.int .i64 u) := by rw [eW5]; exact cc
                have ffz' : W5.frozen? ⟨g5, p, none⟩ = false := by rw [eW5]; exact fcz
                have flt' : g5 < W5.heap.size := by rw [eW5]; exact lc
                rw [← eW5] at HN ⊢
                clear eW5 cc fcz lc
                go_wp2_with fail
                go_roundw
                case rel => exact ⟨p + 1, by go_num, by omega, HN⟩
                case measure => simp [intOf]; omega
              · obtain rfl : k = p := by omega
                have HPF : Hid (plusK (hasR x q) n s k = plusF (hasR x q) n s) := hid (by
                  have h1 := OK.out.hl q hlt
                  rw [← plusK_all, h1])
                have HB9 := hid (HM.out.far HR.out.below)
                have HRI : Hid (RowIs w wr (some ⟨g5, 0, none⟩, c5, plusF (hasR x q) n s)) := hid (.inr (by
                  have h1 := own_base HR.out.own HM.out.below.size
                  rw [HPF.out] at h1
                  have h2 : (plusF (hasR x q) n s).length = k := by rw [plusF_length]; exact OK.out.hl q hlt
                  simp only [rowC, h2]
                  exact h1))
                have HLN : Hid ((plusF (hasR x q) n s).length = k) := hid (by rw [plusF_length]; exact OK.out.hl q hlt)
                have HROW : Hid ((if q = q then plusF (hasR x q) n s else atR (valR x.H) q) = plusF (hasR x q) n s) := hid (if_pos rfl)
                clear HR HM
                have qb := Rec.cell HB9.out.box 1
                simp at qb
                have hlb := Rec.lt HB9.out.box
                have hle := HB9.out.below.size
                have HBX := hid HB9.out.box
                have HHO := hid HB9.out.ho
                rw [HLL.out] at HHO
                go_wp2_with (at_builtin; refine wpList_pushB rfl (.tmp 79) (.tmp 81) 23 rfl 22 i1 (.slice none 0 0) 1 24 Try.underlying23 gi gz0 gz1 gz2 rfl (by decide) w.heap.size (w := wr) hle (.slice h q c') q (tab rowV LH) rfl HHO.out _ (#[.slice (some ⟨g5, 0, none⟩) k c5]) ?_ rfl rfl ?_ ?_ ?_ ?_; (· simp [go_sem]); (· simp [Value.oneCell']); (· omega); (· unfold maxLen; omega); intro w3 g3 c3 ho3 hg3 _; have HO3 := hid ho3; have HG3 := hid hg3; have HR3 := hid (Rec.grown HBX.out HHO.out hg3 (by decide)); have f13 : w3.frozen? ⟨w.heap.size + 1 + 1, 1, none⟩ = false := Rec.frozen HR3.out 1; have hlt3 := Rec.lt HR3.out; have d13 : w3.cell? ⟨w.heap.size + 1 + 1, 1, none⟩ = some (.slice h q c') := (by rw [Rec.cell HR3.out]; simp); clear ho3 hg3)
                have HN := hid (HB9.out.pushH (r := (some ⟨g5, 0, none⟩, c5, plusF (hasR x q) n s)) HRI.out (by rw [HLL.out]; simp only [rowC, HLN.out]; exact HO3.out) HG3.out)
                have HLL2 : Hid ((LH ++ [((some ⟨g5, 0, none⟩, c5, plusF (hasR x q) n s) : Rw)]).length = q + 1) := hid (by simp [HLL.out])
                have HVV2 : Hid (valR (LH ++ [((some ⟨g5, 0, none⟩, c5, plusF (hasR x q) n s) : Rw)]) = rowsK (valR x.H) q (plusF (hasR x q) n s) (q + 1)) := hid (by
                  rw [rowsK_succ, ← HVV.out, HROW.out]; simp [valR])
                clear HB9 HO3 HG3 HR3 f13 hlt3 d13 HHO HBX hle hlb qb
                go_roundw
                case rel => exact ⟨q + 1, some ⟨g3, 0, none⟩, c3, _, by go_num, by omega, HN, HLL2, HVV2⟩
                case measure => simp [intOf]; omega
          · have hqw' : ((q : Int) == who) = false := by simp; omega
            have hqw'' : (q == who) = false := by simp; omega
            have HB9 := hid (HM.out.far HR5.out.below)
            have HRI : Hid (RowIs w w5 (some ⟨g5, 0, none⟩, c5, hasR x q)) := hid (.inr (by
              have h1 := own_base HR5.out.own HM.out.below.size
              rw [plusK_zero] at h1
              have h2 : (hasR x q).length = k := OK.out.hl q hlt
              simp only [rowC, h2]
              exact h1))
            have HLN : Hid ((hasR x q).length = k) := hid (OK.out.hl q hlt)
            have HROW : Hid ((if q = who then plusF (hasR x who) n s else atR (valR x.H) q) = hasR x q) := hid (by rw [if_neg hqw, hasR_val])
            clear HR5 HM hqw
            have qb := Rec.cell HB9.out.box 1
            simp at qb
            have hlb := Rec.lt HB9.out.box
            have hle := HB9.out.below.size
            have HBX := hid HB9.out.box
            have HHO := hid HB9.out.ho
            rw [HLL.out] at HHO
            go_wp2_with (at_builtin; refine wpList_pushB rfl (.tmp 79) (.tmp 81) 23 rfl 22 i1 (.slice none 0 0) 1 24 Try.underlying23 gi gz0 gz1 gz2 rfl (by decide) w.heap.size (w := w5) hle (.slice h q c') q (tab rowV LH) rfl HHO.out _ (#[.slice (some ⟨g5, 0, none⟩) k c5]) ?_ rfl rfl ?_ ?_ ?_ ?_; (· simp [go_sem]); (· simp [Value.oneCell']); (· omega); (· unfold maxLen; omega); intro w3 g3 c3 ho3 hg3 _; have HO3 := hid ho3; have HG3 := hid hg3; have HR3 := hid (Rec.grown HBX.out HHO.out hg3 (by decide)); have f13 : w3.frozen? ⟨w.heap.size + 1 + 1, 1, none⟩ = false := Rec.frozen HR3.out 1; have hlt3 := Rec.lt HR3.out; have d13 : w3.cell? ⟨w.heap.size + 1 + 1, 1, none⟩ = some (.slice h q c') := (by rw [Rec.cell HR3.out]; simp); clear ho3 hg3)
            have HN := hid (HB9.out.pushH (r := (some ⟨g5, 0, none⟩, c5, hasR x q)) HRI.out (by rw [HLL.out]; simp only [rowC, HLN.out]; exact HO3.out) HG3.out)
            have HLL2 : Hid ((LH ++ [((some ⟨g5, 0, none⟩, c5, hasR x q) : Rw)]).length = q + 1) := hid (by simp [HLL.out])
            have HVV2 : Hid (valR (LH ++ [((some ⟨g5, 0, none⟩, c5, hasR x q) : Rw)]) = rowsK (valR x.H) who (plusF (hasR x who) n s) (q + 1)) := hid (by
              rw [rowsK_succ, ← HVV.out, HROW.out]; simp [valR])
            clear HB9 HO3 HG3 HR3 f13 hlt3 d13 HHO HBX hle hlb qb
            go_roundw
            case rel => exact ⟨q + 1, some ⟨g3, 0, none⟩, c3, _, by go_num, by omega, HN, HLL2, HVV2⟩
            case measure => simp [intOf]; omega
        · obtain rfl : nh = q := by omega
          have y0 := Rec.cell HM.out.box 0
          have y1 := Rec.cell HM.out.box 1
          have y2 := Rec.cell HM.out.box 2
          simp at y0 y1 y2
          have hz := HM.out.res
          rw [EZ.out] at hz
          have z0 := Rec.cell hz 0
          have z1 := Rec.cell hz 1
          have z2 := Rec.cell hz 2
          simp at z0 z1 z2
          have f0 := Rec.frozen hz 0
          have f1 := Rec.frozen hz 1
          have f2 := Rec.frozen hz 2
          have hz := Rec.lt hz
          have hlb := Rec.lt HM.out.box
          have rb1 := Rec.cell hbk 1
          simp at rb1
          clear hbk
          go_wp2_with fail
          have HM8 : Hid (MoW w (((wo.setCell ⟨w.heap.size + 1, 0, none⟩ (.slice f k c)).setCell ⟨w.heap.size + 1, 1, none⟩ (.slice h nh c')).setCell ⟨w.heap.size + 1, 2, none⟩ (.slice x.AM nh x.cM)) w.heap.size (w.heap.size + 1) (w.heap.size + 1 + 1) x.cs #[.slice f k c, .slice h nh c', .slice x.AM nh x.cM] (.slice f k c) (.slice h nh c') (.slice x.AM nh x.cM) (plusF x.F.2.2 n (-s)) LH) := hid (by
            have := ((HM.out.setR (by omega) (by omega) 0 (.slice f k c)).setR (by omega) (by omega) 1 (.slice h nh c')).setR (by omega) (by omega) 2 (.slice x.AM nh x.cM)
            rw [EZ.out] at this
            simpa using this)
          obtain ⟨w9, ew9⟩ : ∃ w9, w9 = (((wo.setCell ⟨w.heap.size + 1, 0, none⟩ (.slice f k c)).setCell ⟨w.heap.size + 1, 1, none⟩ (.slice h nh c')).setCell ⟨w.heap.size + 1, 2, none⟩ (.slice x.AM nh x.cM)) := ⟨_, rfl⟩
          rw [← ew9] at HM8 ⊢
          clear ew9 z0 z1 z2 f0 f1 f2 hz y0 y1 y2 rb1
          have c0 := Rec.cell HM8.out.res 0
          have c1' := Rec.cell HM8.out.res 1
          have c2' := Rec.cell HM8.out.res 2
          simp at c0 c1' c2'
          refine bodyPost_ret (v := .agg #[.slice f k c, .slice h nh c', .slice x.AM nh x.cM]) (by simp [results, Try.results30, go_sem, c0, c1', c2']) rfl ?_
          have hfl : (plusF x.F.2.2 n (-s)).length = k := by rw [plusF_length]; exact OK.out.ef
          have hfo := HM8.out.fo
          rw [hfl] at hfo
          have hho := HM8.out.ho
          rw [HLL.out] at hho
          refine ⟨⟨(f, c, plusF x.F.2.2 n (-s)), h, c', LH, x.AM, x.cM, x.M⟩, ?_, HM8.out.below, ⟨?_, ?_, fun i hi => HM8.out.hr i hi, rfl, rfl, rfl⟩, ⟨rfl, ?_, ?_⟩⟩
          · simp [Bk.cs, hfl, HLL.out, OK.out.em]
          · simp only [rowC, hfl]; exact hfo
          · simp only [HLL.out]; exact hho
          · refine HVV.out.trans ?_
            have := rowsK_all (valR x.H) who (plusF (hasR x who) n s)
            rw [valR_length, OK.out.eh] at this
            rw [this]
            exact (mkB_h _ _ _).symm
          · exact (mkB_m _ _ _).symm
end Go.Proofs.Ytddngloojacceaa
