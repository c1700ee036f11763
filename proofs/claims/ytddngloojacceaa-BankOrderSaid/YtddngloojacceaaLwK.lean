/-
  Layer 44's BankOrder: an order has each client once, and each can be served by what is free, and what those ahead had; if there is none, none of those that are stuck can be, by all that the others had. No condition.
-/
import Derived.Test.YtddngloojacceaaLwD
import Derived.Test.YtddngloojacceaaPlD
import Derived.Test.YtddngloojacceaaOrW
namespace Go.Proofs.Ytddngloojacceaa
open Go.RowKit Go.Shelf Go.ChangeShapes Go.WideShapes Go.ChangeAt
open Go
attribute [local go_sem] Oper.semAt_some
theorem ranges_drewN {H : Type} {P : Program} {w : World} {k : TypeId} {R : Value → Option (DataW H × List MemPlace)} {b r n : Nat} {D : DataW H} {left : Lit → Bool} {cnt : Nat} (h : w.ranges P k R b r n D left cnt) (m : Nat) : (w.drewN m).ranges P k R b r n D left cnt := h
set_option maxRecDepth 100000 in
set_option maxHeartbeats 8000000 in
theorem BankOrder_any (x : Bk) (w : World) (hx : x.In w) :
    Calls Try.prog 3 #[.agg x.cs] w (Gives (.bool true) w) := by
  obtain ⟨i0, hi, hz0, hz1, hz2⟩ := info_parts info_i64
  obtain ⟨w1, ew1⟩ : ∃ w1, w1 = w.alloc (.cells x.cs 25) := ⟨_, rfl⟩
  have hb1 : Below w.heap.size w w1 := by rw [ew1]; exact (Below.refl _ w).alloc (Nat.le_refl _) _
  have hrec : Rec w1 w.heap.size 25 x.cs := by rw [ew1]; exact Rec.new w _ _
  obtain ⟨F, eF⟩ : ∃ F, x.F.1 = F := ⟨_, rfl⟩
  obtain ⟨nF, enF⟩ : ∃ F, x.F.2.2.length = F := ⟨_, rfl⟩
  obtain ⟨nh, enh⟩ : ∃ F, x.H.length = F := ⟨_, rfl⟩
  obtain ⟨nm, enm⟩ : ∃ F, x.M.length = F := ⟨_, rfl⟩
  obtain ⟨AH, eAH⟩ : ∃ F, x.AH = F := ⟨_, rfl⟩
  obtain ⟨AM, eAM⟩ : ∃ F, x.AM = F := ⟨_, rfl⟩
  have hcs : x.cs = #[.slice F nF x.F.2.1, .slice AH nh x.cH, .slice AM nm x.cM] := by unfold Bk.cs; rw [eF, enF, enh, enm, eAH, eAM]
  have hX := hx.below hb1
  rw [hcs] at ew1 hrec ⊢
  have BX := hid (fun W (h : Below w1.heap.size w1 W) => (show W.cell? ⟨w.heap.size, 0, none⟩ = some (.slice F nF x.F.2.1) ∧ W.cell? ⟨w.heap.size, 1, none⟩ = some (.slice AH nh x.cH) ∧ W.cell? ⟨w.heap.size, 2, none⟩ = some (.slice AM nm x.cM) ∧ w.heap.size < W.heap.size by
    have hr := hrec.below h (Nat.le_refl _)
    exact ⟨by rw [Rec.cell hr]; rfl, by rw [Rec.cell hr]; rfl, by rw [Rec.cell hr]; rfl, Rec.lt hr⟩))
  have PSM := hid (fun W (h : Below w1.heap.size w1 W) => hcs ▸ small_any x W (hX.below h))
  have PRM := hid (fun (hs : x.Sm) W (h : Below w1.heap.size w1 W) => hcs ▸ RMay_any x hs.1 hs.2.2 W (hX.below h))
  have PO := hid (fun (hs : x.Sm) W (h : Below w1.heap.size w1 W) => hcs ▸ Order_any x hs W (hX.below h))
  have PT := hid (fun (hs : x.Sm) W (h : Below w1.heap.size w1 W) => hcs ▸ Stuck_any x hs W (hX.below h))
  have EW1 := hid ew1
  have HB1 := hid hb1
  have HX1 := hid hX
  have ENF := hid (And.intro eF (And.intro enF (And.intro enh enm)))
  have EAD := hid (And.intro eAH eAM)
  have B0 := BX.out _ (Below.refl _ w1)
  obtain ⟨z0, z1, z2, hlb⟩ := B0
  clear ew1 hb1 hrec hX hx eF enF enh enm hcs eAH eAM
  have hmm := @run_makeMap Try.prog
  go_enter Try.func3, Try.ntmps3
  go_upto_region 1 with (fail)
  rw [← EW1.out]
  clear EW1
  go_upto_region 3 with (go_at_call 7; refine (awake_any _).mono ?_; rintro _ _ ⟨rfl, x0, rfl⟩)
  obtain ⟨w2, ew2⟩ : ∃ w2, w2 = w1.past x0 := ⟨_, rfl⟩
  have H2 := hid (show Below w1.heap.size w1 w2 by rw [ew2]; exact w1.below_past x0)
  rw [← ew2]
  clear ew2 z0 z1 z2 hlb
  obtain ⟨z0, z1, z2, hlb⟩ := BX.out w2 H2.out
  go_wp2_with fail
  refine (PSM.out w2 H2.out).mono ?_
  rintro _ w3 ⟨b, rfl, hb3, hsm⟩
  have HSM := hid hsm
  have H3 := hid (H2.out.trans (hb3.mono H2.out.size))
  clear hb3 hsm z0 z1 z2 hlb
  obtain ⟨z0, z1, z2, hlb⟩ := BX.out w3 H3.out
  cases b with
  | false =>
    go_wp2_with fail
    go_ret
    exact Gives.mk rfl (HB1.out.trans (H3.out.mono HB1.out.size))
  | true =>
    have hsm := HSM.out rfl
    have PRM := hid (PRM.out hsm _ H3.out)
    have PO := hid (PO.out hsm)
    have PT := hid (PT.out hsm)
    clear hsm HSM PSM
    obtain ⟨r, er⟩ : ∃ r, mayB x = r := ⟨_, rfl⟩
    rw [er] at PRM
    have ER := hid er
    clear er
    cases r with
    | false =>
      go_wp2_with (go_at_call 9; refine PRM.out.mono ?_; rintro _ _ ⟨rfl, x4, rfl⟩)
      go_ret
      exact Gives.mk rfl (HB1.out.trans ((RowKit.Below.past H3.out x4).mono HB1.out.size))
    | true =>
      have ok := Bk.Ok.of ER.out
      rw [ENF.out.2.1, ENF.out.2.2.1] at ok
      obtain rfl : nm = nh := by have := ok.em; rw [ENF.out.2.2.2] at this; exact this
      have hk1 := ok.k1
      have hk4 := ok.k4
      have h8 := ok.h8
      have OK := hid ok
      clear ok
      go_upto_region 5 with (go_at_call 9; refine PRM.out.mono ?_; rintro _ _ ⟨rfl, x4, rfl⟩)
      obtain ⟨w4, ew4⟩ : ∃ W, W = w3.past x4 := ⟨_, rfl⟩
      have H4 := hid (show Below w1.heap.size w1 w4 by rw [ew4]; exact RowKit.Below.past H3.out x4)
      rw [← ew4]
      clear ew4 z0 z1 z2 hlb PRM
      obtain ⟨z0, z1, z2, hlb⟩ := BX.out w4 H4.out
      -- the order
      obtain ⟨o, eo⟩ : ∃ o, orderF x = o := ⟨_, rfl⟩
      rw [eo] at PO
      have HORD := hid eo
      clear eo
      obtain ⟨S, eS⟩ : ∃ S, stuckF x = S := ⟨_, rfl⟩
      rw [eS] at PT
      have HST : Hid (S = stuckK (servedF x) nm) := hid (by rw [← eS]; unfold stuckF; rw [if_pos ER.out, ENF.out.2.2.1]; rfl)
      clear eS
      have HSN : Hid (S.Nodup) := hid (by rw [HST.out]; exact stuckK_nodup _ _)
      have hsl : S.length ≤ 8 := by rw [HST.out]; exact Nat.le_trans (stuckK_length _ _) h8
      have HSV := hid (served_spec x)
      rw [ENF.out.2.1, ENF.out.2.2.1] at HSV
      cases o with
      | none =>
        have hsp : 0 < S.length := by rw [HST.out, ← ENF.out.2.2.1]; exact (orderF_none ER.out).1 HORD.out
        go_upto_region 6 with (go_at_call 10; refine (PO.out _ H4.out).mono ?_; rintro _ w5 ⟨rfl, hb5⟩; have HB5 := hid hb5; clear hb5)
        have H5 := hid (H4.out.trans (HB5.out.mono H4.out.size))
        clear z0 z1 z2 hlb HB5 PO
        obtain ⟨z0, z1, z2, hlb⟩ := BX.out w5 H5.out
        have HX5 := hid (HX1.out.below H5.out)
        obtain ⟨bF, oF, eF, -⟩ := i64_at HX5.out.f (k := 0) (by rw [OK.out.ef]; omega)
        rw [ENF.out.1] at eF
        subst eF
        have HN := hid (news_of (by have := HX5.out.f; rw [ENF.out.1] at this; exact this) 3)
        have HIL := hid (show (i64s x.F.2.2).length = nF by rw [i64s_length, OK.out.ef])
        go_upto_region 7 with (at_builtin; refine wpList_append_own_at _ rfl (.tmp 33) (.tmp 35) 22 rfl w5.heap.size 3 i0 (.int .i64 0) 1 8 Try.underlying22 hi hz0 hz1 hz2 rfl (by decide) _ 0 [] rfl (World.ownsRow_lit (base := w5.heap.size) (size := 1) w5 #[] 0 (Nat.le_refl _) (by unfold maxLen; omega) rfl) ⟨bF, oF, none⟩ nF x.F.2.1 (i64s x.F.2.2) (by rfl) (by rw [HIL.out]; simp) HN.out (i64s_one x.F.2.2) (by unfold maxLen; omega) (by omega) (by simp) ?_; intro v' w6 hown' hgrow hq7 hq8; clear hq7 hq8)
        simp only [Nat.zero_add, List.nil_append] at hown'
        obtain ⟨g, c, rfl, -⟩ := own_succ hown' (by omega)
        have HR6 : Hid (RowW w5 w6 g nF c x.F.2.2) := hid ⟨((Below.refl w5.heap.size w5).alloc (Nat.le_refl _) (.cells #[] 3)).grown hgrow (by simp) (fun q hq => by have e : some w5.heap.size = some q := hq; injection e with e; omega), hown'⟩
        have hgb := HR6.out.lt.2
        have hbb := HR6.out.below.size
        obtain ⟨bm, ebm⟩ : ∃ b, b = w6.heap.size := ⟨_, rfl⟩
        have HO7 : Hid (OrW w5 (w6.alloc (.map #[] 0)) g nF c bm x.F.2.2 (mapF S 1 0) 0) := hid ⟨by
          have hb := (Below.refl w6.heap.size w6).alloc (Nat.le_refl _) (.map #[] 0)
          exact ⟨HR6.out.below.trans (hb.mono HR6.out.below.size), own_below HR6.out.own hb (Nat.le_refl _)⟩, by rw [ebm]; exact (MapI.made w6).ext (fun z => (mapF_zero S _ z).symm)⟩
        rw [← ebm] at hgb hbb
        clear hown' hgrow z0 z1 z2 hlb HR6
        go_upto_region 8 with (fail)
        rw [← ebm]
        obtain ⟨w7, ew7⟩ : ∃ W, W = w6.alloc (.map #[] 0) := ⟨_, rfl⟩
        rw [← ew7] at HO7 ⊢
        clear ebm ew7
        have H7 := hid (H5.out.trans (HO7.out.row.below.mono H5.out.size))
        obtain ⟨z0, z1, z2, hlb⟩ := BX.out w7 H7.out
        go_upto_region 9 with (go_at_call 11; refine (PT.out _ H7.out).mono ?_; rintro _ w8 ⟨As, cs, rfl, hb8, ho8⟩; have HB8 := hid hb8; have HS8 := hid ho8; clear hb8 ho8)
        have HO8 := hid (HO7.out.far HB8.out)
        obtain ⟨B7, eB7⟩ : ∃ B, B = w7.heap.size := ⟨_, rfl⟩
        have hb7 : bm < B7 := by rw [eB7]; exact HO7.out.map_lt
        rw [← eB7] at HS8
        clear z0 z1 z2 hlb HB8 H7 HO7 eB7
        go_wp2_with fail
        go_loopw [41] (fun i wr => ∃ q : Nat, i = .int .i64 q ∧ q ≤ S.length ∧ Hid (OrW w5 wr g nF c bm x.F.2.2 (mapF S 1 q) q) ∧ Hid (wr.ownsRow B7 3 1 (.slice As S.length cs) S.length (i64s S))) (fun i _ => S.length - (intOf i).toNat)
        case atStart => exact ⟨0, rfl, by omega, HO8, HS8⟩
        case round =>
          clear HO8 HS8
          obtain ⟨q, rfl, hq, HQ, HS⟩ := hrel
          obtain ⟨wo, rfl⟩ : ∃ wo : World, wo = wr := ⟨_, rfl⟩
          by_cases hlt : q < S.length
          · have hme : S[q] ∈ stuckK (servedF x) nm := by rw [← HST.out]; exact List.getElem_mem hlt
            obtain ⟨t, et, ht, -⟩ := stuckK_mem.1 hme
            have et : S[q]? = some (t : Int) := by rw [List.getElem?_eq_getElem hlt, et]
            obtain ⟨bO, oO, rfl, hc⟩ := i64_at (Cells.of_own HS.out) (k := q) hlt
            rw [show atL S q = t from by unfold atL; rw [et]; rfl] at hc
            have hti : I64 (t : Int) := by unfold I64; omega
            have hlk := HQ.out.look (x := (t : Int)) hti
            rw [mapF_none HSN.out et] at hlk
            obtain ⟨wm, hst, hom, hgr⟩ := HQ.out.store hgb hbb (x := (t : Int)) (y := 1) hti (by unfold I64; omega) (by omega) (mapF_none HSN.out et) (mapF_succ et)
            have HOM := hid hom
            have HSM := hid (OrW.far_own HS.out hgr hb7)
            clear hom et HQ HS hme hgr
            go_wp2_with fail
            go_roundw
            case rel => exact ⟨q + 1, by go_num, by omega, HOM, HSM⟩
            case measure => simp [intOf]; omega
          · obtain rfl : q = S.length := by omega
            have HBW := hid (H5.out.trans (HQ.out.row.below.mono H5.out.size))
            obtain ⟨z0, z1, z2, hlb⟩ := BX.out wo HBW.out
            have HQ0 : Hid (OrW w5 wo g nF c bm (freeA x x.F.2.2 (nonS S 0)) (mapF S 1 S.length) S.length) := HQ
            have H5S := hid h8
            clear HQ HS
            go_wp2_with fail
            clear z0 z1 z2 hlb
            go_loopw [126] (fun i wr => ∃ q : Nat, i = .int .i64 q ∧ q ≤ nm ∧ Hid (OrW w5 wr g nF c bm (freeA x x.F.2.2 (nonS S q)) (mapF S 1 S.length) S.length)) (fun i _ => nm - (intOf i).toNat)
            case atStart => exact ⟨0, rfl, by omega, HQ0⟩
            case round =>
              clear HQ0
              obtain ⟨q, rfl, hq, HQ⟩ := hrel
              obtain ⟨wp, rfl⟩ : ∃ wo : World, wo = wr := ⟨_, rfl⟩
              by_cases hlt : q < nm
              · obtain ⟨bh, oh, Rh, ch, eh, q0, k0⟩ := HX5.out.h.at (i := q) (by rw [OK.out.eh]; exact hlt)
                rw [EAD.out.1] at eh
                subst eh
                rw [show (rAt x.H q).2.2.length = nF from OK.out.hl q hlt] at q0
                have q1 := (HQ.out.row.below.cell (lt_of_cell q0)).trans q0
                have HK0 := hid k0
                have HFO := hid (freeA_okL OK.out (nonS S q) _ _ (free_start OK.out) (fun i hi => by obtain ⟨t, e, ht⟩ := nonS_mem i hi; exact ⟨t, e, by omega⟩))
                have hnl := nonS_length S q
                have hti : I64 (q : Int) := by unfold I64; omega
                obtain ⟨sc, esc⟩ : ∃ b, S.contains (q : Int) = b := ⟨_, rfl⟩
                have HSC := hid esc
                have HSU := hid (nonS_succ S q)
                rw [esc] at HSU
                have hnx : mapF S 1 S.length (q : Int) = if sc = true then some 1 else none := by
                  rw [mapF_all, ← esc]
                  by_cases h : (q : Int) ∈ S
                  · simp [h]
                  · simp [h]
                clear esc q0 k0
                cases sc with
                | true =>
                  rw [if_pos rfl] at HSU hnx
                  have HNX := hid hnx
                  clear hnx
                  go_wp2_with fail
                  clear q1
                  go_loopw [133] (fun p wr => ∃ j : Nat, p = .int .i64 j ∧ j ≤ nF ∧ Hid (OrW w5 wr g nF c bm (freeA x x.F.2.2 (nonS S q)) (mapF S 1 S.length) S.length)) (fun p _ => nF - (intOf p).toNat)
                  case atStart => exact ⟨0, rfl, by omega, HQ⟩
                  case round =>
                    clear HQ
                    obtain ⟨j, rfl, hj, HR⟩ := hrel
                    by_cases hlk : j < nF
                    · have hlu := HR.out.look (x := (q : Int)) hti
                      rw [HNX.out] at hlu
                      go_wp2_with fail
                      go_roundw
                      case rel => exact ⟨j + 1, by go_num, by omega, HR⟩
                      case measure => simp [intOf]; omega
                    · obtain rfl : nF = j := by omega
                      have HE : Hid (OrW w5 wr g nF c bm (freeA x x.F.2.2 (nonS S (q + 1))) (mapF S 1 S.length) S.length) := hid (by rw [HSU.out]; exact HR.out)
                      go_wp2_with fail
                      go_roundw
                      case rel => exact ⟨q + 1, by go_num, by omega, HE⟩
                      case measure => simp [intOf]; omega
                | false =>
                  rw [if_neg (by decide)] at HSU hnx
                  have HNX := hid hnx
                  obtain ⟨fr, efr⟩ : ∃ l, freeA x x.F.2.2 (nonS S q) = l := ⟨_, rfl⟩
                  have HSF : Hid (freeA x x.F.2.2 (nonS S (q + 1)) = plusF fr (hasR x q) 1) := hid (by rw [HSU.out, ← efr, freeA_snoc, Int.toNat_natCast])
                  rw [efr] at HQ HFO
                  have HR1 : Hid (OrW w5 wp g nF c bm (plusK fr (hasR x q) 1 0) (mapF S 1 S.length) S.length) := hid (by rw [plusK_zero]; exact HQ.out)
                  clear hnx efr HQ
                  go_wp2_with fail
                  clear q1
                  go_loopw [133] (fun p wr => ∃ j : Nat, p = .int .i64 j ∧ j ≤ nF ∧ Hid (OrW w5 wr g nF c bm (plusK fr (hasR x q) 1 j) (mapF S 1 S.length) S.length)) (fun p _ => nF - (intOf p).toNat)
                  case atStart => exact ⟨0, rfl, by omega, HR1⟩
                  case round =>
                    clear HR1
                    obtain ⟨j, rfl, hj, HR⟩ := hrel
                    by_cases hlk : j < nF
                    · have hlu := HR.out.look (x := (q : Int)) hti
                      rw [HNX.out] at hlu
                      obtain ⟨b1, o1, rfl, hc0⟩ := i64_at HK0.out (k := j) (by rw [show (rAt x.H q).2.2.length = nF from OK.out.hl q hlt]; exact hlk)
                      have hc1 : wr.cell? ⟨b1, o1 + j, none⟩ = some (.int .i64 (atL (hasR x q) j)) := (HR.out.row.below.cell (lt_of_cell hc0)).trans hc0
                      have cc := HR.out.row.cell (k := j) hlk
                      have fc := HR.out.row.frozen j
                      have lc := HR.out.row.lt.2
                      rw [plusK_at (by rw [HFO.out.1]; exact hlk), if_neg (Nat.lt_irrefl _)] at cc
                      have hst := plusK_set (a := fr) (b := hasR x q) (s := 1) (k := j) (by rw [HFO.out.1]; exact hlk)
                      rw [Int.one_mul] at hst
                      have a1 := HFO.out.2 j hlk
                      have a2 := OK.out.hv q hlt j hlk
                      obtain ⟨u, eu⟩ : ∃ u, atL fr j = u := ⟨_, rfl⟩
                      obtain ⟨v, ev⟩ : ∃ v, atL (hasR x q) j = v := ⟨_, rfl⟩
                      rw [eu] at cc a1 hst
                      rw [ev] at hc1 a2 hst
                      have hwr : IntKind.i64.wrap (u + v) = u + v := by rw [IntKind.wrap_i64]; omega
                      have HN := hid (HR.out.drew.set hgb j (u + v))
                      rw [hst] at HN
                      have HA := hid (And.intro a1 a2)
                      clear eu ev hst hc0 a1 a2
                      go_wp2_with fail
                      clear hlu
                      go_still_tail 10, (by kernel_rfl)
                      change wpList _ _ _ _ _ wr.drew
                      obtain ⟨W5, eW5⟩ : ∃ W, W = wr.drew := ⟨_, rfl⟩
                      have cc' : W5.cell? ⟨g, j, none⟩ = some (.int .i64 u) := (by rw [eW5]; exact cc)
                      have fc' : W5.frozen? ⟨g, j, none⟩ = false := (by rw [eW5]; exact fc)
                      have lc' : g < W5.heap.size := (by rw [eW5]; exact lc)
                      rw [← eW5] at HN ⊢
                      clear eW5 hc1 cc fc lc
                      go_wp2_with fail
                      go_roundw
                      case rel => exact ⟨j + 1, by go_num, by omega, HN⟩
                      case measure => simp [intOf]; omega
                    · obtain rfl : nF = j := by omega
                      have HE : Hid (OrW w5 wr g nF c bm (freeA x x.F.2.2 (nonS S (q + 1))) (mapF S 1 S.length) S.length) := hid (by rw [HSF.out, ← plusK_all, HFO.out.1]; exact HR.out)
                      go_wp2_with fail
                      go_roundw
                      case rel => exact ⟨q + 1, by go_num, by omega, HE⟩
                      case measure => simp [intOf]; omega
              · obtain rfl : nm = q := by omega
                obtain ⟨FR, eFR⟩ : ∃ f, freeA x x.F.2.2 (nonS S nm) = f := ⟨_, rfl⟩
                have HLK : Hid (∀ t : Nat, t < nm → (servedF x).contains (t : Int) = false → canK x FR t nF = false) := hid (fun t ht hc => by rw [← eFR, HST.out]; exact stuck_lacks HSV.out OK.out.ef (fun i hi j hj => (OK.out.hv i hi j hj).1) ht hc)
                have HFO := hid (freeA_okL OK.out (nonS S nm) _ _ (free_start OK.out) (fun i hi => nonS_mem i hi))
                have hnl := nonS_length S nm
                rw [eFR] at HQ HFO
                obtain ⟨D, hD, hsz, hDk⟩ := HQ.out.map
                have HDK := hid hDk
                have HRW := hid HQ.out.row
                have HSZ := hid hsz
                have hgs : g < wp.heap.size := HQ.out.row.lt.2
                clear eFR hDk hsz
                go_wp2_with (first | (at_range; refine wpList_range_own _ rfl _ 30 rfl 3 3 (Go.Maps.int_keyed Try.underlying3) Try.underlying30 _ bm S.length D rfl hD ?_; intro w0 hrg0 hg0 hs0) | fail)
                try go_frame
                obtain ⟨br, ebr⟩ : ∃ b, b = wp.heap.size := ⟨_, rfl⟩
                rw [← ebr] at hrg0 hgs ⊢
                have hr5 : w5.heap.size ≤ br := by rw [ebr]; exact HRW.out.below.size
                have HRW0 : Hid (RowW w5 w0 g nF c FR) := hid ⟨HRW.out.below.grown hg0 HRW.out.below.size (fun q hq => by cases hq), HRW.out.own.kept hg0 (.inr (fun e => by cases e))⟩
                have HRG0 := hid hrg0
                clear ebr hrg0 hg0 hs0 hD HQ
                go_loopw [15] (fun _ wr => ∃ (left : Lit → Bool) (cnt : Nat), Hid (wr.ranges Try.prog 3 (plainElem Try.prog 3) bm br S.length D left cnt) ∧ Hid (∀ kl, left kl = true → Maps.has D kl = true) ∧ Hid (RowW w5 wr g nF c FR)) (fun _ wr => wr.rangeLeft bm br)
                case atStart => exact ⟨_, _, HRG0, hid (fun kl h => h), HRW0⟩
                case round =>
                  clear HRG0 HRW0
                  obtain ⟨left, cnt, HRG, HLF, HR⟩ := hrel
                  obtain ⟨wq, rfl⟩ : ∃ wo : World, wo = wr := ⟨_, rfl⟩
                  have hrg := HRG.out
                  go_wp2_with (first | (at_next; refine wpList_next_ranges_ii _ rfl _ rfl 3 3 .i64 .i64 (Go.Maps.int_keyed Try.underlying3) Try.underlying3 Try.underlying3 bm br S.length _ _ _ rfl hrg ?_ ?_) | fail)
                  · intro _ hl0
                    have hown := hrg.owns
                    have hszl : Maps.size D = S.length := HSZ.out
                    have HB6 := hid (H5.out.trans (HR.out.below.mono H5.out.size))
                    go_wp2_with (first | (at_len; refine wpList_len_own _ rfl _ 30 rfl 3 3 Try.underlying30 _ bm S.length D rfl hown ?_; rw [hszl]) | fail)
                    go_ret
                    exact Gives.mk rfl (HB1.out.trans (HB6.out.mono HB1.out.size))
                  · intro xk cv w1' cnt1 hwx hwc hlx hat hrg1 hlt1 hg1 hs1 hen
                    have hhas := HLF.out _ hlx
                    rw [(HDK.out xk).1, mapF_all] at hhas
                    have hme : xk ∈ S := by
                      by_cases h : xk ∈ S
                      · exact h
                      · rw [if_neg h] at hhas; cases hhas
                    rw [HST.out] at hme
                    obtain ⟨t, rfl, ht, hcf⟩ := stuckK_mem.1 hme
                    have HLA := hid (lackK_can (OK.out.ml t ht) (HLK.out t ht hcf))
                    have HRG1 := hid hrg1
                    have HLT1 := hid hlt1
                    have HR1 := hid (HR.out.grownM hg1 (by omega) hr5)
                    have HLF1 : Hid (∀ kl, (left kl && !kl.sameKey (.int .i64 (t : Int))) = true → Maps.has D kl = true) := hid (fun kl h => HLF.out kl (by simp at h; exact h.1))
                    clear hrg hrg1 hlt1 hg1 hs1 hat hwc hwx hlx hhas hme hcf
                    obtain ⟨bh, oh, Rh, ch, eh, q0, k0⟩ := HX5.out.h.at (i := t) (by rw [OK.out.eh]; exact ht)
                    obtain ⟨bn, on, Rm, cm, em, p0, l0⟩ := HX5.out.m.at (i := t) (by rw [OK.out.em]; exact ht)
                    rw [EAD.out.1] at eh
                    rw [EAD.out.2] at em
                    subst eh
                    subst em
                    rw [show (rAt x.H t).2.2.length = nF from OK.out.hl t ht] at q0
                    rw [show (rAt x.M t).2.2.length = nF from OK.out.ml t ht] at p0
                    have HP0 := hid p0
                    have HQ0 := hid q0
                    have HK0 := hid k0
                    have HL0 := hid l0
                    clear p0 q0 k0 l0
                    go_wp2_with fail
                    clear hen
                    go_loopw [160, 16] (fun p lv wr => ∃ (j nq : Nat), p = .int .i64 j ∧ j ≤ nF ∧ lv = .bool (lackK (mostR x t) (hasR x t) FR j) ∧ wr = w1'.drewN nq) (fun p _ _ => nF - (intOf p).toNat)
                    case atStart => exact ⟨0, 0, rfl, by omega, rfl, rfl⟩
                    case round =>
                      obtain ⟨j, nq, rfl, hj, rfl, rfl⟩ := hrel
                      by_cases hlk : j < nF
                      · have HBR := hid (H5.out.trans (HR1.out.below.mono H5.out.size))
                        obtain ⟨z0, z1, z2, hlb⟩ := BX.out w1' HBR.out
                        have p0 := (HR1.out.below.cell (lt_of_cell HP0.out)).trans HP0.out
                        have q0 := (HR1.out.below.cell (lt_of_cell HQ0.out)).trans HQ0.out
                        obtain ⟨b1, o1, rfl, hc0⟩ := i64_at HK0.out (k := j) (by rw [show (rAt x.H t).2.2.length = nF from OK.out.hl t ht]; exact hlk)
                        have hc1 : w1'.cell? ⟨b1, o1 + j, none⟩ = some (.int .i64 (atL (hasR x t) j)) := (HR1.out.below.cell (lt_of_cell hc0)).trans hc0
                        obtain ⟨b2, o2, rfl, hc2⟩ := i64_at HL0.out (k := j) (by rw [show (rAt x.M t).2.2.length = nF from OK.out.ml t ht]; exact hlk)
                        have hc3 : w1'.cell? ⟨b2, o2 + j, none⟩ = some (.int .i64 (atL (mostR x t) j)) := (HR1.out.below.cell (lt_of_cell hc2)).trans hc2
                        have cc := HR1.out.cell (k := j) hlk
                        have a1 := HFO.out.2 j hlk
                        have a2 := OK.out.hv t ht j hlk
                        have a3 := OK.out.mv t ht j hlk
                        have HLS := hid (lackK_succ (mostR x t) (hasR x t) FR j)
                        obtain ⟨lk, elk⟩ : ∃ v, lackK (mostR x t) (hasR x t) FR j = v := ⟨_, rfl⟩
                        rw [elk] at HLS
                        obtain ⟨u, eu⟩ : ∃ u, atL FR j = u := ⟨_, rfl⟩
                        obtain ⟨v, ev⟩ : ∃ v, atL (hasR x t) j = v := ⟨_, rfl⟩
                        obtain ⟨m, em⟩ : ∃ v, atL (mostR x t) j = v := ⟨_, rfl⟩
                        rw [eu] at cc a1 HLS
                        rw [ev] at hc1 a2 HLS
                        rw [em] at hc3 a3 HLS
                        have hwm : IntKind.i64.wrap (m - v) = m - v := by rw [IntKind.wrap_i64]; omega
                        have htn : (t : Int) < (nm : Int) := by omega
                        have ht0 : (0 : Int) ≤ (t : Int) := by omega
                        have hjn : (j : Int) < (nF : Int) := by omega
                        have HA := hid (And.intro a1 (And.intro a2 a3))
                        rw [elk]
                        clear eu ev em elk hc0 hc2 a1 a2 a3
                        cases lk with
                        | true =>
                          go_wp2_with fail
                          go_quiet (fail)
                          go_wp2_with fail
                          go_roundw
                          case rel => exact ⟨j + 1, _, by go_num, by omega, by rw [HLS.out]; rfl, by first | rfl | trivial | exact World.drewN_drewN⟩
                          case measure => simp [intOf]; omega
                        | false =>
                          by_cases hgt : u < m - v
                          · go_wp2_with fail
                            go_quiet (fail)
                            go_wp2_with fail
                            go_roundw
                            case rel => exact ⟨j + 1, _, by go_num, by omega, by rw [HLS.out]; simp [hgt], by first | rfl | trivial | exact World.drewN_drewN⟩
                            case measure => simp [intOf]; omega
                          · go_wp2_with fail
                            go_quiet (fail)
                            go_wp2_with fail
                            go_roundw
                            case rel => exact ⟨j + 1, _, by go_num, by omega, by rw [HLS.out]; simp [hgt], by first | rfl | trivial | exact World.drewN_drewN⟩
                            case measure => simp [intOf]; omega
                      · obtain rfl : nF = j := by omega
                        have hla := HLA.out
                        go_wp2_with fail
                        go_roundw
                        case rel => exact ⟨fun z => left z && !z.sameKey (Lit.int IntKind.i64 (t : Int)), cnt1, hid (ranges_drewN HRG1.out nq), HLF1, hid ⟨HR1.out.below.trans ⟨rfl, rfl, rfl, Nat.le_refl _, fun _ _ => rfl⟩, HR1.out.own⟩⟩
                        case measure =>
                          have e1 : (w1'.drewN nq).rangeLeft bm br = cnt1 := HRG1.out.left_eq
                          rw [e1, HRG.out.left_eq]
                          exact HLT1.out
      | some lo =>
        have hS : S = [] := by
          rw [HST.out, ← ENF.out.2.2.1]
          exact List.length_eq_zero_iff.1 (by have h1 : ¬ 0 < (stuckK (servedF x) x.H.length).length := fun h => by have := (orderF_none ER.out).2 h; rw [HORD.out] at this; cases this
                                              omega)
        have hlo : lo = servedF x := by
          have h1 := HORD.out
          unfold orderF at h1
          split at h1
          · exact (by injection h1 with h1; exact h1.symm)
          · cases h1
        rw [← hlo] at HSV
        have hlen : lo.length = nm := by
          have h1 := HSV.out.len
          have h2 : stuckK lo nm = [] := by rw [hlo, ← HST.out]; exact hS
          rw [h2] at h1
          simpa using h1
        subst hS
        clear HST HSN hlo hsl HORD
        go_upto_region 6 with (go_at_call 10; refine (PO.out _ H4.out).mono ?_; rintro _ w5 ⟨Ao, do', rfl, hb5, ho5⟩; have HB5 := hid hb5; have HO5 := hid (Cells.of_own ho5); clear hb5 ho5)
        have H5 := hid (H4.out.trans (HB5.out.mono H4.out.size))
        clear z0 z1 z2 hlb HB5 PO
        obtain ⟨z0, z1, z2, hlb⟩ := BX.out w5 H5.out
        have HX5 := hid (HX1.out.below H5.out)
        obtain ⟨bF, oF, eF, -⟩ := i64_at HX5.out.f (k := 0) (by rw [OK.out.ef]; omega)
        rw [ENF.out.1] at eF
        subst eF
        have HN := hid (news_of (by have := HX5.out.f; rw [ENF.out.1] at this; exact this) 3)
        have HIL := hid (show (i64s x.F.2.2).length = nF by rw [i64s_length, OK.out.ef])
        go_upto_region 7 with (at_builtin; refine wpList_append_own_at _ rfl (.tmp 33) (.tmp 35) 22 rfl w5.heap.size 3 i0 (.int .i64 0) 1 8 Try.underlying22 hi hz0 hz1 hz2 rfl (by decide) _ 0 [] rfl (World.ownsRow_lit (base := w5.heap.size) (size := 1) w5 #[] 0 (Nat.le_refl _) (by unfold maxLen; omega) rfl) ⟨bF, oF, none⟩ nF x.F.2.1 (i64s x.F.2.2) (by rfl) (by rw [HIL.out]; simp) HN.out (i64s_one x.F.2.2) (by unfold maxLen; omega) (by omega) (by simp) ?_; intro v' w6 hown' hgrow hq7 hq8; clear hq7 hq8)
        simp only [Nat.zero_add, List.nil_append] at hown'
        obtain ⟨g, c, rfl, -⟩ := own_succ hown' (by omega)
        have HR6 : Hid (RowW w5 w6 g nF c x.F.2.2) := hid ⟨((Below.refl w5.heap.size w5).alloc (Nat.le_refl _) (.cells #[] 3)).grown hgrow (by simp) (fun q hq => by have e : some w5.heap.size = some q := hq; injection e with e; omega), hown'⟩
        have hgb := HR6.out.lt.2
        have hbb := HR6.out.below.size
        obtain ⟨bm, ebm⟩ : ∃ b, b = w6.heap.size := ⟨_, rfl⟩
        have HO7 : Hid (OrW w5 (w6.alloc (.map #[] 0)) g nF c bm x.F.2.2 (mapF lo (-1) 0) 0) := hid ⟨by
          have hb := (Below.refl w6.heap.size w6).alloc (Nat.le_refl _) (.map #[] 0)
          exact ⟨HR6.out.below.trans (hb.mono HR6.out.below.size), own_below HR6.out.own hb (Nat.le_refl _)⟩, by rw [ebm]; exact (MapI.made w6).ext (fun z => (mapF_zero lo _ z).symm)⟩
        rw [← ebm] at hgb hbb
        clear hown' hgrow z0 z1 z2 hlb HR6
        go_upto_region 8 with (fail)
        rw [← ebm]
        obtain ⟨w7, ew7⟩ : ∃ W, W = w6.alloc (.map #[] 0) := ⟨_, rfl⟩
        rw [← ew7] at HO7 ⊢
        clear ebm ew7
        have H7 := hid (H5.out.trans (HO7.out.row.below.mono H5.out.size))
        obtain ⟨z0, z1, z2, hlb⟩ := BX.out w7 H7.out
        go_upto_region 9 with (go_at_call 11; refine (PT.out _ H7.out).mono ?_; rintro _ w8 ⟨As, cs, rfl, hb8, -⟩; have HB8 := hid hb8; clear hb8)
        have HO8 := hid (HO7.out.far HB8.out)
        clear z0 z1 z2 hlb HB8 H7 HO7
        have HLN := hid HSV.out.all.nodup
        go_wp2_with fail
        go_loopw [41] (fun i wr => i = .int .i64 0 ∧ Hid (OrW w5 wr g nF c bm x.F.2.2 (mapF lo (-1) 0) 0)) (fun _ _ => 0)
        case atStart => exact ⟨rfl, HO8⟩
        case round =>
          clear HO8
          obtain ⟨rfl, HO8⟩ := hrel
          go_wp2_with fail
          go_loopw [53] (fun i wr => ∃ q : Nat, i = .int .i64 q ∧ q ≤ nm ∧ Hid (OrW w5 wr g nF c bm (freeA x x.F.2.2 (lo.take q)) (mapF lo (-1) q) q)) (fun i _ => nm - (intOf i).toNat)
          case atStart => exact ⟨0, rfl, by omega, HO8⟩
          case round =>
            clear HO8
            obtain ⟨q, rfl, hq, HQ⟩ := hrel
            obtain ⟨wo, rfl⟩ : ∃ wo : World, wo = wr := ⟨_, rfl⟩
            have HBW := hid (H5.out.trans (HQ.out.row.below.mono H5.out.size))
            obtain ⟨z0, z1, z2, hlb⟩ := BX.out wo HBW.out
            by_cases hlt : q < nm
            · obtain ⟨t, et, ht, hcan⟩ := can_next HSV.out.all (q := q) (by omega)
              obtain ⟨bO, oO, rfl, hc⟩ := i64_at HO5.out (k := q) (by omega)
              have hc := (HQ.out.row.below.cell (lt_of_cell hc)).trans hc
              rw [show atL lo q = t from by unfold atL; rw [et]; rfl] at hc
              have hti : I64 (t : Int) := by unfold I64; omega
              have hlk := HQ.out.look (x := (t : Int)) hti
              rw [mapF_none HLN.out et] at hlk
              obtain ⟨wm, hst, hom, -⟩ := HQ.out.store hgb hbb (x := (t : Int)) (y := -1) hti (by unfold I64; omega) (by omega) (mapF_none HLN.out et) (mapF_succ et)
              have HOM := hid hom
              have HCAN := hid hcan
              have HFO := hid (freeA_okL OK.out (lo.take q) _ _ (free_start OK.out) (fun i hi => HSV.out.all.mem i (List.mem_of_mem_take hi)))
              have HET := hid et
              clear hom hcan et HQ
              have hg1 : decide ((t : Int) < 0) = false := by simp
              have hg2 : decide (nm ≤ t) = false := by simp; omega
              go_upto_region 20 with (fail)
              clear hg1 hg2
              clear hst hlk hc z0 z1 z2 hlb
              obtain ⟨bh, oh, Rh, ch, eh, q0, k0⟩ := HX5.out.h.at (i := t) (by rw [OK.out.eh]; exact ht)
              obtain ⟨bn, on, Rm, cm, em, p0, l0⟩ := HX5.out.m.at (i := t) (by rw [OK.out.em]; exact ht)
              rw [EAD.out.1] at eh
              rw [EAD.out.2] at em
              subst eh
              subst em
              rw [show (rAt x.H t).2.2.length = nF from OK.out.hl t ht] at q0
              rw [show (rAt x.M t).2.2.length = nF from OK.out.ml t ht] at p0
              have HP0 := hid p0
              have HQ0 := hid q0
              have HK0 := hid k0
              have HL0 := hid l0
              obtain ⟨fr, efr⟩ : ∃ l, freeA x x.F.2.2 (lo.take q) = l := ⟨_, rfl⟩
              have HSU : Hid (freeA x x.F.2.2 (lo.take (q + 1)) = plusF fr (hasR x t) 1) := hid (by rw [List.take_add_one, HET.out, ← efr, Option.toList_some, freeA_snoc, Int.toNat_natCast])
              rw [efr] at HOM HFO HCAN
              have HCW := hid (withK_iff.1 HCAN.out)
              have HR1 : Hid (OrW w5 wm g nF c bm (plusK fr (hasR x t) 1 0) (mapF lo (-1) (q + 1)) (q + 1)) := hid (by rw [plusK_zero]; exact HOM.out)
              clear p0 q0 k0 l0 efr HOM HCAN
              go_wp2_with fail
              go_loopw [76] (fun p wr => ∃ j : Nat, p = .int .i64 j ∧ j ≤ nF ∧ Hid (OrW w5 wr g nF c bm (plusK fr (hasR x t) 1 j) (mapF lo (-1) (q + 1)) (q + 1))) (fun p _ => nF - (intOf p).toNat)
              case atStart => exact ⟨0, rfl, by omega, HR1⟩
              case round =>
                clear HR1
                obtain ⟨j, rfl, hj, HR⟩ := hrel
                by_cases hlk : j < nF
                · have HBR := hid (H5.out.trans (HR.out.row.below.mono H5.out.size))
                  obtain ⟨z0, z1, z2, hlb⟩ := BX.out wr HBR.out
                  have p0 := (HR.out.row.below.cell (lt_of_cell HP0.out)).trans HP0.out
                  have q0 := (HR.out.row.below.cell (lt_of_cell HQ0.out)).trans HQ0.out
                  obtain ⟨b1, o1, rfl, hc0⟩ := i64_at HK0.out (k := j) (by rw [show (rAt x.H t).2.2.length = nF from OK.out.hl t ht]; exact hlk)
                  have hc1 : wr.cell? ⟨b1, o1 + j, none⟩ = some (.int .i64 (atL (hasR x t) j)) := (HR.out.row.below.cell (lt_of_cell hc0)).trans hc0
                  obtain ⟨b2, o2, rfl, hc2⟩ := i64_at HL0.out (k := j) (by rw [show (rAt x.M t).2.2.length = nF from OK.out.ml t ht]; exact hlk)
                  have hc3 : wr.cell? ⟨b2, o2 + j, none⟩ = some (.int .i64 (atL (mostR x t) j)) := (HR.out.row.below.cell (lt_of_cell hc2)).trans hc2
                  have cc := HR.out.row.cell (k := j) hlk
                  have fc := HR.out.row.frozen j
                  have lc := HR.out.row.lt.2
                  rw [plusK_at (by rw [HFO.out.1]; exact hlk), if_neg (Nat.lt_irrefl _)] at cc
                  have hst := plusK_set (a := fr) (b := hasR x t) (s := 1) (k := j) (by rw [HFO.out.1]; exact hlk)
                  rw [Int.one_mul] at hst
                  have a1 := HFO.out.2 j hlk
                  have a2 := OK.out.hv t ht j hlk
                  have a3 := OK.out.mv t ht j hlk
                  have a4 := HCW.out j hlk
                  rw [plusF_at (by rw [OK.out.ml t ht]; exact hlk)] at a4
                  have a5 : (lo.take q).length ≤ 8 := by rw [List.length_take]; omega
                  obtain ⟨u, eu⟩ : ∃ u, atL fr j = u := ⟨_, rfl⟩
                  obtain ⟨v, ev⟩ : ∃ v, atL (hasR x t) j = v := ⟨_, rfl⟩
                  obtain ⟨m, em⟩ : ∃ v, atL (mostR x t) j = v := ⟨_, rfl⟩
                  rw [eu] at cc a1 hst a4
                  rw [ev] at hc1 a2 hst a4
                  rw [em] at hc3 a3 a4
                  have hwr : IntKind.i64.wrap (u + v) = u + v := by rw [IntKind.wrap_i64]; omega
                  have hwm : IntKind.i64.wrap (m - v) = m - v := by rw [IntKind.wrap_i64]; omega
                  have hgt : ¬ u < m - v := by omega
                  have HN : Hid (∀ nq, OrW w5 ((wr.drewN nq).drew.setCell ⟨g, j, none⟩ (.int .i64 (u + v))) g nF c bm (plusK fr (hasR x t) 1 (j + 1)) (mapF lo (-1) (q + 1)) (q + 1)) := hid (fun nq => hst ▸ ((HR.out.drewN nq).drew.set hgb j (u + v)))
                  have HA := hid (And.intro a1 (And.intro a2 (And.intro a3 a4)))
                  clear eu ev em hst hc0 hc2 a1 a2 a3 a4 a5
                  go_wp2_with fail
                  go_quiet (fail)
                  go_upto_region 25 with (fail)
                  have HN := hid (HN.out nq)
                  obtain ⟨W4, eW4⟩ : ∃ W, W = wr.drewN nq := ⟨_, rfl⟩
                  have z1' : W4.cell? ⟨w.heap.size, 1, none⟩ = some (.slice (some ⟨bh, oh, none⟩) nm x.cH) := (by rw [eW4]; exact z1)
                  have hlb' : w.heap.size < W4.heap.size := (by rw [eW4]; exact hlb)
                  have q0' : W4.cell? ⟨bh, oh + t, none⟩ = some (.slice (some ⟨b1, o1, none⟩) nF ch) := (by rw [eW4]; exact q0)
                  have hc1' : W4.cell? ⟨b1, o1 + j, none⟩ = some (.int .i64 v) := (by rw [eW4]; exact hc1)
                  have cc' : W4.cell? ⟨g, j, none⟩ = some (.int .i64 u) := (by rw [eW4]; exact cc)
                  have fc' : W4.frozen? ⟨g, j, none⟩ = false := (by rw [eW4]; exact fc)
                  have lc' : g < W4.heap.size := (by rw [eW4]; exact lc)
                  rw [← eW4] at HN ⊢
                  clear eW4 z0 z1 z2 hlb p0 q0 hc1 hc3 cc fc lc
                  go_still_tail 14, (by kernel_rfl)
                  change wpList _ _ _ _ _ W4.drew
                  obtain ⟨W5, eW5⟩ : ∃ W, W = W4.drew := ⟨_, rfl⟩
                  have cc : W5.cell? ⟨g, j, none⟩ = some (.int .i64 u) := (by rw [eW5]; exact cc')
                  have fc : W5.frozen? ⟨g, j, none⟩ = false := (by rw [eW5]; exact fc')
                  have lc : g < W5.heap.size := (by rw [eW5]; exact lc')
                  rw [← eW5] at HN ⊢
                  clear eW5 z1' hlb' q0' hc1' cc' fc' lc'
                  go_wp2_with fail
                  go_roundw
                  case rel => exact ⟨j + 1, by go_num, by omega, HN⟩
                  case measure => simp [intOf]; omega
                · obtain rfl : nF = j := by omega
                  have HE : Hid (OrW w5 wr g nF c bm (freeA x x.F.2.2 (lo.take (q + 1))) (mapF lo (-1) (q + 1)) (q + 1)) := hid (by rw [HSU.out, ← plusK_all, HFO.out.1]; exact HR.out)
                  go_wp2_with fail
                  go_roundw
                  case rel => exact ⟨q + 1, by go_num, by omega, HE⟩
                  case measure => simp [intOf]; omega
            · obtain rfl : nm = q := by omega
              go_wp2_with fail
              go_ret
              exact Gives.mk rfl (HB1.out.trans (HBW.out.mono HB1.out.size))
theorem bankOrder_own : ownKnob Try.prog.godebug = none := by kernel_rfl
theorem bankOrder_laidOut : laidOutB Try.prog = true := by kernel_rfl
theorem bankOrder_types : ∀ t ∈ Try.f3.params.toList, Try.prog.readableRec t = true ∧ t < Try.prog.types.size := by
  rw [Try.params3]
  intro t ht
  simp only [List.mem_cons, List.not_mem_nil, or_false] at ht
  rcases ht with rfl
  · exact ⟨by kernel_rfl, of_decide_eq_true (by kernel_rfl)⟩
set_option maxRecDepth 100000 in
theorem bankOrder_lifted (os : Os) (started : os.Started) (H : Type) (enc : TypeId × Value → H) :
    ReturnsInHanded {} Try.checked os 3 .any (Rows.bankOrderSpec.pre6 enc Try.prog Try.f3 Rows.bankOrderRow.domain false) (Rows.bankOrderSpec.post enc Try.prog Try.f3 false true false false) := by
  refine returnsInHanded_of_change (C := Try.checked) bankOrder_own started (by kernel_rfl) Try.func3
    (ChangeSpec.witness6 (enc := enc) (C := Try.checked) false ⟨#[], #[.agg #[.slice none 0 0, .slice none 0 0, .slice none 0 0]], []⟩ 8 (by kernel_rfl) (by kernel_rfl) (by kernel_rfl) (by kernel_rfl)) ?_
  intro W base args ds gs before hval0 hW hcnd _
  have hval : ∀ (j : Nat) t v, Try.f3.params[j]? = some t → args[j]? = some v → Value.okWide Try.prog W .any base t v := hval0
  have hW' := hW
  obtain ⟨p, q, hA0, hV, hpq, hfz, hnd⟩ := hW
  have hA : DataW.TrodAll enc Try.prog W 0 (fun _ => true) true Try.f3.params.toList args.toList ds p := hA0
  rw [Try.params3] at hA hval
  obtain ⟨v0, vs0, d0, ds0, p0, q0, hargs, rfl, rfl, h0, r0⟩ := trodAll_cons hA
  obtain ⟨rfl, rfl, rfl⟩ := trodAll_nil r0
  obtain rfl : args = #[v0] := by cases args; simp_all
  have k0 := hval 0 25 v0 rfl rfl
  clear hA0 hval0 hval hcnd hfz hnd hpq hV hargs r0
  suffices hs : Calls Try.prog 3 #[v0] W (Gives (.bool true) W) from hs.mono fun e W' ⟨he, x, hx⟩ => ⟨_, he, law_post bankOrder_laidOut hW' rfl rfl (by kernel_rfl) (by first | exact Try.underlying4 | rfl) bankOrder_types (hx ▸ W.below_past x)⟩
  clear hW'
  obtain ⟨c0, rfl, g0⟩ := rd_agg (.inl ⟨_, Try.underlying25⟩) k0 h0
  obtain ⟨x, rfl, hx⟩ := rd_bank g0
  exact BankOrder_any x W hx
theorem bankOrder_holds : Rows.BankOrderSaid :=
  OpenClaim.holds_of_wide 3 Try.f3 rfl rfl rfl rfl rfl rfl rfl ⟨rfl, rfl, rfl, rfl, rfl⟩ rfl rfl rfl rfl rfl (by kernel_rfl) Try.func3 (by kernel_rfl)
    (of_decide_eq_true (by kernel_rfl)) (by unfold Func.isWrapper; first | (rw [if_pos (by decide +kernel)]; kernel_rfl) | (rw [if_neg (by decide +kernel)]; exact ⟨rfl, rfl⟩))
    (fun os started H enc _ => bankOrder_lifted os started H enc)
end Go.Proofs.Ytddngloojacceaa
