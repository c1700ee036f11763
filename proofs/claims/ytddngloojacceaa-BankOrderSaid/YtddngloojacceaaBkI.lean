/-
  Layer 44: all that can be served, one behind the other. No condition but that the bank may be.
-/
import Derived.Test.YtddngloojacceaaBkH
import Derived.Deep.CutBlock
import Derived.StillTailTactics
namespace Go.Proofs.Ytddngloojacceaa
open Go Go.RowKit
/-- A row of ints of the call's own. -/
structure LeftW (w wr : World) (g m : Nat) (L : List Int) : Prop where
  below : Below w.heap.size w wr
  own : wr.ownsRow w.heap.size 3 1 (.slice (some ⟨g, 0, none⟩) m m) m (i64s L)
section
variable {w wr : World} {g m : Nat} {L : List Int}
theorem LeftW.drew (h : LeftW w wr g m L) : LeftW w wr.drew g m L := ⟨h.below.drew, h.own.drew⟩
theorem LeftW.len (h : LeftW w wr g m L) : L.length = m := by have := h.own.1; simpa [i64s] using this
theorem LeftW.lt (h : LeftW w wr g m L) : w.heap.size ≤ g ∧ g < wr.heap.size := h.own.lt g rfl
theorem LeftW.cell (h : LeftW w wr g m L) {k : Nat} (hk : k < m) : wr.cell? ⟨g, k, none⟩ = some (.int .i64 (atL L k)) := by
  rw [h.own.cellAt k (by omega)]
  have := h.len
  simp [i64s, atL, show k < L.length by omega]
theorem LeftW.frozen (h : LeftW w wr g m L) (k : Nat) : wr.frozen? ⟨g, k, none⟩ = false := h.own.frozenAt k
theorem LeftW.set (h : LeftW w wr g m L) (k : Nat) (x : Int) : LeftW w (wr.setCell ⟨g, k, none⟩ (.int .i64 x)) g m (L.set k x) := by
  refine ⟨h.below.setCell (p := ⟨g, k, none⟩) h.lt.1 _, ?_⟩
  have := (h.own.stored k (.int .i64 x)).1
  have e : i64s (L.set k x) = (i64s L).set k (.int .i64 x) := by simp [i64s, List.map_set]
  rw [e]
  exact this
end
theorem lt_of_cell {w : World} {a : Addr} {v : Value} (h : w.cell? a = some v) : a.block < w.heap.size := World.block_lt_of_cell? w a h
def lenC (v : Value) : Nat := match v with | .slice _ n _ => n | _ => 0
theorem mem_left {left : List Int} {nh : Nat} (h : ∀ i ∈ left, ∃ q : Nat, i = q ∧ q < nh) {j : Nat} (hj : j < left.length) : ∃ q : Nat, atL left j = q ∧ q < nh := h _ (by simp [atL, hj])
theorem serveN_none {x : Bk} {k : Nat} {free left out : List Int} (h : left.findIdx? (fun i => canK x free i.toNat k) = none) : ∀ m, serveN x k m free left out = out
  | 0 => rfl
  | m + 1 => by rw [serveN, h]
theorem serveN_some {x : Bk} {k m j : Nat} {free left out : List Int} (h : left.findIdx? (fun i => canK x free i.toNat k) = some j) : serveN x k (m + 1) free left out = serveN x k m (plusF free (hasR x (atL left j).toNat) 1) (left.eraseIdx j) (out ++ [atL left j]) := by rw [serveN, h]
theorem find_lt {p : Int → Bool} {l : List Int} {j : Nat} (h : l.findIdx? p = some j) : j < l.length := (List.findIdx?_eq_some_iff_getElem.1 h).1
/-- What is free stays small. -/
def FreeOk (free : List Int) (k b : Nat) : Prop := free.length = k ∧ ∀ j, j < k → 0 ≤ atL free j ∧ atL free j ≤ (b : Int) * 1000000
theorem FreeOk.sml {free : List Int} {k b : Nat} (h : FreeOk free k b) (hb : b ≤ 100) : Sml free := fun j => by
  by_cases hj : j < k
  · have := h.2 j hj; omega
  · unfold atL; rw [List.getElem?_eq_none (by have := h.1; omega)]; simp
theorem FreeOk.plus {free l : List Int} {k b : Nat} (h : FreeOk free k b) (hl : l.length = k) (hv : ∀ j, j < k → 0 ≤ atL l j ∧ atL l j ≤ 1000000) : FreeOk (plusF free l 1) k (b + 1) :=
  ⟨by rw [plusF_length]; exact h.1, fun j hj => by
    rw [plusF_at (by rw [h.1]; exact hj)]
    have h1 := h.2 j hj
    have h2 := hv j hj
    push_cast
    omega⟩
set_option maxRecDepth 100000 in
set_option maxHeartbeats 4000000 in
theorem serve_any (x : Bk) (k nh : Nat) (ok : x.Ok k nh) (w : World) (hx : x.In w) :
    Calls Try.prog 22 #[.agg x.cs] w (GivesOwn 3 1 (serveF x k nh).length (i64s (serveF x k nh)) w) := by
  obtain ⟨i0, hi, hz0, hz1, hz2⟩ := info_parts info_i64
  obtain ⟨w1, ew1⟩ : ∃ w1, w1 = w.alloc (.cells x.cs 25) := ⟨_, rfl⟩
  have hb1 : Below w.heap.size w w1 := by rw [ew1]; exact (Below.refl _ w).alloc (Nat.le_refl _) _
  have hrec : Rec w1 w.heap.size 25 x.cs := by rw [ew1]; exact Rec.new w _ _
  have hsz1 : w1.heap.size = w.heap.size + 1 := by rw [ew1]; simp
  have r0 := Rec.cell hrec 0
  have r1 := Rec.cell hrec 1
  simp only [Bk.cs] at r0 r1
  simp [ok.ef, ok.eh] at r0 r1
  have hk1 := ok.k1
  have hk4 := ok.k4
  have h8 := ok.h8
  have HCL := hid (clone_any x.F.1 x.F.2.1 k x.F.2.2 ok.ef (by omega) (by omega) w1 (hx.below hb1).f)
  have hcs : x.cs = #[.slice x.F.1 k x.F.2.1, .slice x.AH nh x.cH, .slice x.AM nh x.cM] := by unfold Bk.cs; rw [ok.ef, ok.eh, ok.em]
  obtain ⟨AH, eAH⟩ : ∃ z, x.AH = z := ⟨_, rfl⟩
  rw [eAH] at hcs r1
  have EAH := hid eAH
  have EW1 := hid ew1
  have HSZ := hid hsz1
  have HREC := hid hrec
  have HB1 := hid hb1
  have HX := hid hx
  have OK := hid ok
  have HCS := hid hcs
  rw [hcs] at EW1 ⊢
  clear ew1 hb1 hrec hx ok hcs hsz1 eAH
  obtain ⟨bb, ebb⟩ : ∃ b, b = w.heap.size := ⟨_, rfl⟩
  rw [← ebb] at r0 r1
  have EBB := hid ebb
  clear ebb
  go_enter Try.func22, Try.ntmps22
  go_upto_region 1 with (fail)
  rw [← EW1.out, ← EBB.out]
  go_upto_region 2 with (go_at_call 34; refine HCL.out.mono ?_; rintro _ w2 ⟨A0, c0, rfl, hb2, ho2⟩; have HO2 := hid ho2; have HB2 := hid hb2; clear hb2 ho2)
  have r1' : (w2.alloc (.cells #[.slice A0 k c0] 22)).cell? ⟨bb, 1, none⟩ = some (.slice AH nh x.cH) := by
    rw [(HB2.out.alloc HB2.out.size _).cell (p := ⟨bb, 1, none⟩) (by rw [HSZ.out, EBB.out]; exact Nat.lt_succ_self _)]
    exact r1
  obtain ⟨w3, ew3⟩ : ∃ w3, w3 = w2.alloc (.cells #[.slice A0 k c0] 22) := ⟨_, rfl⟩
  rw [← ew3] at r1' ⊢
  obtain ⟨bf, ebf⟩ : ∃ b, b = w2.heap.size := ⟨_, rfl⟩
  rw [← ebf]
  have EW3 := hid ew3
  have EBF := hid ebf
  clear ew3 ebf r0 r1
  go_upto_region 3 with (at_make; refine wpList_make_full _ rfl (.tmp 13) (.tmp 13) 22 rfl w3.heap.size 3 i0 (.int .i64 0) 1 Try.underlying22 hi hz0 hz1 .i64 .i64 _ _ nh rfl rfl rfl rfl ?_ ?_ ?_ ?_; (· rw [hz2]; omega); (· unfold maxLen; omega); (· simp [go_sem]); intro w4 hrow hg4)
  obtain ⟨g, eg⟩ : ∃ g, g = w3.heap.size := ⟨_, rfl⟩
  rw [← eg] at hrow ⊢
  have HW0 : Hid (LeftW w3 w4 g nh (iotaK nh 0)) := hid (by
    refine ⟨(Below.refl _ w3).grown hg4 (Nat.le_refl _) (fun _ h => by cases h), ?_⟩
    rw [iotaK_zero, ← eg]
    simpa [toList_madeCells_one, Value.cells, i64s] using hrow)
  have EG := hid eg
  clear hrow hg4 eg HCL r1' EW1
  go_wp2_with fail
  go_loopw [17] (fun i wr => ∃ q : Nat, i = .int .i64 q ∧ q ≤ nh ∧ Hid (LeftW w3 wr g nh (iotaK nh q))) (fun i _ => nh - (intOf i).toNat)
  case atStart => exact ⟨0, rfl, by omega, HW0⟩
  case round =>
    clear HW0
    obtain ⟨q, rfl, hq, HW⟩ := hrel
    by_cases hlt : q < nh
    · have hcj := HW.out.cell (k := q) hlt
      have hfj := HW.out.frozen q
      have hlg := HW.out.lt.2
      obtain ⟨y, ey⟩ : ∃ y, atL (iotaK nh q) q = y := ⟨_, rfl⟩
      rw [ey] at hcj
      have HN : Hid (LeftW w3 (wr.setCell ⟨g, q, none⟩ (.int .i64 q)) g nh (iotaK nh (q + 1))) := hid (by
        rw [← iotaK_set hlt]; exact HW.out.set q _)
      clear ey
      go_wp2_with fail
      go_roundw
      case rel => exact ⟨q + 1, by go_num, by omega, HN⟩
      case measure => simp [intOf]; omega
    · obtain rfl : q = nh := by omega
      have HS0 : Hid (SvW w wr bb bf x k (.slice A0 k c0) (.slice (some ⟨g, 0, none⟩) q q) (.slice none 0 0) x.F.2.2 (iota q) []) := hid (by
        have h1 := HB1.out
        have h2 : Below w.heap.size w w2 := h1.trans (HB2.out.mono h1.size)
        have h3 : Below w.heap.size w w3 := by rw [EW3.out]; exact h2.alloc h2.size _
        have h32 : Below w2.heap.size w2 w3 := by rw [EW3.out]; exact (Below.refl _ w2).alloc (Nat.le_refl _) _
        have h3r := HW.out.below
        have h2r : Below w2.heap.size w2 wr := h32.trans (h3r.mono h32.size)
        have hr1 : Below w1.heap.size w1 wr := HB2.out.trans (h2r.mono HB2.out.size)
        have hs2 := HB2.out.size
        have hs3 := h32.size
        have hbx : Rec w3 bf 22 #[.slice A0 k c0] := by rw [EW3.out, EBF.out]; exact Rec.new w2 _ _
        have hlo := HW.out.own
        rw [iotaK_all] at hlo
        refine ⟨h3.trans (h3r.mono h3.size), EBB.out ▸ HREC.out.below hr1 (Nat.le_refl _), hbx.below h3r (Nat.le_refl _), own_base (own_below HO2.out h2r (Nat.le_refl _)) h1.size, ?_, ⟨by simp [i64s], .inl ⟨rfl, rfl⟩⟩, ?_, .inr (.inl rfl), .inr (.inl rfl), by rw [EBF.out]; exact h2.size⟩
        · rw [iota_length]; exact own_base hlo h3.size
        · cases e1 : (Value.slice A0 k c0).ownBlock with
          | none => exact .inl e1
          | some b1 =>
            refine .inr (.inr ?_)
            have a1 := (HO2.out.lt b1 e1).2
            have a2 := EG.out
            have a3 := hlo.lt g rfl
            rw [e1]
            simp [Value.ownBlock]
            omega)
      clear HW EW3 EBF EG HB2 HO2 HB1 HREC HSZ
      go_wp2_with fail
      go_loopw [4, 6] (fun lv ov wr => ∃ (fv : Value) (A : Option Addr) (cl : Nat) (free left out : List Int), lv = .slice A left.length cl ∧ Hid (SvW w wr bb bf x k fv lv ov free left out) ∧ Hid (FreeOk free k (1 + out.length)) ∧ Hid (∀ i ∈ left, ∃ p : Nat, i = p ∧ p < q) ∧ Hid (serveN x k left.length free left out = serveF x k q) ∧ Hid (left.length + out.length = q)) (fun lv _ _ => lenC lv)
      case atStart => exact ⟨_, _, _, _, iota q, [], by rw [iota_length], HS0, hid ⟨OK.out.ef, fun j hj => by have := OK.out.fv j hj; simp; omega⟩, hid (fun i hi => by simp only [iota, List.mem_map, List.mem_range] at hi; obtain ⟨p, hp, rfl⟩ := hi; exact ⟨p, rfl, hp⟩), hid (by rw [iota_length]; rfl), hid (by simp [iota_length])⟩
      case round =>
        clear HS0
        obtain ⟨fv, A, cl, free, left, out, rfl, HS, HFO, HLM, HSN, HLO⟩ := hrel
        obtain ⟨F, cf, rfl⟩ := own_shape HS.out.fo
        obtain ⟨O, co, eo⟩ := own_shape HS.out.oo
        obtain ⟨n, en⟩ : ∃ n, left.length = n := ⟨_, rfl⟩
        have hIN : ∀ W, Below w.heap.size w W → x.In W := fun W h => HX.out.below h
        have hIX := firstCan_any (fun i => canK x free i.toNat k) A cl n left en (by have := HLO.out; omega) (.pointer (some ⟨bb, 0, none⟩)) (.pointer (some ⟨bf, 0, none⟩)) wr (Cells.of_own HS.out.lo) (fun j hj y => by
          obtain ⟨p, e1, e2⟩ := mem_left HLM.out (j := j) (by omega)
          have hS := HS.out.past y
          have hbx := Rec.cell hS.box 0
          have := can_any x k q OK.out bb bf F cf free p e2 (wr.past y) (hIN _ hS.below) hS.bank (by simpa using hbx) HFO.out.1 (Cells.of_own hS.fo)
          rw [e1]
          simpa using this)
        have HIX := hid hIX
        have HEN := hid en
        rw [en]
        clear hIX hIN
        cases hfi : left.findIdx? (fun i => canK x free i.toNat k) with
        | none =>
          have HR : Hid (serveF x k q = out) := hid (by rw [← HSN.out]; exact serveN_none hfi _)
          have HI : Hid (idxF (fun i => canK x free i.toNat k) left = -1) := hid (idxF_none hfi)
          rw [HI.out] at HIX
          rw [eo]
          have EO := hid eo
          clear eo en hfi
          go_wp2_with (go_at_call 35; refine HIX.out.mono ?_; rintro _ _ ⟨rfl, y1, rfl⟩)
          go_ret
          refine ⟨O, co, by rw [HR.out]; rfl, RowKit.Below.past HS.out.below y1, ?_⟩
          have := own_past HS.out.oo y1
          rw [HR.out, ← EO.out]
          exact this
        | some j =>
          have hj : j < n := by rw [← en]; exact find_lt hfi
          obtain ⟨p, ep, hp⟩ := mem_left HLM.out (j := j) (by omega)
          obtain ⟨gl, cl2, el, -⟩ := own_succ HS.out.lo (by omega)
          injection el with el1 _ el2
          subst el1; subst el2
          obtain ⟨m, em⟩ : ∃ m, n = m + 1 := ⟨n - 1, by omega⟩
          have HI : Hid (idxF (fun i => canK x free i.toNat k) left = j) := hid (idxF_some hfi)
          rw [HI.out] at HIX
          obtain ⟨free', ef'⟩ : ∃ l, plusF free (hasR x p) 1 = l := ⟨_, rfl⟩
          have HSN' : Hid (serveN x k (left.eraseIdx j).length free' (left.eraseIdx j) (out ++ [(p : Int)]) = serveF x k q) := hid (by
            have h1 := HSN.out
            rw [en, em, serveN_some hfi, ep] at h1
            have h2 : (left.eraseIdx j).length = m := by rw [List.length_eraseIdx, if_pos (by omega)]; omega
            rw [h2, ← ef']
            simpa using h1)
          have HFO' : Hid (FreeOk free' k (1 + (out ++ [(p : Int)]).length)) := hid (by
            rw [← ef']
            have := HFO.out.plus (OK.out.hl p hp) (OK.out.hv p hp)
            simpa [Nat.add_assoc] using this)
          have HLM' : Hid (∀ i ∈ left.eraseIdx j, ∃ p : Nat, i = p ∧ p < q) := hid (fun i hi => HLM.out i (List.mem_of_mem_eraseIdx hi))
          have HLO' : Hid ((left.eraseIdx j).length + (out ++ [(p : Int)]).length = q) := hid (by
            have := HLO.out
            rw [List.length_eraseIdx, if_pos (by omega)]
            simp
            omega)
          have hol : out.length ≤ 8 := by have := HLO.out; omega
          have hn8 : n ≤ 8 := by have := HLO.out; omega
          have EP := hid ep
          have EM := hid em
          have EO := hid eo
          have EF := hid ef'
          clear ep en em eo hfi ef' HSN HLM HLO
          go_wp2_with (go_at_call 35; refine HIX.out.mono ?_; rintro _ _ ⟨rfl, y1, rfl⟩)
          obtain ⟨W0, eW0⟩ : ∃ W0, W0 = wr.past y1 := ⟨_, rfl⟩
          have HS0 := hid (HS.out.past y1)
          rw [← eW0] at HS0 ⊢
          have hin := HX.out.below HS0.out.below
          obtain ⟨bh, oh, Rh, ch, eh, q1, k1⟩ := hin.h.at (i := p) (by rw [OK.out.eh]; exact hp)
          rw [show (rAt x.H p).2.2.length = k from OK.out.hl p hp] at q1
          have r1 := Rec.cell HS0.out.bank 1
          rw [EAH.out] at eh
          subst eh
          rw [HCS.out] at r1
          simp at r1
          have rf := Rec.cell HS0.out.box 0
          simp at rf
          have lc : W0.cell? ⟨gl, j, none⟩ = some (.int .i64 p) := by
            rw [HS0.out.lo.cellAt j (by have := HEN.out; omega)]
            simp only [i64s, List.getElem?_map]
            rw [List.getElem?_eq_getElem (by have := HEN.out; omega)]
            have : left[j]'(by have := HEN.out; omega) = p := by rw [← EP.out]; simp [atL, show j < left.length by have := HEN.out; omega]
            rw [this]; rfl
          clear eW0
          go_still_tail 9, (by kernel_rfl)
          change wpList _ _ _ _ _ W0.drew
          obtain ⟨W1, eW1⟩ : ∃ W1, W1 = W0.drew := ⟨_, rfl⟩
          have HS1 : Hid (SvW w W1 bb bf x k (.slice F k cf) (.slice (some ⟨gl, 0, none⟩) left.length cl) u6 free left out) := hid (by rw [eW1]; exact HS0.out.drew)
          have kW : Cells W1 Rh (i64s (rAt x.H p).2.2) := by rw [eW1]; exact k1
          rw [← eW1]
          have P1 := hid (plus_any F Rh cf ch k k free (hasR x p) 1 HFO.out.1 (OK.out.hl p hp) (Nat.le_refl _) (by omega) (by omega) (.inl rfl) (HFO.out.sml (by omega)) (OK.out.hs hp) W1 (Cells.of_own HS1.out.fo) kW)
          rw [EF.out] at P1
          clear HS k1 hin HFO EF HIX eW1 kW HS0 rf r1 q1 lc
          go_wp2_with fail
          refine P1.out.mono ?_
          rintro _ w5 ⟨A5, c5, rfl, hb5, ho5⟩
          have HS2 := hid (HS1.out.fed hb5 ho5)
          have HBX := hid (HS1.out.box.below hb5 (Nat.le_refl _))
          clear hb5 ho5 P1 HS1
          have fz5 := HBX.out.frozen 0
          have lt5 := Rec.lt HBX.out
          have cb5 := Rec.cell HBX.out 0
          simp at cb5
          go_upto_region 13 with fail
          obtain ⟨W6, eW6⟩ : ∃ W6, W6 = w5.setCell ⟨bf, 0, none⟩ (.slice A5 k c5) := ⟨_, rfl⟩
          rw [← eW6] at HS2 ⊢
          clear eW6 fz5 lt5 cb5 HBX
          have lc : W6.cell? ⟨gl, j, none⟩ = some (.int .i64 p) := by
            rw [HS2.out.lo.cellAt j (by have := HEN.out; omega)]
            simp only [i64s, List.getElem?_map]
            rw [List.getElem?_eq_getElem (by have := HEN.out; omega)]
            have : left[j]'(by have := HEN.out; omega) = p := by rw [← EP.out]; simp [atL, show j < left.length by have := HEN.out; omega]
            rw [this]; rfl
          have hBs := HS2.out.below.size
          have HOL := hid hol
          clear hol
          go_upto_region 14 with (at_builtin; refine wpList_pushB rfl (.tmp 41) (.tmp 46) 22 rfl 3 i0 (.int .i64 0) 1 8 Try.underlying22 hi hz0 hz1 hz2 rfl (by decide) w.heap.size (w := W6) hBs u6 out.length (i64s out) rfl HS2.out.oo _ (#[.int .i64 p]) ?_ rfl rfl ?_ ?_ ?_ ?_; (· simp [go_sem]); (· simp [Value.oneCell']); (· have := HOL.out; omega); (· have := HOL.out; unfold maxLen; omega); intro W7 g7 c7 hown7 hg7 hap7)
          have HS3 := hid (HS2.out.served (i := p) hown7 hg7 hap7)
          clear hown7 hg7 hap7 HS2 lc hBs
          have hso := HS3.out.lo
          rw [HEN.out] at hso
          have HD := hid (delete_any w.heap.size gl n cl j left hj W7 hso)
          clear hso
          go_wp2_with (go_at_call 37; (with_reducible refine HD.out.mono ?_); rintro _ W8 ⟨rfl, ho8, hg8⟩; have HS4 := hid (HS3.out.gone ho8 hg8 rfl); clear ho8 hg8)
          have hle : (left.eraseIdx j).length = n - 1 := by rw [List.length_eraseIdx, if_pos (by have := HEN.out; omega), HEN.out]
          rw [hle] at HS4
          have HLE := hid hle
          clear hle
          go_roundw
          case rel => exact ⟨_, some ⟨gl, 0, none⟩, cl, free', left.eraseIdx j, out ++ [(p : Int)], (show Value.slice (some ⟨gl, 0, none⟩) (n - 1) cl = Value.slice (some ⟨gl, 0, none⟩) (left.eraseIdx j).length cl by rw [HLE.out]), HS4, HFO', HLM', HSN', HLO'⟩
          case measure => simp [lenC]; have := HEN.out; omega
end Go.Proofs.Ytddngloojacceaa
