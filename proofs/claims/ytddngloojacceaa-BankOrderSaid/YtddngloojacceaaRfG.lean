/-
  Layer 44, the document's: may a client ask so much? What a bank that was changed is. No condition but that rows are not long.
-/
import Derived.Test.YtddngloojacceaaPlA
namespace Go.Proofs.Ytddngloojacceaa
open Go Go.RowKit
set_option maxRecDepth 100000 in
set_option maxHeartbeats 2000000 in
theorem rfits_any (x : Bk) (hs : x.Sm) (who : Int) (A : Option Addr) (ca m : Nat) (n : List Int) (em : n.length = m) (hm : m ≤ 1000000) (w : World) (hx : x.In w) (ha : Cells w A (i64s n)) :
    Calls Try.prog 29 #[.agg x.cs, .int .i64 who, .slice A m ca] w (Gives (.bool (fitsF x who n)) w) := by
  obtain ⟨w1, ew1⟩ : ∃ w1, w1 = w.alloc (.cells x.cs 25) := ⟨_, rfl⟩
  have hb1 : Below w.heap.size w w1 := by rw [ew1]; exact (Below.refl _ w).alloc (Nat.le_refl _) _
  have hrec : Rec w1 w.heap.size 25 x.cs := by rw [ew1]; exact Rec.new w _ _
  have r0 := Rec.cell hrec 0
  have r1 := Rec.cell hrec 1
  have r2 := Rec.cell hrec 2
  have hcs : x.cs = #[.slice x.F.1 x.F.2.2.length x.F.2.1, .slice x.AH x.H.length x.cH, .slice x.AM x.M.length x.cM] := rfl
  obtain ⟨M, eM⟩ : ∃ v, Value.slice x.AM x.M.length x.cM = v := ⟨_, rfl⟩
  rw [eM] at hcs
  rw [hcs] at r0 r1 r2 ew1 ⊢
  simp at r0 r1 r2
  have hX := hx.below hb1
  have hM := RMay_any x hs.1 hs.2.2 w1 hX
  rw [hcs] at hM
  have hOF : fitsF x who n = (mayB x && (decide (0 ≤ who) && (decide (who < x.H.length) && ((n.length == x.F.2.2.length) && posR n)))) := rfl
  obtain ⟨r, er⟩ : ∃ r, mayB x = r := ⟨_, rfl⟩
  obtain ⟨nh, enh⟩ : ∃ n, x.H.length = n := ⟨_, rfl⟩
  obtain ⟨k, ek⟩ : ∃ n, x.F.2.2.length = n := ⟨_, rfl⟩
  have hn6 := hs.2.1
  have hk6 := hs.1
  rw [er] at hM hOF
  rw [enh] at r1 hOF hn6 ew1 hM ⊢
  rw [ek] at r0 hOF hk6 ew1 hM ⊢
  rw [em] at hOF
  have EW1 := hid ew1
  have HM := hid hM
  have HO := hid hOF
  have HB1 := hid hb1
  obtain ⟨p, ep⟩ : ∃ p, posR n = p := ⟨_, rfl⟩
  have HN := hid ep
  have HA := hid (ha.below hb1)
  have EM := hid em
  have HO := hid (ep ▸ hOF)
  clear ew1 hb1 hrec hX hM hOF er enh ek eM hcs hx hs em ha ep
  have fin : ∀ (v : Bool), fitsF x who n = v → ∀ y : Past, Gives (.bool (fitsF x who n)) w (.returned (.bool v)) (w1.past y) := fun v hv y => Gives.mk (by rw [hv]) (RowKit.Below.past HB1.out y)
  have FIN := hid fin
  clear fin
  by_cases h1 : r = false
  · subst h1
    have HF := hid (show fitsF x who n = false by rw [HO.out]; rfl)
    clear HO HN
    go_enter Try.func29, Try.ntmps29
    go_upto_region 1 with (fail)
    rw [← EW1.out]
    go_wp2_with (go_at_call 9; (with_reducible refine HM.out.mono ?_); rintro _ _ ⟨rfl, x1, rfl⟩)
    go_ret
    exact FIN.out _ HF.out _
  · obtain rfl : r = true := by cases r; exact (h1 rfl).elim; rfl
    clear h1
    by_cases h2 : who < 0
    · have HF := hid (show fitsF x who n = false by rw [HO.out, decide_eq_false (by omega)]; rfl)
      clear HO HN
      have h2' : decide (0 ≤ who) = false := decide_eq_false (by omega)
      go_enter Try.func29, Try.ntmps29
      go_upto_region 1 with (fail)
      rw [← EW1.out]
      go_wp2_with (go_at_call 9; (with_reducible refine HM.out.mono ?_); rintro _ _ ⟨rfl, x1, rfl⟩)
      go_ret
      exact FIN.out _ HF.out _
    · have h2' : 0 ≤ who := by omega
      by_cases h3 : who < nh
      · by_cases h4 : m = k
        · subst h4
          have HF := hid (show fitsF x who n = p by rw [HO.out, decide_eq_true h2', decide_eq_true h3]; simp)
          clear HO
          go_enter Try.func29, Try.ntmps29
          go_upto_region 1 with (fail)
          rw [← EW1.out]
          go_wp2_with (go_at_call 9; (with_reducible refine HM.out.mono ?_); rintro _ _ ⟨rfl, x1, rfl⟩)
          go_loopw [7] (fun i wr => ∃ (q : Nat) (y : Past), i = .int .i64 q ∧ q ≤ m ∧ wr = w1.past y ∧ Hid (∀ t, t < q → 0 ≤ atL n t)) (fun i _ => m - (intOf i).toNat)
          case atStart => exact ⟨0, _, rfl, by omega, by first | rfl | trivial, hid (fun t h => by omega)⟩
          case round =>
            obtain ⟨q, y, rfl, hq, rfl, HQ⟩ := hrel
            by_cases hlq : q < m
            · obtain ⟨b1, o1, rfl, hc1⟩ := i64_at HA.out (k := q) (by rw [EM.out]; exact hlq)
              obtain ⟨u, eu⟩ : ∃ u, atL n q = u := ⟨_, rfl⟩
              rw [eu] at hc1
              have EU := hid eu
              clear eu
              by_cases hu : u < 0
              · have hp : p = false := by
                  rw [← HN.out]
                  cases hh : posR n with
                  | false => rfl
                  | true => have := posR_iff.1 hh q (by rw [EM.out]; exact hlq); rw [EU.out] at this; omega
                have HFP := hid (show fitsF x who n = false by rw [HF.out, hp])
                clear hp
                go_wp2_with fail
                go_ret
                exact FIN.out _ HFP.out _
              · go_wp2_with fail
                go_roundw
                case rel => exact ⟨q + 1, _, by go_num, by omega, by first | rfl | trivial, hid (fun t ht => by
                  by_cases e : t = q
                  · subst e; rw [EU.out]; omega
                  · exact HQ.out t (by omega))⟩
                case measure => simp [intOf]; omega
            · obtain rfl : m = q := by omega
              have HFP := hid (show fitsF x who n = true by rw [HF.out, ← HN.out]; exact posR_iff.2 (fun j hj => HQ.out j (by rw [← EM.out]; exact hj)))
              go_wp2_with fail
              go_ret
              exact FIN.out _ HFP.out _
        · have h4' : (m == k) = false := by simp; omega
          have h4'' : ((m : Int) == k) = false := by simp; omega
          have h4a : ((m : Int) != k) = true := by simp; omega
          have h4b : (m != k) = true := by simp; omega
          have HF := hid (show fitsF x who n = false by rw [HO.out, h4']; simp)
          clear HO HN h4
          go_enter Try.func29, Try.ntmps29
          go_upto_region 1 with (fail)
          rw [← EW1.out]
          go_wp2_with (go_at_call 9; (with_reducible refine HM.out.mono ?_); rintro _ _ ⟨rfl, x1, rfl⟩)
          go_ret
          exact FIN.out _ HF.out _
      · have HF := hid (show fitsF x who n = false by rw [HO.out, decide_eq_false h3]; simp)
        clear HO HN
        have h3' : decide (who < (nh : Int)) = false := decide_eq_false h3
        go_enter Try.func29, Try.ntmps29
        go_upto_region 1 with (fail)
        rw [← EW1.out]
        go_wp2_with (go_at_call 9; (with_reducible refine HM.out.mono ?_); rintro _ _ ⟨rfl, x1, rfl⟩)
        go_ret
        exact FIN.out _ HF.out _
theorem atR_lt {l : List (List Int)} {i : Nat} (h : i < l.length) : atR l i = l[i] := by simp [atR, h]
theorem atR_set (l : List (List Int)) (i j : Nat) (r : List Int) (h : i < l.length) : atR (l.set i r) j = if i = j then r else atR l j := by
  unfold atR
  rw [List.getElem?_set]
  by_cases e : i = j
  · rw [if_pos e, if_pos e, if_pos h]; rfl
  · rw [if_neg e, if_neg e]
theorem movedB_has (x : Bk) (j : Nat) (n : List Int) (s : Int) (i : Nat) (hj : j < x.H.length) : hasR (movedB x j n s) i = if j = i then plusF (hasR x j) n s else hasR x i := by
  rw [hasR_val, movedB, mkB_h, atR_set _ _ _ _ (by rw [valR_length]; exact hj)]
  split
  · rfl
  · rw [hasR_val]
theorem movedB_most (x : Bk) (j : Nat) (n : List Int) (s : Int) (i : Nat) : mostR (movedB x j n s) i = mostR x i := by rw [mostR_val, mostR_val, movedB, mkB_m]
theorem movedB_free (x : Bk) (j : Nat) (n : List Int) (s : Int) : (movedB x j n s).F.2.2 = plusF x.F.2.2 n (-s) := rfl
theorem movedB_hl (x : Bk) (j : Nat) (n : List Int) (s : Int) : (movedB x j n s).H.length = x.H.length := by rw [← valR_length, movedB, mkB_h, List.length_set, valR_length]
theorem movedB_ml (x : Bk) (j : Nat) (n : List Int) (s : Int) : (movedB x j n s).M.length = x.M.length := by rw [← valR_length, movedB, mkB_m, valR_length]
/-- A bank of which so much was given, or given back, may be. -/
theorem movedB_may {x : Bk} {k nh : Nat} (ok : x.Ok k nh) {j : Nat} (hj : j < nh) {n : List Int} {s : Int} (hn : n.length = k)
    (hf : ∀ i, i < k → 0 ≤ atL x.F.2.2 i + -s * atL n i ∧ atL x.F.2.2 i + -s * atL n i ≤ 1000000) (hh : ∀ i, i < k → 0 ≤ atL (hasR x j) i + s * atL n i ∧ atL (hasR x j) i + s * atL n i ≤ atL (mostR x j) i) : mayB (movedB x j n s) = true := by
  have k1 := ok.k1
  have k4 := ok.k4
  have h8 := ok.h8
  have fl : (movedB x j n s).F.2.2.length = k := by rw [movedB_free, plusF_length]; exact ok.ef
  unfold mayB
  rw [fl, movedB_hl, movedB_ml, ok.eh, ok.em]
  simp only [Bool.and_eq_true, decide_eq_true_eq, List.all_eq_true, List.mem_range]
  refine ⟨⟨⟨k1, k4, h8, by first | trivial | rfl⟩, ?_⟩, fun i hi => ?_⟩
  · rw [rowF_iff]
    refine ⟨fl, fun t ht => ?_⟩
    rw [fl] at ht
    rw [movedB_free, plusF_at (by rw [ok.ef]; exact ht)]
    exact hf t ht
  · unfold mayI
    rw [fl, movedB_most, movedB_has _ _ _ _ _ (by rw [ok.eh]; exact hj)]
    have hrow : (if j = i then plusF (hasR x j) n s else hasR x i).length = k := by
      split
      · rw [plusF_length]; exact ok.hl j hj
      · exact ok.hl i hi
    have hat : ∀ t, t < k → 0 ≤ atL (if j = i then plusF (hasR x j) n s else hasR x i) t ∧ atL (if j = i then plusF (hasR x j) n s else hasR x i) t ≤ atL (mostR x i) t := fun t ht => by
      split
      · rename_i e
        subst e
        rw [plusF_at (by rw [ok.hl j hj]; exact ht)]
        exact hh t ht
      · exact ⟨(ok.hv i hi t ht).1, ok.le i hi t ht⟩
    simp only [Bool.and_eq_true]
    refine ⟨⟨rowF_iff.2 ⟨hrow, fun t ht => ?_⟩, rowF_iff.2 ⟨ok.ml i hi, fun t ht => ok.mv i hi t (by rw [← ok.ml i hi]; exact ht)⟩⟩, withK_iff.2 (fun t ht => (hat t (by rw [← hrow]; exact ht)).2)⟩
    have h1 := hat t (by rw [← hrow]; exact ht)
    have h2 := ok.mv i hi t (by rw [← hrow]; exact ht)
    omega
theorem Bk.Own2.in {y x : Bk} {w wr : World} (h : y.Own2 x w wr) (hb : Below w.heap.size w wr) (hx : x.In wr) : y.In wr :=
  ⟨Cells.of_own h.f, ⟨Cells.of_own h.h, fun i hi => (h.hr i hi).cells hb⟩, by rw [h.am, h.m]; exact hx.m⟩
theorem Bk.Own2.far {y x : Bk} {w wr w' : World} (h : y.Own2 x w wr) (hb : Below wr.heap.size wr w') : y.Own2 x w w' :=
  ⟨own_below h.f hb (Nat.le_refl _), own_below h.h hb (Nat.le_refl _), fun i hi => (h.hr i hi).far hb, h.am, h.cm, h.m⟩
theorem Bk.Own2.setB {y x : Bk} {w wr : World} {b : Nat} {cs : Array Value} (h : y.Own2 x w wr) (hb : Rec wr b 25 cs) (o : Nat) (u : Value) : y.Own2 x w (wr.setCell ⟨b, o, none⟩ u) :=
  ⟨own_setB h.f hb (by decide) o u, own_setB h.h hb (by decide) o u, fun i hi => (h.hr i hi).setB hb o u, h.am, h.cm, h.m⟩
theorem in2_set3 {y x : Bk} {w0 w wr : World} {b : Nat} (h : y.Own2 x w wr) (hx : x.In w0) (h0 : Below w0.heap.size w0 wr) (hbb : w0.heap.size ≤ b) (hb : Below w.heap.size w wr) (hr : Rec w b 25 #[.slice none 0 0, .slice none 0 0, .slice none 0 0]) (hr2 : Rec wr b 25 #[.slice none 0 0, .slice none 0 0, .slice none 0 0]) (v0 v1 v2 : Value) :
    y.In (((wr.setCell ⟨b, 0, none⟩ v0).setCell ⟨b, 1, none⟩ v1).setCell ⟨b, 2, none⟩ v2) := by
  have h3 := ((h.setB hr2 0 v0).setB (hr2.set 0 v0) 1 v1).setB ((hr2.set 0 v0).set 1 v1) 2 v2
  have hk := (((Kept.of_below hb (fun k => k = b)).setCell (p := ⟨b, 0, none⟩) (.inr rfl) v0).setCell (p := ⟨b, 1, none⟩) (.inr rfl) v1).setCell (p := ⟨b, 2, none⟩) (.inr rfl) v2
  have hz : ∀ (i : Nat) (x : Int), (#[.slice none 0 0, .slice none 0 0, .slice none 0 0] : Array Value)[i]? ≠ some (Value.int .i64 x) := fun i x => by
    match i with
    | 0 => simp
    | 1 => simp
    | 2 => simp
    | i + 3 => simp
  have hx2 := hx.below (((h0.setCell (p := ⟨b, 0, none⟩) hbb v0).setCell (p := ⟨b, 1, none⟩) hbb v1).setCell (p := ⟨b, 2, none⟩) hbb v2)
  exact ⟨Cells.of_own h3.f, ⟨Cells.of_own h3.h, fun i hi => by rcases h3.hr i hi with g | g; exact Cells.not_bank g hr hz hk; exact Cells.of_own g⟩, by rw [h3.am, h3.m]; exact hx2.m⟩
/-- All are served just if none is left. -/
theorem orderF_none {x : Bk} (hm : mayB x = true) : orderF x = none ↔ 0 < (stuckK (servedF x) x.H.length).length := by
  have := (served_spec x).len
  unfold orderF
  constructor
  · intro h
    by_cases e : (servedF x).length < x.H.length
    · omega
    · rw [if_pos ⟨hm, e⟩] at h; cases h
  · intro h
    rw [if_neg (fun e => e.2 (by omega))]
end Go.Proofs.Ytddngloojacceaa
