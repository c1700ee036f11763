/-
  Layer 44: the order in which all can be served, and who is stuck. No condition but that rows are not long.
-/
import Derived.Test.YtddngloojacceaaBkI
namespace Go.Proofs.Ytddngloojacceaa
open Go Go.RowKit
/-- All who are served, of any bank that may be. -/
def servedF (x : Bk) : List Int := serveF x x.F.2.2.length x.H.length
theorem serveN_length (x : Bk) (k : Nat) : ∀ (m : Nat) (free left out : List Int), (serveN x k m free left out).length ≤ out.length + m
  | 0, _, _, _ => by simp [serveN]
  | m + 1, free, left, out => by
    rw [serveN]
    split
    · omega
    · have := serveN_length x k m (plusF free (hasR x (atL left ‹Nat›).toNat) 1) (left.eraseIdx ‹Nat›) (out ++ [atL left ‹Nat›])
      simp only [List.length_append, List.length_cons, List.length_nil] at this
      omega
theorem served_length (x : Bk) : (servedF x).length ≤ x.H.length := by
  have := serveN_length x x.F.2.2.length x.H.length x.F.2.2 (iota x.H.length) []
  simpa [servedF, serveF] using this
def orderF (x : Bk) : Option (List Int) := if mayB x = true ∧ ¬ (servedF x).length < x.H.length then some (servedF x) else none
def stuckF (x : Bk) : List Int := if mayB x = true then (iota x.H.length).filter fun i => !(servedF x).contains i else []
/-- Rows that are not long. -/
def Bk.Sm (x : Bk) : Prop := x.F.2.2.length ≤ 1000000 ∧ x.H.length ≤ 1000000 ∧ ∀ i, (hasR x i).length ≤ 1000000 ∧ (mostR x i).length ≤ 1000000
def OrderP (o : Option (List Int)) (w : World) (e : Ending) (w' : World) : Prop := match o with
  | none => e = .returned (.tuple #[.slice none 0 0, .bool false]) ∧ Below w.heap.size w w'
  | some l => ∃ A c, e = .returned (.tuple #[.slice A l.length c, .bool true]) ∧ Below w.heap.size w w' ∧ w'.ownsRow w.heap.size 3 1 (.slice A l.length c) l.length (i64s l)
theorem OrderP.below {o : Option (List Int)} {w w' : World} {e : Ending} (h : OrderP o w e w') : Below w.heap.size w w' := by
  cases o with
  | none => exact h.2
  | some l => obtain ⟨_, _, _, h, _⟩ := h; exact h
theorem serve_ok (x : Bk) (hm : mayB x = true) (w : World) (hx : x.In w) : Calls Try.prog 22 #[.agg x.cs] w (GivesOwn 3 1 (servedF x).length (i64s (servedF x)) w) :=
  serve_any x _ _ (Bk.Ok.of hm) w hx
set_option maxRecDepth 100000 in
set_option maxHeartbeats 2000000 in
theorem Order_any (x : Bk) (hs : x.Sm) (w : World) (hx : x.In w) : Calls Try.prog 10 #[.agg x.cs] w (OrderP (orderF x) w) := by
  obtain ⟨w1, ew1⟩ : ∃ w1, w1 = w.alloc (.cells x.cs 25) := ⟨_, rfl⟩
  have hb1 : Below w.heap.size w w1 := by rw [ew1]; exact (Below.refl _ w).alloc (Nat.le_refl _) _
  have hrec : Rec w1 w.heap.size 25 x.cs := by rw [ew1]; exact Rec.new w _ _
  have r0 := Rec.cell hrec 0
  have r1 := Rec.cell hrec 1
  have r2 := Rec.cell hrec 2
  have hcs : x.cs = #[.slice x.F.1 x.F.2.2.length x.F.2.1, .slice x.AH x.H.length x.cH, .slice x.AM x.M.length x.cM] := rfl
  obtain ⟨F, eF⟩ : ∃ v, Value.slice x.F.1 x.F.2.2.length x.F.2.1 = v := ⟨_, rfl⟩
  obtain ⟨M, eM⟩ : ∃ v, Value.slice x.AM x.M.length x.cM = v := ⟨_, rfl⟩
  rw [eF, eM] at hcs
  rw [hcs] at r0 r1 r2 ew1 ⊢
  simp at r0 r1 r2
  have hX := hx.below hb1
  have hM := May_any x hs.1 hs.2.2 w1 hX
  rw [hcs] at hM
  have hS := fun h y => serve_ok x h (w1.past y) (hX.below (w1.below_past y))
  rw [hcs] at hS
  have hOF : orderF x = if mayB x = true ∧ ¬ (servedF x).length < x.H.length then some (servedF x) else none := rfl
  obtain ⟨r, er⟩ : ∃ r, mayB x = r := ⟨_, rfl⟩
  obtain ⟨nh, enh⟩ : ∃ n, x.H.length = n := ⟨_, rfl⟩
  have hn6 := hs.2.1
  rw [er] at hM hS hOF
  rw [enh] at r1 hOF hn6 ew1 hM hS ⊢
  obtain ⟨l, el⟩ : ∃ l, servedF x = l := ⟨_, rfl⟩
  rw [el] at hS hOF
  have EW1 := hid ew1
  have HM := hid hM
  have HS := hid hS
  have HO := hid hOF
  have HB1 := hid hb1
  clear ew1 hb1 hrec hX hM hS hOF er enh el eF eM hcs hx hs
  cases r with
  | false =>
    have HF := hid (show orderF x = none by rw [HO.out, if_neg (by simp)])
    clear HO HS
    go_enter Try.func10, Try.ntmps10
    go_upto_region 1 with (fail)
    rw [← EW1.out]
    go_wp2_with (go_at_call 16; (with_reducible refine HM.out.mono ?_); rintro _ _ ⟨rfl, x1, rfl⟩)
    go_ret2
    rw [HF.out]
    exact ⟨rfl, RowKit.Below.past HB1.out x1⟩
  | true =>
    have HSV := hid (HS.out rfl)
    clear HS
    by_cases hl : l.length < nh
    · have HF := hid (show orderF x = none by rw [HO.out, if_neg (by simp; omega)])
      clear HO
      go_enter Try.func10, Try.ntmps10
      go_upto_region 1 with (fail)
      rw [← EW1.out]
      go_upto_region 4 with (first | (go_at_call 16; (with_reducible refine HM.out.mono ?_); rintro _ _ ⟨rfl, x1, rfl⟩) | (go_at_call 22; refine (HSV.out _).mono ?_; rintro _ w5 ⟨A5, c5, rfl, hb5, ho5⟩; obtain ⟨x5, rfl⟩ := past_of hb5; clear hb5 ho5))
      go_wp2_with fail
      go_ret2
      rw [HF.out]
      exact ⟨rfl, RowKit.Below.past HB1.out _⟩
    · have HF := hid (show orderF x = some l by rw [HO.out, if_pos ⟨rfl, hl⟩])
      clear HO
      go_enter Try.func10, Try.ntmps10
      go_upto_region 1 with (fail)
      rw [← EW1.out]
      go_upto_region 4 with (first | (go_at_call 16; (with_reducible refine HM.out.mono ?_); rintro _ _ ⟨rfl, x1, rfl⟩) | (go_at_call 22; refine (HSV.out _).mono ?_; rintro _ w5 ⟨A5, c5, rfl, hb5, ho5⟩; obtain ⟨x5, rfl⟩ := past_of hb5; have HO5 := hid ho5; clear hb5 ho5))
      go_wp2_with fail
      go_ret2
      rw [HF.out]
      have h1 := HB1.out
      refine ⟨A5, c5, rfl, ?_, ?_⟩
      · exact RowKit.Below.past h1 _
      · rw [← World.past_past]; exact own_base HO5.out (RowKit.Below.past h1 x1).size
/-- What is stuck so far. -/
structure StW (w wr : World) (bb : Nat) (x : Bk) (lv ov : Value) (l out : List Int) : Prop where
  below : Below w.heap.size w wr
  lo : wr.ownsRow w.heap.size 3 1 lv l.length (i64s l)
  oo : wr.ownsRow w.heap.size 3 1 ov out.length (i64s out)
  alo : Apart lv ov
theorem StW.past {w wr : World} {bb : Nat} {x : Bk} {lv ov : Value} {l out : List Int} (h : StW w wr bb x lv ov l out) (y : Past) : StW w (wr.past y) bb x lv ov l out :=
  ⟨RowKit.Below.past h.below y, own_past h.lo y, own_past h.oo y, h.alo⟩
theorem StW.pushed {w wr w' : World} {bb : Nat} {x : Bk} {lv ov ov' : Value} {l out : List Int} {i : Int} (h : StW w wr bb x lv ov l out) (ho : w'.ownsRow w.heap.size 3 1 ov' (out.length + 1) (i64s out ++ [.int .i64 i])) (hg : wr.grownBy w' ov.ownBlock)
    (hap : ∀ v', Apart v' ov → (∀ k, v'.ownBlock = some k → k < wr.heap.size) → Apart v' ov') : StW w w' bb x lv ov' l (out ++ [i]) :=
  ⟨grown_below h.below hg h.below.size (fun q hq => (h.oo.lt q hq).1), own_apart h.lo hg h.alo, by rw [← i64s_snoc]; simpa using ho, hap _ h.alo (fun q hq => (h.lo.lt q hq).2)⟩
def stuckK (l : List Int) (k : Nat) : List Int := (iota k).filter fun i => !l.contains i
theorem stuckK_succ (l : List Int) (k : Nat) : stuckK l (k + 1) = if l.contains (k : Int) = true then stuckK l k else stuckK l k ++ [(k : Int)] := by
  unfold stuckK iota
  rw [List.range_succ, List.map_append, List.filter_append]
  simp only [List.map_cons, List.map_nil, List.filter_cons, List.filter_nil]
  cases l.contains (k : Int) <;> simp
theorem stuckK_length (l : List Int) (k : Nat) : (stuckK l k).length ≤ k := by
  have := List.length_filter_le (fun i => !l.contains i) (iota k)
  rw [iota_length] at this
  exact this
set_option maxRecDepth 100000 in
set_option maxHeartbeats 2000000 in
theorem Stuck_any (x : Bk) (hs : x.Sm) (w : World) (hx : x.In w) : Calls Try.prog 11 #[.agg x.cs] w (GivesOwn 3 1 (stuckF x).length (i64s (stuckF x)) w) := by
  obtain ⟨i0, hi, hz0, hz1, hz2⟩ := info_parts info_i64
  obtain ⟨w1, ew1⟩ : ∃ w1, w1 = w.alloc (.cells x.cs 25) := ⟨_, rfl⟩
  have hb1 : Below w.heap.size w w1 := by rw [ew1]; exact (Below.refl _ w).alloc (Nat.le_refl _) _
  have hrec : Rec w1 w.heap.size 25 x.cs := by rw [ew1]; exact Rec.new w _ _
  have r0 := Rec.cell hrec 0
  have r1 := Rec.cell hrec 1
  have r2 := Rec.cell hrec 2
  have hcs : x.cs = #[.slice x.F.1 x.F.2.2.length x.F.2.1, .slice x.AH x.H.length x.cH, .slice x.AM x.M.length x.cM] := rfl
  obtain ⟨F, eF⟩ : ∃ v, Value.slice x.F.1 x.F.2.2.length x.F.2.1 = v := ⟨_, rfl⟩
  obtain ⟨M, eM⟩ : ∃ v, Value.slice x.AM x.M.length x.cM = v := ⟨_, rfl⟩
  rw [eF, eM] at hcs
  rw [hcs] at r0 r1 r2 ew1 ⊢
  simp at r0 r1 r2
  have hX := hx.below hb1
  have hM := May_any x hs.1 hs.2.2 w1 hX
  rw [hcs] at hM
  have hS := fun h y => serve_ok x h (w1.past y) (hX.below (w1.below_past y))
  rw [hcs] at hS
  have hOF : stuckF x = if mayB x = true then (iota x.H.length).filter fun i => !(servedF x).contains i else [] := rfl
  obtain ⟨r, er⟩ : ∃ r, mayB x = r := ⟨_, rfl⟩
  obtain ⟨nh, enh⟩ : ∃ n, x.H.length = n := ⟨_, rfl⟩
  have hn6 := hs.2.1
  have hk8 : r = true → nh ≤ 8 := fun h => by rw [← enh]; exact (Bk.Ok.of (er.trans h)).h8
  have hl8 : r = true → (servedF x).length ≤ 8 := fun h => by have h1 := served_length x; have h2 := hk8 h; rw [enh] at h1; omega
  rw [er] at hM hS hOF
  rw [enh] at r1 hOF hn6 ew1 hM hS ⊢
  obtain ⟨l, el⟩ : ∃ l, servedF x = l := ⟨_, rfl⟩
  rw [el] at hS hOF hl8
  have EW1 := hid ew1
  have HM := hid hM
  have HS := hid hS
  have HO := hid hOF
  have HB1 := hid hb1
  clear ew1 hb1 hrec hX hM hS hOF er enh el eF eM hcs hx hs
  cases r with
  | false =>
    have HF := hid (show stuckF x = [] by rw [HO.out, if_neg (by simp)])
    clear HO HS
    go_enter Try.func11, Try.ntmps11
    go_upto_region 1 with (fail)
    rw [← EW1.out]
    go_wp2_with (go_at_call 16; (with_reducible refine HM.out.mono ?_); rintro _ _ ⟨rfl, x1, rfl⟩)
    go_ret
    rw [HF.out]
    exact ⟨none, 0, rfl, RowKit.Below.past HB1.out x1, by simp [i64s], .inl ⟨rfl, rfl⟩⟩
  | true =>
    have HF := hid (show stuckF x = stuckK l nh by rw [HO.out, if_pos rfl]; rfl)
    have h8 := hk8 rfl
    have HSV := hid (HS.out rfl)
    clear HS
    have HL8 := hid (hl8 rfl)
    clear HO hk8 hl8 hn6
    go_enter Try.func11, Try.ntmps11
    go_upto_region 1 with (fail)
    rw [← EW1.out]
    go_upto_region 4 with (first | (go_at_call 16; (with_reducible refine HM.out.mono ?_); rintro _ _ ⟨rfl, x1, rfl⟩) | (go_at_call 22; refine (HSV.out _).mono ?_; rintro _ w5 ⟨A5, c5, rfl, hb5, ho5⟩; obtain ⟨x5, rfl⟩ := past_of hb5; have HO5 := hid ho5; clear hb5 ho5))
    go_wp2_with fail
    have HS0 : Hid (StW w (w1.past (x1.and x5)) w.heap.size x (.slice A5 l.length c5) (.slice none 0 0) l (stuckK l 0)) := hid (by
      have h1 := HB1.out
      rw [← World.past_past]
      exact ⟨RowKit.Below.past (RowKit.Below.past h1 x1) x5, own_base HO5.out (RowKit.Below.past h1 x1).size, ⟨by simp [i64s, stuckK, iota], .inl ⟨rfl, rfl⟩⟩, .inr (.inl rfl)⟩)
    clear HO5 HSV HM r0 r1 r2
    go_loopw [4, 14] (fun ov i wr => ∃ k : Nat, i = .int .i64 k ∧ k ≤ nh ∧ Hid (StW w wr w.heap.size x (.slice A5 l.length c5) ov l (stuckK l k))) (fun _ i _ => nh - (intOf i).toNat)
    case atStart => exact ⟨0, rfl, by omega, HS0⟩
    case round =>
      clear HS0
      obtain ⟨k, rfl, hk, HS⟩ := hrel
      by_cases hlt : k < nh
      · have HC := hid (contains_any A5 c5 l.length l (k : Int) rfl (by have := HL8.out; omega) wr (Cells.of_own HS.out.lo))
        have hsu := stuckK_succ l k
        have hln := stuckK_length l k
        cases hc : l.contains (k : Int) with
        | true =>
          rw [hc] at hsu HC
          have HN := hid (show stuckK l (k + 1) = stuckK l k by rw [hsu, if_pos rfl])
          clear hsu hc
          go_wp2_with (go_at_call 23; (with_reducible refine HC.out.mono ?_); rintro _ _ ⟨rfl, y1, rfl⟩)
          go_roundw
          case rel => exact ⟨k + 1, by go_num, by omega, hid (by rw [HN.out]; exact HS.out.past y1)⟩
          case measure => simp [intOf]; omega
        | false =>
          rw [hc] at hsu HC
          have HN := hid (show stuckK l (k + 1) = stuckK l k ++ [(k : Int)] by rw [hsu, if_neg (by simp)])
          have HL := hid hln
          clear hsu hc hln
          go_upto_region 9 with (go_at_call 23; (with_reducible refine HC.out.mono ?_); rintro _ _ ⟨rfl, y1, rfl⟩)
          obtain ⟨W6, eW6⟩ : ∃ W6, W6 = wr.past y1 := ⟨_, rfl⟩
          have HS2 := hid (HS.out.past y1)
          rw [← eW6] at HS2 ⊢
          have hBs := HS2.out.below.size
          clear eW6 HC HS
          go_wp2_with (at_builtin; refine wpList_pushB rfl (.tmp 21) (.tmp 23) 22 rfl 3 i0 (.int .i64 0) 1 8 Try.underlying22 hi hz0 hz1 hz2 rfl (by decide) w.heap.size (w := W6) hBs u4 (stuckK l k).length (i64s (stuckK l k)) rfl HS2.out.oo _ (#[.int .i64 k]) ?_ rfl rfl ?_ ?_ ?_ ?_; (· simp [go_sem]); (· simp [Value.oneCell']); (· have := HL.out; omega); (· have := HL.out; unfold maxLen; omega); intro W7 g7 c7 hown7 hg7 hap7; have HS3 := hid (HS2.out.pushed (i := k) hown7 hg7 hap7); clear hown7 hg7 hap7)
          go_roundw
          case rel => exact ⟨k + 1, by go_num, by omega, hid (by rw [HN.out]; exact HS3.out)⟩
          case measure => simp [intOf]; omega
      · obtain rfl : k = nh := by omega
        obtain ⟨O, co, eo⟩ := own_shape HS.out.oo
        rw [eo]
        rw [eo] at HS
        clear eo
        go_wp2_with fail
        go_ret
        rw [HF.out]
        exact ⟨O, co, rfl, HS.out.below, HS.out.oo⟩
end Go.Proofs.Ytddngloojacceaa
