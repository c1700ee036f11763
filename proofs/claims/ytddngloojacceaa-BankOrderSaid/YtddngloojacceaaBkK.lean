/-
  Layer 44: rows of rows are copied; may a client ask so much, is there room for so much? No condition but that rows are not long.
-/
import Derived.Test.YtddngloojacceaaBkJ
namespace Go.Proofs.Ytddngloojacceaa
open Go Go.RowKit
theorem info_row : (Try.prog.info? 22).map (fun i => (i.zero, i.size, i.bytes)) = some (some (.slice none 0 0), 1, 24) := by kernel_rfl
theorem tab_row_one (l : List Rw) : ∀ u ∈ tab rowV l, u.oneCell' = true := by
  intro u hu
  simp only [tab, List.mem_flatMap, rowV, List.mem_singleton] at hu
  obtain ⟨x, _, rfl⟩ := hu
  rfl
theorem tab_row_length (l : List Rw) : (tab rowV l).length = l.length := by rw [tab_length rowV_length, Nat.mul_one]
set_option maxHeartbeats 1000000 in
theorem cloneR_any (A : Option Addr) (ca n : Nat) (l : List Rw) (en : l.length = n) (h0 : 0 < n) (hn : n ≤ 1000000) (w : World) (ha : Cells w A (tab rowV l)) :
    Calls Try.prog 41 #[.slice A n ca] w (GivesOwn 22 1 n (tab rowV l) w) := by
  obtain ⟨i0, hi, hz0, hz1, hz2⟩ := info_parts info_row
  obtain ⟨b1, o1, rfl, -⟩ := ha.at (k := 0) (by rw [tab_row_length]; omega)
  have HA := hid ha
  have he : ∀ w : World, (binOp .eql 23 (.slice (some ⟨b1, o1, none⟩) n ca) (.slice none 0 0)).run Try.prog w = .ok (.bool false) w := fun _ => rfl
  have hnews : ∀ j u, (tab rowV l)[j]? = some u → (w.alloc (.cells #[] 22)).cell? ((⟨b1, o1, none⟩ : Addr).add j) = some u := by
    intro j u hj
    obtain ⟨b, off, e, hc⟩ := (HA.out.alloc (.cells #[] 22)) (by intro e; rw [e] at hj; simp at hj)
    injection e with e
    injection e with e1 e2
    subst e1; subst e2
    have ea : (⟨b1, o1, none⟩ : Addr).add j = ⟨b1, o1 + j, none⟩ := by unfold Addr.add; split <;> simp_all
    rw [ea]
    exact hc j u hj
  have HN := hid hnews
  have hil : (tab rowV l).length = n := by rw [tab_row_length, en]
  have HIL := hid hil
  clear hnews ha en hil
  go_enter Try.func41, Try.ntmps41
  go_wp2_with (at_builtin; refine wpList_append_own_at _ rfl (.tmp 5) (.tmp 6) 23 rfl w.heap.size 22 i0 (.slice none 0 0) 1 24 Try.underlying23 hi hz0 hz1 hz2 rfl (by decide) _ 0 [] rfl (World.ownsRow_lit (base := w.heap.size) (size := 1) w #[] 0 (Nat.le_refl _) (by unfold maxLen; omega) rfl) ⟨b1, o1, none⟩ n ca (tab rowV l) (by rfl) (by rw [HIL.out]; simp) HN.out (tab_row_one l) (by unfold maxLen; omega) (by omega) (by simp) ?_; intro v' w1 hown' hgrow _ _)
  simp only [Nat.zero_add, List.nil_append] at hown'
  obtain ⟨A', cap', rfl⟩ := own_shape hown'
  have HO := hid hown'
  have hb := ((Below.refl w.heap.size w).alloc (Nat.le_refl _) (.cells #[] 22)).grown hgrow (by simp) (fun k hk => by have e : some w.heap.size = some k := hk; injection e with e; omega)
  have HB := hid hb
  clear hown' hgrow hb
  go_wp2
  go_ret
  exact ⟨A', cap', rfl, HB.out, HO.out⟩
set_option maxHeartbeats 400000 in
theorem neg_any (x : Int) (w : World) : Calls Try.prog 40 #[.int .i64 x] w (Gives (.bool (!decide (0 ≤ x))) w) := by
  by_cases h1 : x < 0
  · have hf : (!decide (0 ≤ x)) = true := by simp; omega
    have HF := hid hf
    clear hf
    go_enter Try.func40, Try.ntmps40
    go_wp2
    go_ret
    refine Gives.refl (by first | rfl | (rw [HF.out]; rfl))
  · have hf : (!decide (0 ≤ x)) = false := by simp; omega
    have HF := hid hf
    clear hf
    go_enter Try.func40, Try.ntmps40
    go_wp2
    go_ret
    refine Gives.refl (by first | rfl | (rw [HF.out]; rfl))
/-- None below zero. -/
def posR (l : List Int) : Bool := l.all fun x => decide (0 ≤ x)
theorem posR_iff {l : List Int} : posR l = true ↔ ∀ j, j < l.length → 0 ≤ atL l j := by
  unfold posR
  rw [List.all_eq_true]
  constructor
  · intro h j hj
    have := h (atL l j) (by unfold atL; rw [List.getElem?_eq_getElem hj]; exact List.getElem_mem _)
    simpa using this
  · intro h x hx
    obtain ⟨i, hi⟩ := List.mem_iff_getElem?.1 hx
    have hlt := (List.getElem?_eq_some_iff.1 hi).1
    have := h i hlt
    rw [atL, hi] at this
    simpa using this
set_option maxHeartbeats 1000000 in
theorem indexNeg_any (A : Option Addr) (ca n : Nat) (l : List Int) (en : l.length = n) (hn : n ≤ 1000000) (w : World) (ha : Cells w A (i64s l)) :
    Calls Try.prog 35 #[.slice A n ca, .func (.func 40) #[] #[]] w (fun e w' => ∃ (r : Int) (x : Past), e = .returned (.int .i64 r) ∧ w' = w.past x ∧ decide (0 ≤ r) = !posR l) := by
  have EN := hid en
  have HA := hid ha
  clear en ha
  go_enter Try.func35, Try.ntmps35
  go_wp2
  go_loopw [8] (fun i wr => ∃ (k : Nat) (x : Past), i = .int .i64 k ∧ k ≤ n ∧ wr = w.past x ∧ Hid (∀ j, j < k → 0 ≤ atL l j)) (fun i _ => n - (intOf i).toNat)
  case atStart => exact ⟨0, _, rfl, by omega, World.past_refl w, hid (fun j h => by omega)⟩
  case round =>
    obtain ⟨k, x, rfl, hk, rfl, HJ⟩ := hrel
    by_cases hlt : k < n
    · obtain ⟨b1, o1, rfl, hc1⟩ := i64_at HA.out (k := k) (by rw [EN.out]; exact hlt)
      have hb := neg_any (atL l k) (w.past x)
      obtain ⟨r, hr⟩ : ∃ r, decide (0 ≤ atL l k) = r := ⟨_, rfl⟩
      rw [hr] at hb
      have HR := hid hr
      have HB := hid hb
      clear hr hb
      cases r
      · have hf : posR l = false := by
          cases h : posR l with
          | false => rfl
          | true => have h1 := posR_iff.1 h k (by rw [EN.out]; exact hlt); have h2 := HR.out; simp at h2; omega
        have HF := hid hf
        clear hf
        go_wp2_with (go_at_call 40; refine HB.out.mono ?_; rintro _ _ ⟨rfl, _, rfl⟩)
        go_ret
        exact ⟨k, _, rfl, rfl, by rw [HF.out]; simp⟩
      · go_wp2_with (go_at_call 40; refine HB.out.mono ?_; rintro _ _ ⟨rfl, _, rfl⟩)
        go_roundw
        case rel => exact ⟨k + 1, _, by go_num, by omega, by first | rfl | trivial, hid (fun j hj => by
          by_cases e : j = k
          · subst e; have h2 := HR.out; simpa using h2
          · exact HJ.out j (by omega))⟩
        case measure => simp [intOf]; omega
    · obtain rfl : k = n := by omega
      have HF := hid (posR_iff.2 (fun j hj => HJ.out j (by rw [← EN.out]; exact hj)))
      go_wp2
      go_ret
      exact ⟨-1, _, rfl, rfl, by rw [HF.out]; rfl⟩
theorem hasNeg_any (A : Option Addr) (ca n : Nat) (l : List Int) (en : l.length = n) (hn : n ≤ 1000000) (w : World) (ha : Cells w A (i64s l)) :
    Calls Try.prog 39 #[.slice A n ca, .func (.func 40) #[] #[]] w (Gives (.bool (!posR l)) w) := by
  have HI := hid (indexNeg_any A ca n l en hn w ha)
  clear ha
  go_enter Try.func39, Try.ntmps39
  go_wp2_with fail
  refine HI.out.mono ?_
  rintro _ _ ⟨r, x, rfl, rfl, hr⟩
  have HRR := hid hr
  clear hr HI
  go_wp2
  go_ret
  refine Gives.mk (by rw [← HRR.out]; rfl) ?_
  (repeat (first | exact Below.refl _ _ | refine RowKit.Below.past ?_ _ | refine RowKit.Below.alloc' ?_ _ | refine RowKit.Below.drew' ?_ | refine RowKit.Below.drewN' ?_ _ | refine RowKit.Below.setCell' ?_ (by simp [go_sem]) _))
/-- A client, and numbers, that may be? -/
def fitsF (x : Bk) (who : Int) (n : List Int) : Bool := mayB x && (decide (0 ≤ who) && (decide (who < x.H.length) && ((n.length == x.F.2.2.length) && posR n)))
set_option maxRecDepth 100000 in
set_option maxHeartbeats 2000000 in
theorem fits_any (x : Bk) (hs : x.Sm) (who : Int) (A : Option Addr) (ca m : Nat) (n : List Int) (em : n.length = m) (hm : m ≤ 1000000) (w : World) (hx : x.In w) (ha : Cells w A (i64s n)) :
    Calls Try.prog 24 #[.agg x.cs, .int .i64 who, .slice A m ca] w (Gives (.bool (fitsF x who n)) w) := by
  obtain ⟨w1, ew1⟩ : ∃ w1, w1 = w.alloc (.cells x.cs 25) := ⟨_, rfl⟩
  have hb1 : Below w.heap.size w w1 := by rw [ew1]; exact (Below.refl _ w).alloc (Nat.le_refl _) _
  have hrec : Rec w1 w.heap.size 25 x.cs := by rw [ew1]; exact Rec.new w _ _
  have r0 := Rec.cell hrec 0
  have r1 := Rec.cell hrec 1
  have r2 := Rec.cell hrec 2
  have hcs : x.cs = #[.slice x.F.1 x.F.2.2.length x.F.2.1, .slice x.AH x.H.length x.cH, .slice x.AM x.M.length x.cM] := rfl
  obtain ⟨M, eM⟩ : ∃ v, Value.slice x.AM x.M.length x.cM = v := ⟨_, rfl⟩
  rw [eM] at hcs
  rw [hcs] at r0 r1 r2 ew1 ⊢
  simp at r0 r1 r2
  have hX := hx.below hb1
  have hM := May_any x hs.1 hs.2.2 w1 hX
  rw [hcs] at hM
  have hOF : fitsF x who n = (mayB x && (decide (0 ≤ who) && (decide (who < x.H.length) && ((n.length == x.F.2.2.length) && posR n)))) := rfl
  obtain ⟨r, er⟩ : ∃ r, mayB x = r := ⟨_, rfl⟩
  obtain ⟨nh, enh⟩ : ∃ n, x.H.length = n := ⟨_, rfl⟩
  obtain ⟨k, ek⟩ : ∃ n, x.F.2.2.length = n := ⟨_, rfl⟩
  have hn6 := hs.2.1
  have hk6 := hs.1
  rw [er] at hM hOF
  rw [enh] at r1 hOF hn6 ew1 hM ⊢
  rw [ek] at r0 hOF hk6 ew1 hM ⊢
  rw [em] at hOF
  have EW1 := hid ew1
  have HM := hid hM
  have HO := hid hOF
  have HB1 := hid hb1
  obtain ⟨p, ep⟩ : ∃ p, posR n = p := ⟨_, rfl⟩
  have HN := hid (fun y => ep ▸ hasNeg_any A ca m n em hm (w1.past y) ((ha.below hb1).past y))
  have HO := hid (ep ▸ hOF)
  clear ew1 hb1 hrec hX hM hOF er enh ek eM hcs hx hs em ha ep
  have fin : ∀ (v : Bool), fitsF x who n = v → ∀ y : Past, Gives (.bool (fitsF x who n)) w (.returned (.bool v)) (w1.past y) := fun v hv y => Gives.mk (by rw [hv]) (RowKit.Below.past HB1.out y)
  have FIN := hid fin
  clear fin
  by_cases h1 : r = false
  · subst h1
    have HF := hid (show fitsF x who n = false by rw [HO.out]; rfl)
    clear HO HN
    go_enter Try.func24, Try.ntmps24
    go_upto_region 1 with (fail)
    rw [← EW1.out]
    go_wp2_with (go_at_call 16; (with_reducible refine HM.out.mono ?_); rintro _ _ ⟨rfl, x1, rfl⟩)
    go_ret
    exact FIN.out _ HF.out _
  · obtain rfl : r = true := by cases r; exact (h1 rfl).elim; rfl
    clear h1
    by_cases h2 : who < 0
    · have HF := hid (show fitsF x who n = false by rw [HO.out, decide_eq_false (by omega)]; rfl)
      clear HO HN
      have h2' : decide (0 ≤ who) = false := decide_eq_false (by omega)
      go_enter Try.func24, Try.ntmps24
      go_upto_region 1 with (fail)
      rw [← EW1.out]
      go_wp2_with (go_at_call 16; (with_reducible refine HM.out.mono ?_); rintro _ _ ⟨rfl, x1, rfl⟩)
      go_ret
      exact FIN.out _ HF.out _
    · have h2' : 0 ≤ who := by omega
      by_cases h3 : who < nh
      · by_cases h4 : m = k
        · subst h4
          have HF := hid (show fitsF x who n = p by rw [HO.out, decide_eq_true h2', decide_eq_true h3]; simp)
          clear HO
          cases p
          all_goals
            go_enter Try.func24, Try.ntmps24
            go_upto_region 1 with (fail)
            rw [← EW1.out]
            go_wp2_with (first | (go_at_call 16; (with_reducible refine HM.out.mono ?_); rintro _ _ ⟨rfl, x1, rfl⟩) | (go_at_call 39; refine (HN.out _).mono ?_; rintro _ _ ⟨rfl, x2, rfl⟩))
            go_ret
            exact FIN.out _ HF.out _
        · have h4' : (m == k) = false := by simp; omega
          have h4'' : ((m : Int) == k) = false := by simp; omega
          have HF := hid (show fitsF x who n = false by rw [HO.out, h4']; simp)
          clear HO HN h4
          go_enter Try.func24, Try.ntmps24
          go_upto_region 1 with (fail)
          rw [← EW1.out]
          go_wp2_with (go_at_call 16; (with_reducible refine HM.out.mono ?_); rintro _ _ ⟨rfl, x1, rfl⟩)
          go_ret
          exact FIN.out _ HF.out _
      · have HF := hid (show fitsF x who n = false by rw [HO.out, decide_eq_false h3]; simp)
        clear HO HN
        have h3' : decide (who < (nh : Int)) = false := decide_eq_false h3
        go_enter Try.func24, Try.ntmps24
        go_upto_region 1 with (fail)
        rw [← EW1.out]
        go_wp2_with (go_at_call 16; (with_reducible refine HM.out.mono ?_); rintro _ _ ⟨rfl, x1, rfl⟩)
        go_ret
        exact FIN.out _ HF.out _
/-- Is there room? -/
def roomK (a b : List Int) (k : Nat) : Bool := (List.range k).all fun i => decide (atL b i ≤ 1000000 - atL a i)
theorem roomK_iff {a b : List Int} {k : Nat} : roomK a b k = true ↔ ∀ i, i < k → atL b i ≤ 1000000 - atL a i := by simp [roomK]
set_option maxHeartbeats 1000000 in
theorem room_any (A B : Option Addr) (ca cb n m : Nat) (a b : List Int) (ea : a.length = n) (eb : b.length = m) (hnm : n ≤ m) (hn : n ≤ 1000000) (hsa : Sml a) (w : World) (ha : Cells w A (i64s a)) (hb : Cells w B (i64s b)) :
    Calls Try.prog 28 #[.slice A n ca, .slice B m cb] w (Gives (.bool (roomK a b n)) w) := by
  have EA := hid ea
  have EB := hid eb
  have HA := hid ha
  have HB := hid hb
  have HSA := hid hsa
  clear ea eb ha hb hsa
  go_enter Try.func28, Try.ntmps28
  go_wp2
  go_loopw [8] (fun i wr => ∃ (k : Nat) (x : Past), i = .int .i64 k ∧ k ≤ n ∧ wr = w.past x ∧ Hid (∀ j, j < k → atL b j ≤ 1000000 - atL a j)) (fun i _ => n - (intOf i).toNat)
  case atStart => exact ⟨0, _, rfl, by omega, World.past_refl w, hid (fun j h => by omega)⟩
  case round =>
    obtain ⟨k, x, rfl, hk, rfl, HJ⟩ := hrel
    by_cases hlt : k < n
    · obtain ⟨b1, o1, rfl, hc1⟩ := i64_at HA.out (k := k) (by rw [EA.out]; exact hlt)
      obtain ⟨b2, o2, rfl, hc2⟩ := i64_at HB.out (k := k) (by rw [EB.out]; omega)
      have hkm : k < m := by omega
      have hsu := HSA.out k
      obtain ⟨u, eu⟩ : ∃ u, atL a k = u := ⟨_, rfl⟩
      obtain ⟨v, ev⟩ : ∃ v, atL b k = v := ⟨_, rfl⟩
      rw [eu] at hc1 hsu
      rw [ev] at hc2
      have EUV := hid (And.intro eu ev)
      have hwr : IntKind.i64.wrap (1000000 - u) = 1000000 - u := by rw [IntKind.wrap_i64]; omega
      clear eu ev
      by_cases hv : 1000000 - u < v
      · have hf : roomK a b n = false := by
          cases h : roomK a b n with
          | false => rfl
          | true => have := roomK_iff.1 h k hlt; rw [EUV.out.1, EUV.out.2] at this; omega
        have HF := hid hf
        clear hf
        go_wp2_with fail
        refine wp_region_past (by kernel_rfl) (by kernel_rfl) ?_
        repeat (go_big_quiet_step ((first | (go_at_call 16; first | with_reducible exact Calls.in_past (True) | with_reducible exact Calls.in_past2 (True)) | (go_at_call 16; first | exact Calls.in_past (True) | exact Calls.in_past2 (True)))))
        refine wpQuiet_nil ?_
        rintro _ ⟨_, rfl⟩
        go_wp2_with fail
        go_ret
        refine Gives.mk (by rw [HF.out]; rfl) ?_
        (repeat (first | exact Below.refl _ _ | refine RowKit.Below.past ?_ _ | refine RowKit.Below.alloc' ?_ _ | refine RowKit.Below.drew' ?_ | refine RowKit.Below.drewN' ?_ _ | refine RowKit.Below.setCell' ?_ (by simp [go_sem]) _))
      · go_wp2_with fail
        refine wp_region_past (by kernel_rfl) (by kernel_rfl) ?_
        repeat (go_big_quiet_step ((first | (go_at_call 16; first | with_reducible exact Calls.in_past (True) | with_reducible exact Calls.in_past2 (True)) | (go_at_call 16; first | exact Calls.in_past (True) | exact Calls.in_past2 (True)))))
        refine wpQuiet_nil ?_
        rintro _ ⟨_, rfl⟩
        go_wp2_with fail
        go_roundw
        case rel => exact ⟨k + 1, _, by go_num, by omega, by first | rfl | trivial, hid (fun j hj => by
          by_cases e : j = k
          · subst e; rw [EUV.out.1, EUV.out.2]; omega
          · exact HJ.out j (by omega))⟩
        case measure => simp [intOf]; omega
    · obtain rfl : k = n := by omega
      have HF := hid (roomK_iff.2 HJ.out)
      go_wp2_with fail
      go_ret
      refine Gives.mk (by rw [HF.out]; rfl) ?_
      (repeat (first | exact Below.refl _ _ | refine RowKit.Below.past ?_ _ | refine RowKit.Below.alloc' ?_ _ | refine RowKit.Below.drew' ?_ | refine RowKit.Below.drewN' ?_ _ | refine RowKit.Below.setCell' ?_ (by simp [go_sem]) _))
end Go.Proofs.Ytddngloojacceaa
