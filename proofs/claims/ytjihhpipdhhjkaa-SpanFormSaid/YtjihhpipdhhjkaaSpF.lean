/-
  Layer 33: none of that stays in a set. No condition.
-/
import Derived.Test.YtjihhpipdhhjkaaSpE
import Derived.Test.YtjihhpipdhhjkaaPushB
import Derived.Deep.CutBlock
namespace Go.Proofs.Ytjihhpipdhhjkaa
open Go.RowKit
def cutA (l : List (Int × Int)) (low : Int) : List (Int × Int) := if ltV (pc l (ahF l low true)).1 low = true then [((pc l (ahF l low true)).1, low)] else []
def cutB (l : List (Int × Int)) (high : Int) : List (Int × Int) := if ltV high (pc l (beF l high false - 1)).2 = true then [(high, (pc l (beF l high false - 1)).2)] else []
def cutL (l : List (Int × Int)) (low high : Int) : List (Int × Int) :=
  if ltV low high = true then (if ahF l low true < beF l high false then l.take (ahF l low true) ++ (cutA l low ++ cutB l high) ++ l.drop (beF l high false) else l) else l
theorem cutA_len (l : List (Int × Int)) (low : Int) : (cutA l low).length ≤ 1 := by unfold cutA; split <;> simp
theorem cutB_len (l : List (Int × Int)) (low : Int) : (cutB l low).length ≤ 1 := by unfold cutB; split <;> simp
set_option maxRecDepth 100000 in
set_option maxHeartbeats 8000000 in
theorem Cut_any {B : Nat} {w : World} {b : Nat} {l : List (Int × Int)} (h : SpAt B w b l) (low high : Int) (hl : (cutL l low high).length ≤ 100000) :
    Calls Try.prog 13 #[.pointer (some ⟨b, 0, none⟩), .int .i64 low, .int .i64 high] w (AddP B b (ltV low high) (cutL l low high) w) := by
  obtain ⟨i0, hi, hz0, hz1, hz2⟩ := info_parts info_pc
  have HI := hid hi
  have HB := hid (ahead_any h low true)
  have HG := hid (fun y : Past => begun_any (h.far (w.below_past y)) high false)
  have hle := ahF_le l low true
  have hle2 := beF_le l high false
  have HH := hid h
  have HAL := hid (show cutL l low high = if ltV low high = true then (if ahF l low true < beF l high false then l.take (ahF l low true) ++ (cutA l low ++ cutB l high) ++ l.drop (beF l high false) else l) else l from rfl)
  have HCA := hid (show cutA l low = if ltV (pc l (ahF l low true)).1 low = true then [((pc l (ahF l low true)).1, low)] else [] from rfl)
  have HCB := hid (show cutB l high = if ltV high (pc l (beF l high false - 1)).2 = true then [(high, (pc l (beF l high false - 1)).2)] else [] from rfl)
  have HLA := hid (cutA_len l low)
  have HLB := hid (cutB_len l high)
  obtain ⟨r, er⟩ : ∃ r, ahF l low true = r := ⟨_, rfl⟩
  obtain ⟨s, es⟩ : ∃ s, beF l high false = s := ⟨_, rfl⟩
  rw [er] at HB hle HAL HCA
  rw [es] at HG hle2 HAL HCB
  obtain ⟨n, en⟩ : ∃ n, l.length = n := ⟨_, rfl⟩
  rw [en] at hle hle2
  have hlen := h.len
  rw [en] at hlen
  have HL := hid hl
  have EN := hid en
  have hbl := h.lt
  clear er es en h hl hi
  rcases Bool.eq_false_or_eq_true (ltV low high) with h1 | h1
  · have HA1 := hid (show cutL l low high = if r < s then l.take r ++ (cutA l low ++ cutB l high) ++ l.drop s else l by rw [HAL.out, if_pos h1])
    have h1' := h1
    unfold ltV at h1'
    rw [h1]
    clear HAL h1
    by_cases hc : r < s
    · have HA2 := hid (show cutL l low high = l.take r ++ (cutA l low ++ cutB l high) ++ l.drop s by rw [HA1.out, if_pos hc])
      obtain ⟨LA, eLA⟩ : ∃ x, cutA l low = x := ⟨_, rfl⟩
      obtain ⟨LB, eLB⟩ : ∃ x, cutB l high = x := ⟨_, rfl⟩
      rw [eLA, eLB] at HA2
      rw [eLA] at HLA HCA
      rw [eLB] at HLB HCB
      have hgs : decide (s ≤ r) = false := by simp; omega
      clear HA1 eLA eLB
      have key : ∀ (w5 : World), Below w.heap.size w w5 → ∃ A c, w5.cell? ⟨b, 0, none⟩ = some (.slice A n c) ∧ n ≤ c ∧ (∃ g, A = some ⟨g, 0, none⟩) ∧ Cells w5 A (tab pcV l) := fun w5 h5 => by
        obtain ⟨A, c, g1, g2⟩ := (HH.out.far h5).ex
        have q := Rec.cell g1 0
        simp at q
        rw [EN.out] at q g2
        refine ⟨A, c, q, own_cap g2, ?_, Cells.of_own g2⟩
        rcases g2.2 with ⟨g3, g4⟩ | ⟨g, _, _, g3, _⟩
        · omega
        · injection g3 with g5 _ _; exact ⟨g, g5⟩
      have HKEY := hid key
      clear key
      go_enter Try.func13, Try.ntmps13
      go_upto_region 7 with (first | (go_at_call 26; refine HB.out.mono ?_; rintro _ _ ⟨rfl, y1, rfl⟩) | (go_at_call 27; refine (HG.out _).mono ?_; rintro _ _ ⟨rfl, y2, rfl⟩))
      obtain ⟨w1, ew1⟩ : ∃ W, W = w.past (y1.and y2) := ⟨_, rfl⟩
      have hb1 : Below w.heap.size w w1 := by rw [ew1]; exact w.below_past _
      obtain ⟨A, c, q, hcap, ⟨g, rfl⟩, hcl⟩ := HKEY.out w1 hb1
      obtain ⟨g', o', e', c0, c1⟩ := pc_at hcl (k := r) (by rw [EN.out]; omega)
      cases e'
      obtain ⟨z1, ez1⟩ : ∃ z, (pc l r).1 = z := ⟨_, rfl⟩
      rw [ez1] at c0 HCA
      obtain ⟨z2, ez2⟩ : ∃ z, (pc l r).2 = z := ⟨_, rfl⟩
      rw [ez2] at c1
      simp only [Nat.zero_add] at c0 c1
      have HB1 := hid hb1
      rw [← ew1]
      clear ew1 hb1 hcl ez1 ez2 HB HG
      go_upto_if 39 with (fail)
      obtain ⟨w2, ew2⟩ : ∃ W, W = w1.alloc (.cells #[.int .i64 z1, .int .i64 z2] 64) := ⟨_, rfl⟩
      obtain ⟨X, eX⟩ : ∃ X, w1.heap.size = X := ⟨_, rfl⟩
      have hr2 : Rec w2 X 64 #[.int .i64 z1, .int .i64 z2] := by rw [ew2, ← eX]; exact Rec.new w1 _ _
      have hb2 : Below w.heap.size w w2 := by rw [ew2]; exact HB1.out.alloc HB1.out.size _
      have HB2 := hid hb2
      have hs2 := hb2.size
      have x0 := Rec.cell hr2 0
      simp at x0
      rw [eX, ← ew2]
      clear ew2 eX hr2 hb2 q c0 c1 HB1
      go_cut [9] from 39 to 46 (fun v wx => ∃ R cR, v = .slice R LA.length cR ∧ Hid (wx.ownsRow w.heap.size 64 2 (.slice R LA.length cR) LA.length (tab pcV LA)) ∧ Hid (Below w.heap.size w wx))
      case first =>
        rcases Bool.eq_false_or_eq_true (ltV z1 low) with h2 | h2
        · have hA := HCA.out
          rw [if_pos h2] at hA
          subst hA
          have h2' := h2
          unfold ltV at h2'
          have h3 : z1 < low := by simpa using h2'
          clear h2
          go_wp2_with (at_builtin; refine wpList_pushB rfl (.tmp 40) (.tmp 45) 59 rfl 64 i0 (.agg #[.int .i64 0, .int .i64 0]) 2 16 Try.underlying59 HI.out hz0 hz1 hz2 rfl (by decide) w.heap.size ?_ (.slice none 0 0) 0 [] ?_ (World.ownsRow_nil _ _ _ _) _ #[.int .i64 z1, .int .i64 low] ?_ rfl rfl ?_ ?_ ?_ ?_; (· exact hs2); (· rfl); (· simp [go_sem]); (· simp [Value.oneCell']); (· omega); (· unfold maxLen; omega); intro w3 g3 c3 ho3 hg3 _; have HO3 := hid ho3; have HB3 := hid (HB2.out.grown hg3 hs2 (fun k h => by cases h)); clear ho3 hg3)
          go_meet
          case rel => exact ⟨some ⟨g3, 0, none⟩, c3, rfl, HO3, HB3⟩
        · have hA := HCA.out
          rw [if_neg (by rw [h2]; simp)] at hA
          subst hA
          have h2' := h2
          unfold ltV at h2'
          have h3 : ¬ z1 < low := by simpa using h2'
          clear h2
          go_wp2_with fail
          go_meet
          case rel => exact ⟨none, 0, rfl, hid (World.ownsRow_nil _ _ _ _), HB2⟩
      case rest =>
        obtain ⟨R, cR, rfl, HRA, HB3⟩ := hcut
        obtain ⟨w3, ew3⟩ : ∃ W : World, W = wc := ⟨_, rfl⟩
        rw [← ew3] at HRA HB3 ⊢
        clear ew3 HB2 hs2 x0 HCA
        obtain ⟨A, c', q, hcap', ⟨g1, rfl⟩, hcl⟩ := HKEY.out w3 HB3.out
        obtain ⟨g', o', e', c0, c1⟩ := pc_at hcl (k := s - 1) (by rw [EN.out]; omega)
        cases e'
        obtain ⟨y1, ey1⟩ : ∃ z, (pc l (s - 1)).1 = z := ⟨_, rfl⟩
        rw [ey1] at c0
        obtain ⟨y2, ey2⟩ : ∃ z, (pc l (s - 1)).2 = z := ⟨_, rfl⟩
        rw [ey2] at c1 HCB
        simp only [Nat.zero_add] at c0 c1
        have hs1 : ((s : Int) - 1) = ((s - 1 : Nat) : Int) := by omega
        clear hcl ey1 ey2
        obtain ⟨m, em⟩ : ∃ m, LA.length = m := ⟨_, rfl⟩
        have hm1 : m ≤ 1 := by rw [← em]; exact HLA.out
        rw [em] at HRA ⊢
        have EMM := hid em
        clear em
        go_upto_if 58 with (fail)
        obtain ⟨w4, ew4⟩ : ∃ W, W = w3.alloc (.cells #[.int .i64 y1, .int .i64 y2] 64) := ⟨_, rfl⟩
        obtain ⟨X2, eX2⟩ : ∃ X, w3.heap.size = X := ⟨_, rfl⟩
        have hr4 : Rec w4 X2 64 #[.int .i64 y1, .int .i64 y2] := by rw [ew4, ← eX2]; exact Rec.new w3 _ _
        have hb4 : Below w.heap.size w w4 := by rw [ew4]; exact HB3.out.alloc HB3.out.size _
        have HR4 := hid (show w4.ownsRow w.heap.size 64 2 (.slice R m cR) m (tab pcV LA) by rw [ew4]; exact HRA.out.alloc _)
        have HB4 := hid hb4
        have hs4 := hb4.size
        have x1 := Rec.cell hr4 1
        simp at x1
        rw [eX2, ← ew4]
        clear ew4 eX2 hr4 hb4 q c0 c1 HB3 HRA hs1
        go_cut [9] from 58 to 65 (fun v wx => ∃ R cR, v = .slice R (LA ++ LB).length cR ∧ Hid (Cells wx R (tab pcV (LA ++ LB))) ∧ Hid (Below w.heap.size w wx))
        case first =>
          rcases Bool.eq_false_or_eq_true (ltV high y2) with h2 | h2
          · have hA := HCB.out
            rw [if_pos h2] at hA
            have HLE := hid (show (LA ++ LB).length = m + 1 by rw [List.length_append, EMM.out, hA]; rfl)
            have HTB := hid (show tab pcV LA ++ [.int .i64 high, .int .i64 y2] = tab pcV (LA ++ LB) by rw [hA, ← tab_append]; rfl)
            have h2' := h2
            unfold ltV at h2'
            have h3 : high < y2 := by simpa using h2'
            clear h2 hA
            go_wp2_with (at_builtin; refine wpList_pushB rfl (.tmp 59) (.tmp 64) 59 rfl 64 i0 (.agg #[.int .i64 0, .int .i64 0]) 2 16 Try.underlying59 HI.out hz0 hz1 hz2 rfl (by decide) w.heap.size ?_ (.slice R m cR) m (tab pcV LA) ?_ HR4.out _ #[.int .i64 high, .int .i64 y2] ?_ rfl rfl ?_ ?_ ?_ ?_; (· exact hs4); (· rfl); (· simp [go_sem]); (· simp [Value.oneCell']); (· omega); (· unfold maxLen; omega); intro w5 g3 c3 ho3 hg3 _; have HO3 := hid ho3; have HB3 := hid (HB4.out.grown hg3 hs4 (fun k h => (HR4.out.lt k h).1)); clear ho3 hg3)
            go_meet
            case rel => exact ⟨some ⟨g3, 0, none⟩, c3, by rw [HLE.out], hid (by rw [← HTB.out]; exact Cells.of_own HO3.out), HB3⟩
          · have hA := HCB.out
            rw [if_neg (by rw [h2]; simp)] at hA
            subst hA
            have h2' := h2
            unfold ltV at h2'
            have h3 : ¬ high < y2 := by simpa using h2'
            clear h2
            go_wp2_with fail
            go_meet
            case rel => exact ⟨R, cR, by rw [List.append_nil, EMM.out], hid (by rw [List.append_nil]; exact Cells.of_own HR4.out), HB4⟩
        case rest =>
          clear HR4 HB4 hs4 x1 HCB
          obtain ⟨R, cR, rfl, HRO, HB5⟩ := hcut
          obtain ⟨w5, ew5⟩ : ∃ W : World, W = wc := ⟨_, rfl⟩
          rw [← ew5] at HRO HB5 ⊢
          clear ew5 hcap' hcap
          obtain ⟨LC, eLC⟩ : ∃ L, LA ++ LB = L := ⟨_, rfl⟩
          have hLC : LC.length ≤ 2 := by rw [← eLC, List.length_append]; have := HLA.out; have := HLB.out; omega
          rw [eLC] at HA2 HRO ⊢
          clear eLC
          obtain ⟨k, ek⟩ : ∃ k, LC.length = k := ⟨_, rfl⟩
          rw [ek] at hLC ⊢
          have EKK := hid ek
          clear ek
          obtain ⟨A, c, q, hcap, ⟨g, rfl⟩, hcl⟩ := HKEY.out w5 HB5.out
          have i0' : (0 : Int) ≤ (r : Int) := by omega
          have i1 : (r : Int) ≤ (c : Int) := by omega
          have i2 : (0 : Int) ≤ (s : Int) := by omega
          have i3 : (s : Int) ≤ (n : Int) := by omega
          have HCC := hid (fun (W : World) (A A3 R : Option Addr) (c cR S : Nat) (hA : Cells W A (tab pcV (l.take r))) (hA3 : Cells W A3 (tab pcV (l.drop s))) (hR : Cells W R (tab pcV LC)) (hS : Cells W (some ⟨S, 0, none⟩) [.slice A r c, .slice R k cR, .slice A3 (n - s) (c - s)]) => (show Calls Try.prog 28 #[.slice (some ⟨S, 0, none⟩) 3 3] W (GivesOwn 64 2 (r + k + (n - s)) (tab pcV (cutL l low high)) W) by
            have e1 : (l.take r).length = r := by rw [List.length_take, EN.out]; omega
            have e3 : (l.drop s).length = n - s := by rw [List.length_drop, EN.out]
            have := concat_any (some ⟨S, 0, none⟩) 3 3 [⟨A, c, l.take r⟩, ⟨R, cR, LC⟩, ⟨A3, c - s, l.drop s⟩] rfl (by omega) (by
              intro x hx
              simp only [List.mem_cons, List.not_mem_nil, or_false] at hx
              rcases hx with rfl | rfl | rfl
              · simp only [e1]; omega
              · simp only [EKK.out]; omega
              · simp only [e3]; omega) W (by simpa [rwV, e1, e3, EKK.out] using hS) (by
              intro x hx
              simp only [List.mem_cons, List.not_mem_nil, or_false] at hx
              rcases hx with rfl | rfl | rfl
              · exact hA
              · exact hR
              · exact hA3)
            have ec : catR [⟨A, c, l.take r⟩, ⟨R, cR, LC⟩, ⟨A3, c - s, l.drop s⟩] 3 = cutL l low high := by
              rw [HA2.out]; simp [catR]
            have el : (cutL l low high).length = r + k + (n - s) := by rw [HA2.out]; simp only [List.length_append, e1, e3, EKK.out]
            rw [ec, el] at this
            exact this))
          have HFIN := hid (fun (w1 w2 : World) (A : Option Addr) (c : Nat) (hb1 : Below w5.heap.size w5 w1) (hb2 : Below w1.heap.size w1 w2) (ho : w2.ownsRow w1.heap.size 64 2 (.slice A (r + k + (n - s)) c) (r + k + (n - s)) (tab pcV (cutL l low high))) => (HH.out.far HB5.out).again hb1 hb2 ho (by rw [HA2.out]; simp only [List.length_append, List.length_take, List.length_drop, EKK.out, EN.out]; omega) HL.out)
          have HTK := hid (show Cells w5 (some ⟨g, 0, none⟩) (tab pcV (l.take r)) by rw [← tab_take pcV_length]; exact hcl.take _)
          have HDR := hid (show Cells w5 (some ⟨g, s * 2, none⟩) (tab pcV (l.drop s)) by
            have := hcl.drop (s * 2)
            rwa [tab_drop pcV_length, Nat.zero_add] at this)
          have HDN := hid (fun (e : c = s) => (show l.drop s = [] from List.drop_eq_nil_of_le (by rw [EN.out]; omega)))
          have hbl5 := World.block_lt_of_cell? w5 _ q
          have HF5 := hid (fun W (hW : Below w5.heap.size w5 W) => below_cell hW (Nat.le_refl _) _ _ q)
          have HBB := hid (Nat.le_trans HH.out.big (Nat.le_of_lt hbl))
          obtain ⟨tot, et⟩ : ∃ t, r + k + (n - s) = t := ⟨_, rfl⟩
          rw [et] at HCC HFIN
          clear et hcl hle hle2
          rcases Nat.lt_or_ge s c with h8 | h8
          · have h9 : (s : Int) ≤ (c : Int) := by omega
            have h10 : ¬ c = s := by omega
            clear h8
            go_wp2_with fail
            refine wp_region_split (S := (fun W => W.cell? ⟨b, 0, none⟩ = some (.slice (some ⟨g, 0, none⟩) n c))) 16 (by kernel_rfl) (by kernel_rfl) ?_ (fun hHeld => ?_)
            · (first | (simp [go_sem, *]; done) | (simp [go_sem, *, World.cell?_alloc_some]; done))
            simp only [List.take_succ_cons, List.take_zero, List.drop_succ_cons, List.drop_zero]
            refine wpAnyH_take (i := 0) (v := ?_) rfl (by kernel_rfl) (by kernel_rfl) (by kernel_rfl) (fun _ _ _ h => h) (Or.inl ⟨by rfl, ?_⟩) (by assumption) ?_
            rotate_left
            · intro w hSw; (try dsimp only at hSw); go_simp; try with_reducible rfl
            try simp only [put_simp]
            refine wpAnyH_take (i := 1) (v := ?_) rfl (by kernel_rfl) (by kernel_rfl) (by kernel_rfl) (fun _ _ _ h => h) (Or.inl ⟨by rfl, ?_⟩) (by assumption) ?_
            rotate_left
            · intro w hSw; (try dsimp only at hSw); go_simp; try with_reducible rfl
            try simp only [put_simp]
            refine wpAnyH_take (i := 2) (v := ?_) rfl (by kernel_rfl) (by kernel_rfl) (by kernel_rfl) (fun _ _ _ h => h) (Or.inl ⟨by rfl, ?_⟩) (by assumption) ?_
            rotate_left
            · intro w hSw; (try dsimp only at hSw); go_simp; try with_reducible rfl
            try simp only [put_simp]
            refine wpAnyH_take (i := 3) (v := ?_) rfl (by kernel_rfl) (by kernel_rfl) (by kernel_rfl) (fun _ _ _ h => h) (Or.inl ⟨by rfl, ?_⟩) (by assumption) ?_
            rotate_left
            · intro w hSw; (try dsimp only at hSw); go_simp; try with_reducible rfl
            try simp only [put_simp]
            refine wpAnyH_take (i := 4) (v := ?_) rfl (by kernel_rfl) (by kernel_rfl) (by kernel_rfl) (fun _ _ _ h => h) (Or.inl ⟨by rfl, ?_⟩) (by assumption) ?_
            rotate_left
            · intro w hSw; (try dsimp only at hSw); go_simp; try with_reducible rfl
            try simp only [put_simp]
            refine wpAnyH_take (i := 5) (v := ?_) rfl (by kernel_rfl) (by kernel_rfl) (by kernel_rfl) (fun _ _ _ h => h) (Or.inl ⟨by rfl, ?_⟩) (by assumption) ?_
            rotate_left
            · intro w hSw; (try dsimp only at hSw); go_simp; try with_reducible rfl
            try simp only [put_simp]
            refine wpAnyH_take (i := 6) (v := ?_) rfl (by kernel_rfl) (by kernel_rfl) (by kernel_rfl) (fun _ _ _ h => h) (Or.inl ⟨by rfl, ?_⟩) (by assumption) ?_
            rotate_left
            · intro w hSw; (try dsimp only at hSw); go_simp; try with_reducible rfl
            try simp only [put_simp]
            refine wpAnyH_take (i := 7) (v := ?_) rfl (by kernel_rfl) (by kernel_rfl) (by kernel_rfl) (fun _ _ _ h => h) (Or.inl ⟨by rfl, ?_⟩) (by assumption) ?_
            rotate_left
            · intro w hSw; (try dsimp only at hSw); go_simp; try with_reducible rfl
            try simp only [put_simp]
            refine wpAnyH_take (i := 8) (v := ?_) rfl (by kernel_rfl) (by kernel_rfl) (by kernel_rfl) (fun _ _ _ h => h) (Or.inl ⟨by rfl, ?_⟩) (by assumption) ?_
            rotate_left
            · intro w hSw; (try dsimp only at hSw); go_simp; try with_reducible rfl
            try simp only [put_simp]
            refine wpAnyH_take (i := 9) (v := ?_) rfl (by kernel_rfl) (by kernel_rfl) (by kernel_rfl) (fun _ _ _ h => h) (Or.inl ⟨by rfl, ?_⟩) (by assumption) ?_
            rotate_left
            · intro w hSw; (try dsimp only at hSw); go_simp; try with_reducible rfl
            try simp only [put_simp]
            refine wpAnyH_take (i := 10) (v := ?_) rfl (by kernel_rfl) (by kernel_rfl) (by kernel_rfl) (fun _ _ _ h => h) (Or.inl ⟨by rfl, ?_⟩) (by assumption) ?_
            rotate_left
            · intro w hSw; (try dsimp only at hSw); go_simp; try with_reducible rfl
            try simp only [put_simp]
            refine wpAnyH_take (i := 11) (v := ?_) rfl (by kernel_rfl) (by kernel_rfl) (by kernel_rfl) (fun _ _ _ h => h) (Or.inl ⟨by rfl, ?_⟩) (by assumption) ?_
            rotate_left
            · intro w hSw; (try dsimp only at hSw); go_simp; try with_reducible rfl
            try simp only [put_simp]
            refine wpAnyH_take (i := 12) (v := ?_) rfl (by kernel_rfl) (by kernel_rfl) (by kernel_rfl) (fun _ _ _ h => h) (Or.inl ⟨by rfl, ?_⟩) (by assumption) ?_
            rotate_left
            · intro w hSw; (try dsimp only at hSw); go_simp; try with_reducible rfl
            try simp only [put_simp]
            refine wpAnyH_take (i := 13) (v := ?_) rfl (by kernel_rfl) (by kernel_rfl) (by kernel_rfl) (fun _ _ _ h => h) (Or.inl ⟨by rfl, ?_⟩) (by assumption) ?_
            rotate_left
            · intro w hSw; (try dsimp only at hSw); go_simp; try with_reducible rfl
            try simp only [put_simp]
            refine wpAnyH_ready (rs := [14]) (by kernel_rfl) (by simp) ?_
            refine AllReadyH.cons rfl (fun K hK => ?_) ?_
            · go_simp
              refine hK.out _ _ ?_ (fun hHeld => ?_)
              · (first | (simp [go_sem, *]; done) | (simp [go_sem, *, World.cell?_alloc_some]; done))
              clear hK K
              try simp only [put_simp]
              refine wpAnyH_ready (rs := [15]) (by kernel_rfl) (by simp) ?_
              refine AllReadyH.cons rfl (fun K hK => ?_) ?_
              · go_simp; refine (HCC.out _ (some ⟨g, 0, none⟩) (some ⟨g, s * 2, none⟩) R c cR w5.heap.size ?_ ?_ ?_ ?_).mono ?_; (· exact HTK.out.below (by (repeat (first | exact Below.refl _ _ | refine RowKit.Below.past ?_ _ | refine RowKit.Below.alloc' ?_ _ | refine RowKit.Below.drew' ?_ | refine RowKit.Below.drewN' ?_ _ | refine RowKit.Below.setCell' ?_ (by simp [go_sem]) _)))); (· exact HDR.out.below (by (repeat (first | exact Below.refl _ _ | refine RowKit.Below.past ?_ _ | refine RowKit.Below.alloc' ?_ _ | refine RowKit.Below.drew' ?_ | refine RowKit.Below.drewN' ?_ _ | refine RowKit.Below.setCell' ?_ (by simp [go_sem]) _)))); (· exact HRO.out.below (by (repeat (first | exact Below.refl _ _ | refine RowKit.Below.past ?_ _ | refine RowKit.Below.alloc' ?_ _ | refine RowKit.Below.drew' ?_ | refine RowKit.Below.drewN' ?_ _ | refine RowKit.Below.setCell' ?_ (by simp [go_sem]) _)))); (· exact cells_3 (by simp [go_sem]) (by simp [go_sem]) (by simp [go_sem, h10])); rintro _ w7 ⟨A7, c7, rfl, hb7, ho7⟩; have HN := HFIN.out _ w7 A7 c7 (by (repeat (first | exact Below.refl _ _ | refine RowKit.Below.past ?_ _ | refine RowKit.Below.alloc' ?_ _ | refine RowKit.Below.drew' ?_ | refine RowKit.Below.drewN' ?_ _ | refine RowKit.Below.setCell' ?_ (by simp [go_sem]) _))) hb7 ho7; have f7 := HN.2.2.2.1; have l7 := HN.2.2.2.2.1; obtain ⟨v7, q7⟩ := HN.2.2.2.2.2; have HN7 := hid (And.intro HN.1 (And.intro HN.2.1 HN.2.2.1)); have g7 := HF5.out w7 (below_trans' (by (repeat (first | exact Below.refl _ _ | refine RowKit.Below.past ?_ _ | refine RowKit.Below.alloc' ?_ _ | refine RowKit.Below.drew' ?_ | refine RowKit.Below.drewN' ?_ _ | refine RowKit.Below.setCell' ?_ (by simp [go_sem]) _))) hb7); clear HN hb7 ho7 q7
                refine hK.out _ _ ?_ (fun hHeld => ?_)
                · (first | (simp [go_sem, *]; done) | (simp [go_sem, *, World.cell?_alloc_some]; done))
                clear hK K
                try simp only [put_simp]
                refine wpAnyH_done (by kernel_rfl) ?_ _
                change wpList _ _ _ _ _ _
                go_wp2_with fail
                go_ret
                exact ⟨rfl, HN7.out.1, (HB5.out.mono HBB.out).trans HN7.out.2.1, (Kept.of_below HB5.out (fun k => k = b)).trans HN7.out.2.2⟩
              exact AllReadyH.nil
            exact AllReadyH.nil
          · obtain rfl : c = s := by omega
            obtain rfl : n = c := by omega
            have hcn : Cells w5 (some ⟨g, 0, none⟩) (tab pcV (l.drop n)) := by rw [HDN.out rfl]; exact Cells.nil _ _
            have HCN := hid hcn
            clear hcn h8
            go_wp2_with fail
            refine wp_region_split (S := (fun W => W.cell? ⟨b, 0, none⟩ = some (.slice (some ⟨g, 0, none⟩) n n))) 16 (by kernel_rfl) (by kernel_rfl) ?_ (fun hHeld => ?_)
            · (first | (simp [go_sem, *]; done) | (simp [go_sem, *, World.cell?_alloc_some]; done))
            simp only [List.take_succ_cons, List.take_zero, List.drop_succ_cons, List.drop_zero]
            refine wpAnyH_take (i := 0) (v := ?_) rfl (by kernel_rfl) (by kernel_rfl) (by kernel_rfl) (fun _ _ _ h => h) (Or.inl ⟨by rfl, ?_⟩) (by assumption) ?_
            rotate_left
            · intro w hSw; (try dsimp only at hSw); go_simp; try with_reducible rfl
            try simp only [put_simp]
            refine wpAnyH_take (i := 1) (v := ?_) rfl (by kernel_rfl) (by kernel_rfl) (by kernel_rfl) (fun _ _ _ h => h) (Or.inl ⟨by rfl, ?_⟩) (by assumption) ?_
            rotate_left
            · intro w hSw; (try dsimp only at hSw); go_simp; try with_reducible rfl
            try simp only [put_simp]
            refine wpAnyH_take (i := 2) (v := ?_) rfl (by kernel_rfl) (by kernel_rfl) (by kernel_rfl) (fun _ _ _ h => h) (Or.inl ⟨by rfl, ?_⟩) (by assumption) ?_
            rotate_left
            · intro w hSw; (try dsimp only at hSw); go_simp; try with_reducible rfl
            try simp only [put_simp]
            refine wpAnyH_take (i := 3) (v := ?_) rfl (by kernel_rfl) (by kernel_rfl) (by kernel_rfl) (fun _ _ _ h => h) (Or.inl ⟨by rfl, ?_⟩) (by assumption) ?_
            rotate_left
            · intro w hSw; (try dsimp only at hSw); go_simp; try with_reducible rfl
            try simp only [put_simp]
            refine wpAnyH_take (i := 4) (v := ?_) rfl (by kernel_rfl) (by kernel_rfl) (by kernel_rfl) (fun _ _ _ h => h) (Or.inl ⟨by rfl, ?_⟩) (by assumption) ?_
            rotate_left
            · intro w hSw; (try dsimp only at hSw); go_simp; try with_reducible rfl
            try simp only [put_simp]
            refine wpAnyH_take (i := 5) (v := ?_) rfl (by kernel_rfl) (by kernel_rfl) (by kernel_rfl) (fun _ _ _ h => h) (Or.inl ⟨by rfl, ?_⟩) (by assumption) ?_
            rotate_left
            · intro w hSw; (try dsimp only at hSw); go_simp; try with_reducible rfl
            try simp only [put_simp]
            refine wpAnyH_take (i := 6) (v := ?_) rfl (by kernel_rfl) (by kernel_rfl) (by kernel_rfl) (fun _ _ _ h => h) (Or.inl ⟨by rfl, ?_⟩) (by assumption) ?_
            rotate_left
            · intro w hSw; (try dsimp only at hSw); go_simp; try with_reducible rfl
            try simp only [put_simp]
            refine wpAnyH_take (i := 7) (v := ?_) rfl (by kernel_rfl) (by kernel_rfl) (by kernel_rfl) (fun _ _ _ h => h) (Or.inl ⟨by rfl, ?_⟩) (by assumption) ?_
            rotate_left
            · intro w hSw; (try dsimp only at hSw); go_simp; try with_reducible rfl
            try simp only [put_simp]
            refine wpAnyH_take (i := 8) (v := ?_) rfl (by kernel_rfl) (by kernel_rfl) (by kernel_rfl) (fun _ _ _ h => h) (Or.inl ⟨by rfl, ?_⟩) (by assumption) ?_
            rotate_left
            · intro w hSw; (try dsimp only at hSw); go_simp; try with_reducible rfl
            try simp only [put_simp]
            refine wpAnyH_take (i := 9) (v := ?_) rfl (by kernel_rfl) (by kernel_rfl) (by kernel_rfl) (fun _ _ _ h => h) (Or.inl ⟨by rfl, ?_⟩) (by assumption) ?_
            rotate_left
            · intro w hSw; (try dsimp only at hSw); go_simp; try with_reducible rfl
            try simp only [put_simp]
            refine wpAnyH_take (i := 10) (v := ?_) rfl (by kernel_rfl) (by kernel_rfl) (by kernel_rfl) (fun _ _ _ h => h) (Or.inl ⟨by rfl, ?_⟩) (by assumption) ?_
            rotate_left
            · intro w hSw; (try dsimp only at hSw); go_simp; try with_reducible rfl
            try simp only [put_simp]
            refine wpAnyH_take (i := 11) (v := ?_) rfl (by kernel_rfl) (by kernel_rfl) (by kernel_rfl) (fun _ _ _ h => h) (Or.inl ⟨by rfl, ?_⟩) (by assumption) ?_
            rotate_left
            · intro w hSw; (try dsimp only at hSw); go_simp; try with_reducible rfl
            try simp only [put_simp]
            refine wpAnyH_take (i := 12) (v := ?_) rfl (by kernel_rfl) (by kernel_rfl) (by kernel_rfl) (fun _ _ _ h => h) (Or.inl ⟨by rfl, ?_⟩) (by assumption) ?_
            rotate_left
            · intro w hSw; (try dsimp only at hSw); go_simp; try with_reducible rfl
            try simp only [put_simp]
            refine wpAnyH_take (i := 13) (v := ?_) rfl (by kernel_rfl) (by kernel_rfl) (by kernel_rfl) (fun _ _ _ h => h) (Or.inl ⟨by rfl, ?_⟩) (by assumption) ?_
            rotate_left
            · intro w hSw; (try dsimp only at hSw); go_simp; try with_reducible rfl
            try simp only [put_simp]
            refine wpAnyH_ready (rs := [14]) (by kernel_rfl) (by simp) ?_
            refine AllReadyH.cons rfl (fun K hK => ?_) ?_
            · go_simp
              refine hK.out _ _ ?_ (fun hHeld => ?_)
              · (first | (simp [go_sem, *]; done) | (simp [go_sem, *, World.cell?_alloc_some]; done))
              clear hK K
              try simp only [put_simp]
              refine wpAnyH_ready (rs := [15]) (by kernel_rfl) (by simp) ?_
              refine AllReadyH.cons rfl (fun K hK => ?_) ?_
              · go_simp; refine (HCC.out _ (some ⟨g, 0, none⟩) (some ⟨g, 0, none⟩) R n cR w5.heap.size ?_ ?_ ?_ ?_).mono ?_; (· exact HTK.out.below (by (repeat (first | exact Below.refl _ _ | refine RowKit.Below.past ?_ _ | refine RowKit.Below.alloc' ?_ _ | refine RowKit.Below.drew' ?_ | refine RowKit.Below.drewN' ?_ _ | refine RowKit.Below.setCell' ?_ (by simp [go_sem]) _)))); (· exact HCN.out.below (by (repeat (first | exact Below.refl _ _ | refine RowKit.Below.past ?_ _ | refine RowKit.Below.alloc' ?_ _ | refine RowKit.Below.drew' ?_ | refine RowKit.Below.drewN' ?_ _ | refine RowKit.Below.setCell' ?_ (by simp [go_sem]) _)))); (· exact HRO.out.below (by (repeat (first | exact Below.refl _ _ | refine RowKit.Below.past ?_ _ | refine RowKit.Below.alloc' ?_ _ | refine RowKit.Below.drew' ?_ | refine RowKit.Below.drewN' ?_ _ | refine RowKit.Below.setCell' ?_ (by simp [go_sem]) _)))); (· exact cells_3 (by simp [go_sem]) (by simp [go_sem]) (by simp [go_sem])); rintro _ w7 ⟨A7, c7, rfl, hb7, ho7⟩; have HN := HFIN.out _ w7 A7 c7 (by (repeat (first | exact Below.refl _ _ | refine RowKit.Below.past ?_ _ | refine RowKit.Below.alloc' ?_ _ | refine RowKit.Below.drew' ?_ | refine RowKit.Below.drewN' ?_ _ | refine RowKit.Below.setCell' ?_ (by simp [go_sem]) _))) hb7 ho7; have f7 := HN.2.2.2.1; have l7 := HN.2.2.2.2.1; obtain ⟨v7, q7⟩ := HN.2.2.2.2.2; have HN7 := hid (And.intro HN.1 (And.intro HN.2.1 HN.2.2.1)); have g7 := HF5.out w7 (below_trans' (by (repeat (first | exact Below.refl _ _ | refine RowKit.Below.past ?_ _ | refine RowKit.Below.alloc' ?_ _ | refine RowKit.Below.drew' ?_ | refine RowKit.Below.drewN' ?_ _ | refine RowKit.Below.setCell' ?_ (by simp [go_sem]) _))) hb7); clear HN hb7 ho7 q7
                refine hK.out _ _ ?_ (fun hHeld => ?_)
                · (first | (simp [go_sem, *]; done) | (simp [go_sem, *, World.cell?_alloc_some]; done))
                clear hK K
                try simp only [put_simp]
                refine wpAnyH_done (by kernel_rfl) ?_ _
                change wpList _ _ _ _ _ _
                go_wp2_with fail
                go_ret
                exact ⟨rfl, HN7.out.1, (HB5.out.mono HBB.out).trans HN7.out.2.1, (Kept.of_below HB5.out (fun k => k = b)).trans HN7.out.2.2⟩
              exact AllReadyH.nil
            exact AllReadyH.nil
    · have HA2 := hid (show cutL l low high = l by rw [HA1.out, if_neg hc])
      have hgs : decide (s ≤ r) = true := by simp; omega
      clear HA1 hc
      go_enter Try.func13, Try.ntmps13
      go_wp2_with (first | (go_at_call 26; refine HB.out.mono ?_; rintro _ _ ⟨rfl, y1, rfl⟩) | (go_at_call 27; refine (HG.out _).mono ?_; rintro _ _ ⟨rfl, y2, rfl⟩))
      go_ret
      exact ⟨rfl, by rw [HA2.out]; exact HH.out.far (w.below_past _), (w.below_past _).mono (Nat.le_trans HH.out.big (Nat.le_of_lt hbl)), Kept.of_below (w.below_past _) _⟩
  · have HA1 := hid (show cutL l low high = l by rw [HAL.out, if_neg (by rw [h1]; simp)])
    have h1' := h1
    unfold ltV at h1'
    rw [h1]
    clear h1 HAL
    go_enter Try.func13, Try.ntmps13
    go_wp2
    go_ret
    exact ⟨rfl, by rw [HA1.out]; exact HH.out, Below.refl _ _, Kept.refl _ _⟩
end Go.Proofs.Ytjihhpipdhhjkaa
