/-
  Layer 33: all of that joins a set of strings. No condition.
-/
import Derived.Test.YtjihhpipdhhjkaaSpE
import Derived.Test.YtjihhpipdhhjkaaSpDS
namespace Go.Proofs.Ytjihhpipdhhjkaa
open Go.RowKit
/-! All of that. -/
def addPS (l : List (ByteArray × ByteArray)) (low high : ByteArray) : ByteArray × ByteArray :=
  if ahFS l low false < beFS l high true then (mnVS low (pcS l (ahFS l low false)).1, mxVS high (pcS l (beFS l high true - 1)).2) else (low, high)
def addLS (l : List (ByteArray × ByteArray)) (low high : ByteArray) : List (ByteArray × ByteArray) :=
  if ltVS low high = true then l.take (ahFS l low false) ++ [addPS l low high] ++ l.drop (beFS l high true) else l
def AddPS (B b : Nat) (r : Bool) (l' : List (ByteArray × ByteArray)) (w : World) (e : Ending) (w' : World) : Prop :=
  e = .returned (.bool r) ∧ SpAtS B w' b l' ∧ Below B w w' ∧ Kept (fun k => k = b) w w'
/-- Behind three rows, one behind the other, and a store of what they come to. -/
theorem SpAtS.again {B : Nat} {w w1 w2 : World} {b : Nat} {l l' : List (ByteArray × ByteArray)} {A : Option Addr} {c n : Nat} (h : SpAtS B w b l) (hb1 : Below w.heap.size w w1) (hb2 : Below w1.heap.size w1 w2) (ho : w2.ownsRow w1.heap.size 72 2 (.slice A n c) n (tab pcVS l')) (en : l'.length = n) (hl : l'.length ≤ 100000) :
    SpAtS B (w2.setCell ⟨b, 0, none⟩ (.slice A n c)) b l' ∧ Below B w (w2.setCell ⟨b, 0, none⟩ (.slice A n c)) ∧ Kept (fun k => k = b) w (w2.setCell ⟨b, 0, none⟩ (.slice A n c)) ∧ w2.frozen? ⟨b, 0, none⟩ = false ∧ b < w2.heap.size ∧ (∃ v, w2.cell? ⟨b, 0, none⟩ = some v) := by
  subst en
  have hb12 := below_trans' hb1 hb2
  obtain ⟨A0, c0, h1, h2⟩ := h.ex
  have hr2 := h1.below hb12 (Nat.le_refl _)
  have hB := h.big
  have hlt := h.lt
  refine ⟨⟨h.big, hl, A, c, ?_, ?_⟩, (hb12.mono (by omega)).setCell (p := ⟨b, 0, none⟩) hB _, (Kept.of_below hb12 (fun k => k = b)).setCell (p := ⟨b, 0, none⟩) (.inr rfl) _, Rec.frozen hr2 0, Rec.lt hr2, ?_⟩
  · have := hr2.set 0 (.slice A l'.length c)
    simpa using this
  · refine own_setB (own_base ho (by have := hb1.size; omega)) hr2 (by decide) 0 _
  · exact ⟨_, Rec.cell hr2 0⟩
theorem tab_dropS {α : Type} {f : α → List Value} {c : Nat} (hf : ∀ x, (f x).length = c) : ∀ (l : List α) (m : Nat), (tab f l).drop (m * c) = tab f (l.drop m)
  | [], m => by simp [tab]
  | x :: l, 0 => by simp [tab]
  | x :: l, m + 1 => by
    have e : tab f (x :: l) = f x ++ tab f l := rfl
    have e2 : (x :: l).drop (m + 1) = l.drop m := rfl
    rw [e, e2, ← tab_dropS hf l m, List.drop_append, hf, List.drop_eq_nil_of_le (by rw [hf, Nat.add_mul]; omega), List.nil_append]
    congr 1
    rw [Nat.add_mul]; omega
theorem cells_3S {w : World} {b o : Nat} {x y z : Value} (h0 : w.cell? ⟨b, o, none⟩ = some x) (h1 : w.cell? ⟨b, o + 1, none⟩ = some y) (h2 : w.cell? ⟨b, o + 2, none⟩ = some z) : Cells w (some ⟨b, o, none⟩) [x, y, z] := fun _ => by
  refine ⟨b, o, rfl, fun i v hi => ?_⟩
  match i, hi with
  | 0, hi => simp at hi; subst hi; exact h0
  | 1, hi => simp at hi; subst hi; exact h1
  | 2, hi => simp at hi; subst hi; exact h2
  | i + 3, hi => simp at hi
set_option maxRecDepth 100000 in
set_option maxHeartbeats 8000000 in
theorem AddS_any {B : Nat} {w : World} {b : Nat} {l : List (ByteArray × ByteArray)} (h : SpAtS B w b l) (low high : ByteArray) (hl : (addLS l low high).length ≤ 100000) :
    Calls Try.prog 22 #[.pointer (some ⟨b, 0, none⟩), .string low, .string high] w (AddPS B b (ltVS low high) (addLS l low high) w) := by
  have HB := hid (aheadS_any h low false)
  have HG := hid (fun y : Past => begunS_any (h.far (w.below_past y)) high true)
  have hle := ahFS_le l low false
  have hle2 := beFS_le l high true
  have HH := hid h
  have HAL := hid (show addLS l low high = if ltVS low high = true then l.take (ahFS l low false) ++ [addPS l low high] ++ l.drop (beFS l high true) else l from rfl)
  have HAP := hid (show addPS l low high = if ahFS l low false < beFS l high true then (mnVS low (pcS l (ahFS l low false)).1, mxVS high (pcS l (beFS l high true - 1)).2) else (low, high) from rfl)
  obtain ⟨r, er⟩ : ∃ r, ahFS l low false = r := ⟨_, rfl⟩
  obtain ⟨s, es⟩ : ∃ s, beFS l high true = s := ⟨_, rfl⟩
  rw [er] at HB hle HAL HAP
  rw [es] at HG hle2 HAL HAP
  obtain ⟨n, en⟩ : ∃ n, l.length = n := ⟨_, rfl⟩
  rw [en] at hle hle2
  have hlen := h.len
  rw [en] at hlen
  have HL := hid hl
  have EN := hid en
  obtain ⟨p, ep⟩ : ∃ p, addPS l low high = p := ⟨_, rfl⟩
  rw [ep] at HAL HAP
  clear er es en h ep hl
  rcases Bool.eq_false_or_eq_true (ltVS low high) with h1 | h1
  · have HA1 := hid (show addLS l low high = l.take r ++ [p] ++ l.drop s by rw [HAL.out, if_pos h1])
    have h1' := h1
    unfold ltVS at h1'
    rw [h1]
    clear HAL h1
    have hbl := HH.out.lt
    go_enter Try.func22, Try.ntmps22
    go_upto_region 4 with (first | (go_at_call 31; refine HB.out.mono ?_; rintro _ _ ⟨rfl, y1, rfl⟩) | (go_at_call 32; refine (HG.out _).mono ?_; rintro _ _ ⟨rfl, y2, rfl⟩))
    go_upto_if 29 with (fail)
    obtain ⟨X, eX⟩ : ∃ X, w.heap.size + (y1.and y2).more = X := ⟨_, rfl⟩
    obtain ⟨w1, ew1⟩ : ∃ W, W = (w.past (y1.and y2)).alloc (.cells #[.string low, .string high] 72) := ⟨_, rfl⟩
    have hr1 : Rec w1 X 72 #[.string low, .string high] := by
      rw [ew1, ← eX]
      have := Rec.new (w.past (y1.and y2)) 72 #[.string low, .string high]
      rwa [World.size_past] at this
    have hb1 : Below w.heap.size w w1 := by rw [ew1]; exact (w.below_past _).alloc (by simp [World.size_past]) _
    have hXb : X ≠ b := by have := hbl; omega
    have hwX : w.heap.size ≤ X := by omega
    rw [eX, ← ew1]
    have HB1 := hid hb1
    have HR1 := hid hr1
    have HH1 := hid (HH.out.far hb1)
    clear ew1 eX hr1 hb1 HB HG
    obtain ⟨p1, p2⟩ := p
    have key : ∀ (w5 : World), Below w.heap.size w w5 → ∃ A c, w5.cell? ⟨b, 0, none⟩ = some (.slice A n c) ∧ n ≤ c ∧ ((A = none ∧ n = 0 ∧ c = 0) ∨ ∃ g, A = some ⟨g, 0, none⟩) ∧ Cells w5 A (tab pcVS l) := fun w5 h5 => by
      obtain ⟨A, c, g1, g2⟩ := (HH.out.far h5).ex
      have q := Rec.cell g1 0
      simp at q
      rw [EN.out] at q g2
      refine ⟨A, c, q, own_cap g2, ?_, Cells.of_own g2⟩
      rcases g2.2 with ⟨g3, g4⟩ | ⟨g, _, _, g3, _⟩
      · injection g3 with g5 _ g6; exact .inl ⟨g5, g4, g6⟩
      · injection g3 with g5 _ _; exact .inr ⟨g, g5⟩
    have HKEY := hid key
    have HCC := hid (fun (W : World) (A A3 : Option Addr) (c : Nat) (Y R : Nat) (hA : Cells W A (tab pcVS (l.take r))) (hA3 : Cells W A3 (tab pcVS (l.drop s))) (hY : Cells W (some ⟨Y, 0, none⟩) [.string p1, .string p2]) (hR : Cells W (some ⟨R, 0, none⟩) [.slice A r c, .slice (some ⟨Y, 0, none⟩) 1 1, .slice A3 (n - s) (c - s)]) => (show Calls Try.prog 33 #[.slice (some ⟨R, 0, none⟩) 3 3] W (GivesOwn 72 2 (r + 1 + (n - s)) (tab pcVS (addLS l low high)) W) by
      have e1 : (l.take r).length = r := by rw [List.length_take, EN.out]; omega
      have e3 : (l.drop s).length = n - s := by rw [List.length_drop, EN.out]
      have := concatS_any (some ⟨R, 0, none⟩) 3 3 [⟨A, c, l.take r⟩, ⟨some ⟨Y, 0, none⟩, 1, [(p1, p2)]⟩, ⟨A3, c - s, l.drop s⟩] rfl (by omega) (by
        intro x hx
        simp only [List.mem_cons, List.not_mem_nil, or_false] at hx
        rcases hx with rfl | rfl | rfl
        · simp only [e1]; omega
        · simp
        · simp only [e3]; omega) W (by simpa [rwVS, e1, e3] using hR) (by
        intro x hx
        simp only [List.mem_cons, List.not_mem_nil, or_false] at hx
        rcases hx with rfl | rfl | rfl
        · exact hA
        · simpa [tab, pcVS] using hY
        · exact hA3)
      have ec : catRS [⟨A, c, l.take r⟩, ⟨some ⟨Y, 0, none⟩, 1, [(p1, p2)]⟩, ⟨A3, c - s, l.drop s⟩] 3 = addLS l low high := by
        rw [HA1.out]; simp [catRS]
      have el : (addLS l low high).length = r + 1 + (n - s) := by rw [HA1.out]; simp only [List.length_append, e1, e3, List.length_cons, List.length_nil]
      rw [ec, el] at this
      exact this))
    clear key
    go_cut [39] from 27 to 52 (fun _ wx => Hid (Below w.heap.size w wx) ∧ Hid (Rec wx X 72 #[.string p1, .string p2]))
    case first =>
      by_cases hc : r < s
      · obtain ⟨A, c, q0, hcap, hnil, hcl⟩ := HKEY.out w (Below.refl _ _)
        obtain ⟨g, o, rfl, c0', c1'⟩ := pcS_at hcl (k := r) (by rw [EN.out]; omega)
        obtain ⟨g2, o2, e2, d0', d1'⟩ := pcS_at hcl (k := s - 1) (by rw [EN.out]; omega)
        cases e2
        have hgX : X ≠ g := by have := World.block_lt_of_cell? w _ c0'; simp only at this; omega
        have q := below_cell HB1.out (Nat.le_refl _) _ _ q0
        have c0 := below_cell HB1.out (Nat.le_refl _) _ _ c0'
        have d1 := below_cell HB1.out (Nat.le_refl _) _ _ d1'
        obtain ⟨z1, ez1⟩ : ∃ z, (pcS l r).1 = z := ⟨_, rfl⟩
        obtain ⟨z2, ez2⟩ : ∃ z, (pcS l (s - 1)).2 = z := ⟨_, rfl⟩
        rw [ez1] at c0
        rw [ez2] at d1
        have HP := hid (show (p1, p2) = (mnVS low z1, mxVS high z2) by rw [HAP.out, if_pos hc, ez1, ez2])
        have hmn := fun ts t W => run_mnS low z1 ts t W
        have hmx := fun ts t W => run_mxS high z2 ts t W
        have hp1 : mnVS low z1 = p1 := by have := HP.out; injection this with a _; exact a.symm
        have hp2 : mxVS high z2 = p2 := by have := HP.out; injection this with _ a; exact a.symm
        simp only [hp1] at hmn
        simp only [hp2] at hmx
        skip
        have x0 := Rec.cell HR1.out 0
        have x1 := Rec.cell HR1.out 1
        have f0 := Rec.frozen HR1.out 0
        have f1 := Rec.frozen HR1.out 1
        have hXl := Rec.lt HR1.out
        simp at x0 x1
        have hs1 : ((s : Int) - 1) = ((s - 1 : Nat) : Int) := by omega
        clear c1' d0' ez1 ez2 hp1 hp2 HP c0' d1' q0 hcl hnil
        go_wp2_with fail
        go_region
        all_goals
          go_wp2_with fail
          go_meet
          case rel =>
            refine ⟨hid ((((HB1.out.setCell (p := ⟨X, 0, none⟩) hwX _).setCell (p := ⟨X, 1, none⟩) hwX _)).drew), hid ?_⟩
            have := (HR1.out.set 0 (.string p1)).set 1 (.string p2)
            exact Rec.drew (by simpa using this)
      · have hpe : (p1, p2) = (low, high) := by rw [HAP.out, if_neg hc]
        injection hpe with hp1 hp2
        subst hp1; subst hp2
        go_wp2_with fail
        go_meet
        case rel => exact ⟨HB1, HR1⟩
    case rest =>
      obtain ⟨HB5, HX5⟩ := hcut
      obtain ⟨w5, ew5⟩ : ∃ W : World, W = wc := ⟨_, rfl⟩
      rw [← ew5] at HB5 HX5 ⊢
      clear ew5 HB1 HR1 HH1
      obtain ⟨A, c, q, hcap, hnil, hcl⟩ := HKEY.out w5 HB5.out
      have x0 := Rec.cell HX5.out 0
      have x1 := Rec.cell HX5.out 1
      simp at x0 x1
      have i0 : (0 : Int) ≤ (r : Int) := by omega
      have i1 : (r : Int) ≤ (c : Int) := by omega
      have i2 : (0 : Int) ≤ (s : Int) := by omega
      have i3 : (s : Int) ≤ (n : Int) := by omega
      have HFIN := hid (fun (w1 w2 : World) (A : Option Addr) (c : Nat) (hb1 : Below w5.heap.size w5 w1) (hb2 : Below w1.heap.size w1 w2) (ho : w2.ownsRow w1.heap.size 72 2 (.slice A (r + 1 + (n - s)) c) (r + 1 + (n - s)) (tab pcVS (addLS l low high))) => (HH.out.far HB5.out).again hb1 hb2 ho (by rw [HA1.out]; simp only [List.length_append, List.length_take, List.length_drop, List.length_cons, List.length_nil, EN.out]; omega) HL.out)
      have HTK := hid (show Cells w5 A (tab pcVS (l.take r)) by rw [← tab_take pcVS_length]; exact hcl.take _)
      have HDR := hid (fun g (e : A = some ⟨g, 0, none⟩) => (show Cells w5 (some ⟨g, s * 2, none⟩) (tab pcVS (l.drop s)) by
        subst e
        have := hcl.drop (s * 2)
        rwa [tab_dropS pcVS_length, Nat.zero_add] at this))
      have HDN := hid (fun (e : c = s) => (show l.drop s = [] from List.drop_eq_nil_of_le (by rw [EN.out]; omega)))
      have hbl5 := World.block_lt_of_cell? w5 _ q
      have HF5 := hid (fun W (hW : Below w5.heap.size w5 W) => (And.intro (below_cell hW (Nat.le_refl _) _ _ q) (And.intro (below_cell hW (Nat.le_refl _) _ _ x0) (below_cell hW (Nat.le_refl _) _ _ x1))))
      have hcs : (A = none ∧ r = 0 ∧ s = 0 ∧ n = 0 ∧ c = 0) ∨ (∃ g, A = some ⟨g, 0, none⟩) := by
        rcases hnil with ⟨h1, h2, h3⟩ | h1
        · exact .inl ⟨h1, by omega, by omega, h2, h3⟩
        · exact .inr h1
      clear hnil hcl HAP hle hle2
      obtain ⟨tot, et⟩ : ∃ t, r + 1 + (n - s) = t := ⟨_, rfl⟩
      rw [et] at HCC HFIN
      clear et
      have HBB := hid (Nat.le_trans HH.out.big (Nat.le_of_lt hbl))
      rcases hcs with ⟨rfl, rfl, rfl, rfl, rfl⟩ | ⟨g, rfl⟩
      · have hcn : Cells w5 none (tab pcVS (l.drop 0)) := by rw [HDN.out rfl]; exact Cells.nil _ _
        have HCN := hid hcn
        clear hcn
        go_wp2_with fail
        refine wp_region_split (S := (fun W => W.cell? ⟨b, 0, none⟩ = some (.slice none 0 0) ∧ W.cell? ⟨X, 0, none⟩ = some (.string p1) ∧ W.cell? ⟨X, 1, none⟩ = some (.string p2))) 17 (by kernel_rfl) (by kernel_rfl) ?_ (fun hHeld => ?_)
        · (first | (simp [go_sem, *]; done) | (simp [go_sem, *, World.cell?_alloc_some]; done))
        simp only [List.take_succ_cons, List.take_zero, List.drop_succ_cons, List.drop_zero]
        refine wpAnyH_take (i := 0) (v := ?_) rfl (by kernel_rfl) (by kernel_rfl) (by kernel_rfl) (fun _ _ _ h => h) (Or.inl ⟨by rfl, ?_⟩) (by assumption) ?_
        rotate_left
        · intro w hSw; (try dsimp only at hSw); go_simp; try with_reducible rfl
        try simp only [put_simp]
        refine wpAnyH_take (i := 1) (v := ?_) rfl (by kernel_rfl) (by kernel_rfl) (by kernel_rfl) (fun _ _ _ h => h) (Or.inl ⟨by rfl, ?_⟩) (by assumption) ?_
        rotate_left
        · intro w hSw; (try dsimp only at hSw); go_simp; try with_reducible rfl
        try simp only [put_simp]
        refine wpAnyH_take (i := 2) (v := ?_) rfl (by kernel_rfl) (by kernel_rfl) (by kernel_rfl) (fun _ _ _ h => h) (Or.inl ⟨by rfl, ?_⟩) (by assumption) ?_
        rotate_left
        · intro w hSw; (try dsimp only at hSw); go_simp; try with_reducible rfl
        try simp only [put_simp]
        refine wpAnyH_take (i := 3) (v := ?_) rfl (by kernel_rfl) (by kernel_rfl) (by kernel_rfl) (fun _ _ _ h => h) (Or.inl ⟨by rfl, ?_⟩) (by assumption) ?_
        rotate_left
        · intro w hSw; (try dsimp only at hSw); go_simp; try with_reducible rfl
        try simp only [put_simp]
        refine wpAnyH_take (i := 4) (v := ?_) rfl (by kernel_rfl) (by kernel_rfl) (by kernel_rfl) (fun _ _ _ h => h) (Or.inl ⟨by rfl, ?_⟩) (by assumption) ?_
        rotate_left
        · intro w hSw; (try dsimp only at hSw); go_simp; try with_reducible rfl
        try simp only [put_simp]
        refine wpAnyH_take (i := 5) (v := ?_) rfl (by kernel_rfl) (by kernel_rfl) (by kernel_rfl) (fun _ _ _ h => h) (Or.inl ⟨by rfl, ?_⟩) (by assumption) ?_
        rotate_left
        · intro w hSw; (try dsimp only at hSw); go_simp; try with_reducible rfl
        try simp only [put_simp]
        refine wpAnyH_take (i := 6) (v := ?_) rfl (by kernel_rfl) (by kernel_rfl) (by kernel_rfl) (fun _ _ _ h => h) (Or.inl ⟨by rfl, ?_⟩) (by assumption) ?_
        rotate_left
        · intro w hSw; (try dsimp only at hSw); go_simp; try with_reducible rfl
        try simp only [put_simp]
        refine wpAnyH_take (i := 7) (v := ?_) rfl (by kernel_rfl) (by kernel_rfl) (by kernel_rfl) (fun _ _ _ h => h) (Or.inl ⟨by rfl, ?_⟩) (by assumption) ?_
        rotate_left
        · intro w hSw; (try dsimp only at hSw); go_simp; try with_reducible rfl
        try simp only [put_simp]
        refine wpAnyH_take (i := 9) (v := ?_) rfl (by kernel_rfl) (by kernel_rfl) (by kernel_rfl) (fun _ _ _ h => h) (Or.inl ⟨by rfl, ?_⟩) (by assumption) ?_
        rotate_left
        · intro w hSw; (try dsimp only at hSw); go_simp; try with_reducible rfl
        try simp only [put_simp]
        refine wpAnyH_take (i := 10) (v := ?_) rfl (by kernel_rfl) (by kernel_rfl) (by kernel_rfl) (fun _ _ _ h => h) (Or.inl ⟨by rfl, ?_⟩) (by assumption) ?_
        rotate_left
        · intro w hSw; (try dsimp only at hSw); go_simp; try with_reducible rfl
        try simp only [put_simp]
        refine wpAnyH_take (i := 11) (v := ?_) rfl (by kernel_rfl) (by kernel_rfl) (by kernel_rfl) (fun _ _ _ h => h) (Or.inl ⟨by rfl, ?_⟩) (by assumption) ?_
        rotate_left
        · intro w hSw; (try dsimp only at hSw); go_simp; try with_reducible rfl
        try simp only [put_simp]
        refine wpAnyH_take (i := 12) (v := ?_) rfl (by kernel_rfl) (by kernel_rfl) (by kernel_rfl) (fun _ _ _ h => h) (Or.inl ⟨by rfl, ?_⟩) (by assumption) ?_
        rotate_left
        · intro w hSw; (try dsimp only at hSw); go_simp; try with_reducible rfl
        try simp only [put_simp]
        refine wpAnyH_take (i := 13) (v := ?_) rfl (by kernel_rfl) (by kernel_rfl) (by kernel_rfl) (fun _ _ _ h => h) (Or.inl ⟨by rfl, ?_⟩) (by assumption) ?_
        rotate_left
        · intro w hSw; (try dsimp only at hSw); go_simp; try with_reducible rfl
        try simp only [put_simp]
        refine wpAnyH_take (i := 14) (v := ?_) rfl (by kernel_rfl) (by kernel_rfl) (by kernel_rfl) (fun _ _ _ h => h) (Or.inl ⟨by rfl, ?_⟩) (by assumption) ?_
        rotate_left
        · intro w hSw; (try dsimp only at hSw); go_simp; try with_reducible rfl
        try simp only [put_simp]
        refine wpAnyH_ready (rs := [8]) (by kernel_rfl) (by simp) ?_
        refine AllReadyH.cons rfl (fun K hK => ?_) ?_
        · go_simp
          refine hK.out _ _ ?_ (fun hHeld => ?_)
          · (first | (simp [go_sem, *]; done) | (simp [go_sem, *, World.cell?_alloc_some]; done))
          clear hK K
          try simp only [put_simp]
          refine wpAnyH_ready (rs := [15]) (by kernel_rfl) (by simp) ?_
          refine AllReadyH.cons rfl (fun K hK => ?_) ?_
          · go_simp
            refine hK.out _ _ ?_ (fun hHeld => ?_)
            · (first | (simp [go_sem, *]; done) | (simp [go_sem, *, World.cell?_alloc_some]; done))
            clear hK K
            try simp only [put_simp]
            refine wpAnyH_ready (rs := [16]) (by kernel_rfl) (by simp) ?_
            refine AllReadyH.cons rfl (fun K hK => ?_) ?_
            · go_simp; refine (HCC.out _ none none 0 w5.heap.size (w5.heap.size + 1) ?_ ?_ ?_ ?_).mono ?_; (· exact HTK.out.below (by (repeat (first | exact Below.refl _ _ | refine RowKit.Below.past ?_ _ | refine RowKit.Below.alloc' ?_ _ | refine RowKit.Below.drew' ?_ | refine RowKit.Below.drewN' ?_ _ | refine RowKit.Below.setCell' ?_ (by simp [go_sem]) _)))); (· exact HCN.out.below (by (repeat (first | exact Below.refl _ _ | refine RowKit.Below.past ?_ _ | refine RowKit.Below.alloc' ?_ _ | refine RowKit.Below.drew' ?_ | refine RowKit.Below.drewN' ?_ _ | refine RowKit.Below.setCell' ?_ (by simp [go_sem]) _)))); (· exact cells_two (by simp [go_sem]) (by simp [go_sem])); (· exact cells_3S (by simp [go_sem]) (by simp [go_sem]) (by simp [go_sem])); rintro _ w7 ⟨A7, c7, rfl, hb7, ho7⟩; have HN := HFIN.out _ w7 A7 c7 (by (repeat (first | exact Below.refl _ _ | refine RowKit.Below.past ?_ _ | refine RowKit.Below.alloc' ?_ _ | refine RowKit.Below.drew' ?_ | refine RowKit.Below.drewN' ?_ _ | refine RowKit.Below.setCell' ?_ (by simp [go_sem]) _))) hb7 ho7; have f7 := HN.2.2.2.1; have l7 := HN.2.2.2.2.1; obtain ⟨v7, q7⟩ := HN.2.2.2.2.2; have HN7 := hid (And.intro HN.1 (And.intro HN.2.1 HN.2.2.1)); have g7 := HF5.out w7 (below_trans' (by (repeat (first | exact Below.refl _ _ | refine RowKit.Below.past ?_ _ | refine RowKit.Below.alloc' ?_ _ | refine RowKit.Below.drew' ?_ | refine RowKit.Below.drewN' ?_ _ | refine RowKit.Below.setCell' ?_ (by simp [go_sem]) _))) hb7); obtain ⟨g70, g71, g72⟩ := g7; clear HN hb7 ho7 q7
              refine hK.out _ _ ?_ (fun hHeld => ?_)
              · (first | (simp [go_sem, *]; done) | (simp [go_sem, *, World.cell?_alloc_some]; done))
              clear hK K
              try simp only [put_simp]
              refine wpAnyH_done (by kernel_rfl) ?_ _
              change wpList _ _ _ _ _ _
              go_wp2_with fail
              go_ret
              exact ⟨rfl, HN7.out.1, (HB5.out.mono HBB.out).trans HN7.out.2.1, (Kept.of_below HB5.out (fun k => k = b)).trans HN7.out.2.2⟩
            exact AllReadyH.nil
          exact AllReadyH.nil
        exact AllReadyH.nil
      · rcases Nat.lt_or_ge s c with h8 | h8
        · have h9 : (s : Int) ≤ (c : Int) := by omega
          have h10 : ¬ c = s := by omega
          have HD := hid (HDR.out g rfl)
          clear h8
          go_wp2_with fail
          refine wp_region_split (S := (fun W => W.cell? ⟨b, 0, none⟩ = some (.slice (some ⟨g, 0, none⟩) n c) ∧ W.cell? ⟨X, 0, none⟩ = some (.string p1) ∧ W.cell? ⟨X, 1, none⟩ = some (.string p2))) 17 (by kernel_rfl) (by kernel_rfl) ?_ (fun hHeld => ?_)
          · (first | (simp [go_sem, *]; done) | (simp [go_sem, *, World.cell?_alloc_some]; done))
          simp only [List.take_succ_cons, List.take_zero, List.drop_succ_cons, List.drop_zero]
          refine wpAnyH_take (i := 0) (v := ?_) rfl (by kernel_rfl) (by kernel_rfl) (by kernel_rfl) (fun _ _ _ h => h) (Or.inl ⟨by rfl, ?_⟩) (by assumption) ?_
          rotate_left
          · intro w hSw; (try dsimp only at hSw); go_simp; try with_reducible rfl
          try simp only [put_simp]
          refine wpAnyH_take (i := 1) (v := ?_) rfl (by kernel_rfl) (by kernel_rfl) (by kernel_rfl) (fun _ _ _ h => h) (Or.inl ⟨by rfl, ?_⟩) (by assumption) ?_
          rotate_left
          · intro w hSw; (try dsimp only at hSw); go_simp; try with_reducible rfl
          try simp only [put_simp]
          refine wpAnyH_take (i := 2) (v := ?_) rfl (by kernel_rfl) (by kernel_rfl) (by kernel_rfl) (fun _ _ _ h => h) (Or.inl ⟨by rfl, ?_⟩) (by assumption) ?_
          rotate_left
          · intro w hSw; (try dsimp only at hSw); go_simp; try with_reducible rfl
          try simp only [put_simp]
          refine wpAnyH_take (i := 3) (v := ?_) rfl (by kernel_rfl) (by kernel_rfl) (by kernel_rfl) (fun _ _ _ h => h) (Or.inl ⟨by rfl, ?_⟩) (by assumption) ?_
          rotate_left
          · intro w hSw; (try dsimp only at hSw); go_simp; try with_reducible rfl
          try simp only [put_simp]
          refine wpAnyH_take (i := 4) (v := ?_) rfl (by kernel_rfl) (by kernel_rfl) (by kernel_rfl) (fun _ _ _ h => h) (Or.inl ⟨by rfl, ?_⟩) (by assumption) ?_
          rotate_left
          · intro w hSw; (try dsimp only at hSw); go_simp; try with_reducible rfl
          try simp only [put_simp]
          refine wpAnyH_take (i := 5) (v := ?_) rfl (by kernel_rfl) (by kernel_rfl) (by kernel_rfl) (fun _ _ _ h => h) (Or.inl ⟨by rfl, ?_⟩) (by assumption) ?_
          rotate_left
          · intro w hSw; (try dsimp only at hSw); go_simp; try with_reducible rfl
          try simp only [put_simp]
          refine wpAnyH_take (i := 6) (v := ?_) rfl (by kernel_rfl) (by kernel_rfl) (by kernel_rfl) (fun _ _ _ h => h) (Or.inl ⟨by rfl, ?_⟩) (by assumption) ?_
          rotate_left
          · intro w hSw; (try dsimp only at hSw); go_simp; try with_reducible rfl
          try simp only [put_simp]
          refine wpAnyH_take (i := 7) (v := ?_) rfl (by kernel_rfl) (by kernel_rfl) (by kernel_rfl) (fun _ _ _ h => h) (Or.inl ⟨by rfl, ?_⟩) (by assumption) ?_
          rotate_left
          · intro w hSw; (try dsimp only at hSw); go_simp; try with_reducible rfl
          try simp only [put_simp]
          refine wpAnyH_take (i := 9) (v := ?_) rfl (by kernel_rfl) (by kernel_rfl) (by kernel_rfl) (fun _ _ _ h => h) (Or.inl ⟨by rfl, ?_⟩) (by assumption) ?_
          rotate_left
          · intro w hSw; (try dsimp only at hSw); go_simp; try with_reducible rfl
          try simp only [put_simp]
          refine wpAnyH_take (i := 10) (v := ?_) rfl (by kernel_rfl) (by kernel_rfl) (by kernel_rfl) (fun _ _ _ h => h) (Or.inl ⟨by rfl, ?_⟩) (by assumption) ?_
          rotate_left
          · intro w hSw; (try dsimp only at hSw); go_simp; try with_reducible rfl
          try simp only [put_simp]
          refine wpAnyH_take (i := 11) (v := ?_) rfl (by kernel_rfl) (by kernel_rfl) (by kernel_rfl) (fun _ _ _ h => h) (Or.inl ⟨by rfl, ?_⟩) (by assumption) ?_
          rotate_left
          · intro w hSw; (try dsimp only at hSw); go_simp; try with_reducible rfl
          try simp only [put_simp]
          refine wpAnyH_take (i := 12) (v := ?_) rfl (by kernel_rfl) (by kernel_rfl) (by kernel_rfl) (fun _ _ _ h => h) (Or.inl ⟨by rfl, ?_⟩) (by assumption) ?_
          rotate_left
          · intro w hSw; (try dsimp only at hSw); go_simp; try with_reducible rfl
          try simp only [put_simp]
          refine wpAnyH_take (i := 13) (v := ?_) rfl (by kernel_rfl) (by kernel_rfl) (by kernel_rfl) (fun _ _ _ h => h) (Or.inl ⟨by rfl, ?_⟩) (by assumption) ?_
          rotate_left
          · intro w hSw; (try dsimp only at hSw); go_simp; try with_reducible rfl
          try simp only [put_simp]
          refine wpAnyH_take (i := 14) (v := ?_) rfl (by kernel_rfl) (by kernel_rfl) (by kernel_rfl) (fun _ _ _ h => h) (Or.inl ⟨by rfl, ?_⟩) (by assumption) ?_
          rotate_left
          · intro w hSw; (try dsimp only at hSw); go_simp; try with_reducible rfl
          try simp only [put_simp]
          refine wpAnyH_ready (rs := [8]) (by kernel_rfl) (by simp) ?_
          refine AllReadyH.cons rfl (fun K hK => ?_) ?_
          · go_simp
            refine hK.out _ _ ?_ (fun hHeld => ?_)
            · (first | (simp [go_sem, *]; done) | (simp [go_sem, *, World.cell?_alloc_some]; done))
            clear hK K
            try simp only [put_simp]
            refine wpAnyH_ready (rs := [15]) (by kernel_rfl) (by simp) ?_
            refine AllReadyH.cons rfl (fun K hK => ?_) ?_
            · go_simp
              refine hK.out _ _ ?_ (fun hHeld => ?_)
              · (first | (simp [go_sem, *]; done) | (simp [go_sem, *, World.cell?_alloc_some]; done))
              clear hK K
              try simp only [put_simp]
              refine wpAnyH_ready (rs := [16]) (by kernel_rfl) (by simp) ?_
              refine AllReadyH.cons rfl (fun K hK => ?_) ?_
              · go_simp; refine (HCC.out _ (some ⟨g, 0, none⟩) (some ⟨g, s * 2, none⟩) c w5.heap.size (w5.heap.size + 1) ?_ ?_ ?_ ?_).mono ?_; (· exact HTK.out.below (by (repeat (first | exact Below.refl _ _ | refine RowKit.Below.past ?_ _ | refine RowKit.Below.alloc' ?_ _ | refine RowKit.Below.drew' ?_ | refine RowKit.Below.drewN' ?_ _ | refine RowKit.Below.setCell' ?_ (by simp [go_sem]) _)))); (· exact HD.out.below (by (repeat (first | exact Below.refl _ _ | refine RowKit.Below.past ?_ _ | refine RowKit.Below.alloc' ?_ _ | refine RowKit.Below.drew' ?_ | refine RowKit.Below.drewN' ?_ _ | refine RowKit.Below.setCell' ?_ (by simp [go_sem]) _)))); (· exact cells_two (by simp [go_sem]) (by simp [go_sem])); (· exact cells_3S (by simp [go_sem]) (by simp [go_sem]) (by simp [go_sem, h10])); rintro _ w7 ⟨A7, c7, rfl, hb7, ho7⟩; have HN := HFIN.out _ w7 A7 c7 (by (repeat (first | exact Below.refl _ _ | refine RowKit.Below.past ?_ _ | refine RowKit.Below.alloc' ?_ _ | refine RowKit.Below.drew' ?_ | refine RowKit.Below.drewN' ?_ _ | refine RowKit.Below.setCell' ?_ (by simp [go_sem]) _))) hb7 ho7; have f7 := HN.2.2.2.1; have l7 := HN.2.2.2.2.1; obtain ⟨v7, q7⟩ := HN.2.2.2.2.2; have HN7 := hid (And.intro HN.1 (And.intro HN.2.1 HN.2.2.1)); have g7 := HF5.out w7 (below_trans' (by (repeat (first | exact Below.refl _ _ | refine RowKit.Below.past ?_ _ | refine RowKit.Below.alloc' ?_ _ | refine RowKit.Below.drew' ?_ | refine RowKit.Below.drewN' ?_ _ | refine RowKit.Below.setCell' ?_ (by simp [go_sem]) _))) hb7); obtain ⟨g70, g71, g72⟩ := g7; clear HN hb7 ho7 q7
                refine hK.out _ _ ?_ (fun hHeld => ?_)
                · (first | (simp [go_sem, *]; done) | (simp [go_sem, *, World.cell?_alloc_some]; done))
                clear hK K
                try simp only [put_simp]
                refine wpAnyH_done (by kernel_rfl) ?_ _
                change wpList _ _ _ _ _ _
                go_wp2_with fail
                go_ret
                exact ⟨rfl, HN7.out.1, (HB5.out.mono HBB.out).trans HN7.out.2.1, (Kept.of_below HB5.out (fun k => k = b)).trans HN7.out.2.2⟩
              exact AllReadyH.nil
            exact AllReadyH.nil
          exact AllReadyH.nil
        · obtain rfl : c = s := by omega
          obtain rfl : n = c := by omega
          have hcn : Cells w5 (some ⟨g, 0, none⟩) (tab pcVS (l.drop n)) := by rw [HDN.out rfl]; exact Cells.nil _ _
          have HCN := hid hcn
          clear hcn h8
          go_wp2_with fail
          refine wp_region_split (S := (fun W => W.cell? ⟨b, 0, none⟩ = some (.slice (some ⟨g, 0, none⟩) n n) ∧ W.cell? ⟨X, 0, none⟩ = some (.string p1) ∧ W.cell? ⟨X, 1, none⟩ = some (.string p2))) 17 (by kernel_rfl) (by kernel_rfl) ?_ (fun hHeld => ?_)
          · (first | (simp [go_sem, *]; done) | (simp [go_sem, *, World.cell?_alloc_some]; done))
          simp only [List.take_succ_cons, List.take_zero, List.drop_succ_cons, List.drop_zero]
          refine wpAnyH_take (i := 0) (v := ?_) rfl (by kernel_rfl) (by kernel_rfl) (by kernel_rfl) (fun _ _ _ h => h) (Or.inl ⟨by rfl, ?_⟩) (by assumption) ?_
          rotate_left
          · intro w hSw; (try dsimp only at hSw); go_simp; try with_reducible rfl
          try simp only [put_simp]
          refine wpAnyH_take (i := 1) (v := ?_) rfl (by kernel_rfl) (by kernel_rfl) (by kernel_rfl) (fun _ _ _ h => h) (Or.inl ⟨by rfl, ?_⟩) (by assumption) ?_
          rotate_left
          · intro w hSw; (try dsimp only at hSw); go_simp; try with_reducible rfl
          try simp only [put_simp]
          refine wpAnyH_take (i := 2) (v := ?_) rfl (by kernel_rfl) (by kernel_rfl) (by kernel_rfl) (fun _ _ _ h => h) (Or.inl ⟨by rfl, ?_⟩) (by assumption) ?_
          rotate_left
          · intro w hSw; (try dsimp only at hSw); go_simp; try with_reducible rfl
          try simp only [put_simp]
          refine wpAnyH_take (i := 3) (v := ?_) rfl (by kernel_rfl) (by kernel_rfl) (by kernel_rfl) (fun _ _ _ h => h) (Or.inl ⟨by rfl, ?_⟩) (by assumption) ?_
          rotate_left
          · intro w hSw; (try dsimp only at hSw); go_simp; try with_reducible rfl
          try simp only [put_simp]
          refine wpAnyH_take (i := 4) (v := ?_) rfl (by kernel_rfl) (by kernel_rfl) (by kernel_rfl) (fun _ _ _ h => h) (Or.inl ⟨by rfl, ?_⟩) (by assumption) ?_
          rotate_left
          · intro w hSw; (try dsimp only at hSw); go_simp; try with_reducible rfl
          try simp only [put_simp]
          refine wpAnyH_take (i := 5) (v := ?_) rfl (by kernel_rfl) (by kernel_rfl) (by kernel_rfl) (fun _ _ _ h => h) (Or.inl ⟨by rfl, ?_⟩) (by assumption) ?_
          rotate_left
          · intro w hSw; (try dsimp only at hSw); go_simp; try with_reducible rfl
          try simp only [put_simp]
          refine wpAnyH_take (i := 6) (v := ?_) rfl (by kernel_rfl) (by kernel_rfl) (by kernel_rfl) (fun _ _ _ h => h) (Or.inl ⟨by rfl, ?_⟩) (by assumption) ?_
          rotate_left
          · intro w hSw; (try dsimp only at hSw); go_simp; try with_reducible rfl
          try simp only [put_simp]
          refine wpAnyH_take (i := 7) (v := ?_) rfl (by kernel_rfl) (by kernel_rfl) (by kernel_rfl) (fun _ _ _ h => h) (Or.inl ⟨by rfl, ?_⟩) (by assumption) ?_
          rotate_left
          · intro w hSw; (try dsimp only at hSw); go_simp; try with_reducible rfl
          try simp only [put_simp]
          refine wpAnyH_take (i := 9) (v := ?_) rfl (by kernel_rfl) (by kernel_rfl) (by kernel_rfl) (fun _ _ _ h => h) (Or.inl ⟨by rfl, ?_⟩) (by assumption) ?_
          rotate_left
          · intro w hSw; (try dsimp only at hSw); go_simp; try with_reducible rfl
          try simp only [put_simp]
          refine wpAnyH_take (i := 10) (v := ?_) rfl (by kernel_rfl) (by kernel_rfl) (by kernel_rfl) (fun _ _ _ h => h) (Or.inl ⟨by rfl, ?_⟩) (by assumption) ?_
          rotate_left
          · intro w hSw; (try dsimp only at hSw); go_simp; try with_reducible rfl
          try simp only [put_simp]
          refine wpAnyH_take (i := 11) (v := ?_) rfl (by kernel_rfl) (by kernel_rfl) (by kernel_rfl) (fun _ _ _ h => h) (Or.inl ⟨by rfl, ?_⟩) (by assumption) ?_
          rotate_left
          · intro w hSw; (try dsimp only at hSw); go_simp; try with_reducible rfl
          try simp only [put_simp]
          refine wpAnyH_take (i := 12) (v := ?_) rfl (by kernel_rfl) (by kernel_rfl) (by kernel_rfl) (fun _ _ _ h => h) (Or.inl ⟨by rfl, ?_⟩) (by assumption) ?_
          rotate_left
          · intro w hSw; (try dsimp only at hSw); go_simp; try with_reducible rfl
          try simp only [put_simp]
          refine wpAnyH_take (i := 13) (v := ?_) rfl (by kernel_rfl) (by kernel_rfl) (by kernel_rfl) (fun _ _ _ h => h) (Or.inl ⟨by rfl, ?_⟩) (by assumption) ?_
          rotate_left
          · intro w hSw; (try dsimp only at hSw); go_simp; try with_reducible rfl
          try simp only [put_simp]
          refine wpAnyH_take (i := 14) (v := ?_) rfl (by kernel_rfl) (by kernel_rfl) (by kernel_rfl) (fun _ _ _ h => h) (Or.inl ⟨by rfl, ?_⟩) (by assumption) ?_
          rotate_left
          · intro w hSw; (try dsimp only at hSw); go_simp; try with_reducible rfl
          try simp only [put_simp]
          refine wpAnyH_ready (rs := [8]) (by kernel_rfl) (by simp) ?_
          refine AllReadyH.cons rfl (fun K hK => ?_) ?_
          · go_simp
            refine hK.out _ _ ?_ (fun hHeld => ?_)
            · (first | (simp [go_sem, *]; done) | (simp [go_sem, *, World.cell?_alloc_some]; done))
            clear hK K
            try simp only [put_simp]
            refine wpAnyH_ready (rs := [15]) (by kernel_rfl) (by simp) ?_
            refine AllReadyH.cons rfl (fun K hK => ?_) ?_
            · go_simp
              refine hK.out _ _ ?_ (fun hHeld => ?_)
              · (first | (simp [go_sem, *]; done) | (simp [go_sem, *, World.cell?_alloc_some]; done))
              clear hK K
              try simp only [put_simp]
              refine wpAnyH_ready (rs := [16]) (by kernel_rfl) (by simp) ?_
              refine AllReadyH.cons rfl (fun K hK => ?_) ?_
              · go_simp; refine (HCC.out _ (some ⟨g, 0, none⟩) (some ⟨g, 0, none⟩) n w5.heap.size (w5.heap.size + 1) ?_ ?_ ?_ ?_).mono ?_; (· exact HTK.out.below (by (repeat (first | exact Below.refl _ _ | refine RowKit.Below.past ?_ _ | refine RowKit.Below.alloc' ?_ _ | refine RowKit.Below.drew' ?_ | refine RowKit.Below.drewN' ?_ _ | refine RowKit.Below.setCell' ?_ (by simp [go_sem]) _)))); (· exact HCN.out.below (by (repeat (first | exact Below.refl _ _ | refine RowKit.Below.past ?_ _ | refine RowKit.Below.alloc' ?_ _ | refine RowKit.Below.drew' ?_ | refine RowKit.Below.drewN' ?_ _ | refine RowKit.Below.setCell' ?_ (by simp [go_sem]) _)))); (· exact cells_two (by simp [go_sem]) (by simp [go_sem])); (· exact cells_3S (by simp [go_sem]) (by simp [go_sem]) (by simp [go_sem])); rintro _ w7 ⟨A7, c7, rfl, hb7, ho7⟩; have HN := HFIN.out _ w7 A7 c7 (by (repeat (first | exact Below.refl _ _ | refine RowKit.Below.past ?_ _ | refine RowKit.Below.alloc' ?_ _ | refine RowKit.Below.drew' ?_ | refine RowKit.Below.drewN' ?_ _ | refine RowKit.Below.setCell' ?_ (by simp [go_sem]) _))) hb7 ho7; have f7 := HN.2.2.2.1; have l7 := HN.2.2.2.2.1; obtain ⟨v7, q7⟩ := HN.2.2.2.2.2; have HN7 := hid (And.intro HN.1 (And.intro HN.2.1 HN.2.2.1)); have g7 := HF5.out w7 (below_trans' (by (repeat (first | exact Below.refl _ _ | refine RowKit.Below.past ?_ _ | refine RowKit.Below.alloc' ?_ _ | refine RowKit.Below.drew' ?_ | refine RowKit.Below.drewN' ?_ _ | refine RowKit.Below.setCell' ?_ (by simp [go_sem]) _))) hb7); obtain ⟨g70, g71, g72⟩ := g7; clear HN hb7 ho7 q7
                refine hK.out _ _ ?_ (fun hHeld => ?_)
                · (first | (simp [go_sem, *]; done) | (simp [go_sem, *, World.cell?_alloc_some]; done))
                clear hK K
                try simp only [put_simp]
                refine wpAnyH_done (by kernel_rfl) ?_ _
                change wpList _ _ _ _ _ _
                go_wp2_with fail
                go_ret
                exact ⟨rfl, HN7.out.1, (HB5.out.mono HBB.out).trans HN7.out.2.1, (Kept.of_below HB5.out (fun k => k = b)).trans HN7.out.2.2⟩
              exact AllReadyH.nil
            exact AllReadyH.nil
          exact AllReadyH.nil
  · have HA1 := hid (show addLS l low high = l by rw [HAL.out, if_neg (by rw [h1]; simp)])
    have h1' := h1
    unfold ltVS at h1'
    rw [h1]
    clear h1 HAL
    go_enter Try.func22, Try.ntmps22
    go_wp2
    go_ret
    exact ⟨rfl, by rw [HA1.out]; exact HH.out, Below.refl _ _, Kept.refl _ _⟩

end Go.Proofs.Ytjihhpipdhhjkaa
