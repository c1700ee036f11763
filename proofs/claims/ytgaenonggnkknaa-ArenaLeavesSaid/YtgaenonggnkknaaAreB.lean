/-
  Layer 02: what is got, set and dropped of the product's object. No condition.
-/
import Derived.Test.YtgaenonggnkknaaAreA
namespace Go.Proofs.Ytgaenonggnkknaa
open Go.RowKit
section
variable {α : Type} {tA tS : TypeId} {f : α → List Value} {c B : Nat} {w w' : World} {b : Nat} {most : Int} {S : Ar α}
/-- What its cells read as. -/
structure ArRd (tA tS : TypeId) (f : α → List Value) (c : Nat) (w : World) (b : Nat) (most : Int) (S : Ar α) : Prop where
  ex : ∃ A cp, Rec w b tA #[.int .i64 most, .slice A S.l.length cp, .int .i64 S.free, .int .i64 S.n] ∧ Cells w A (tab (slV f) S.l)
theorem ArAt.rd (h : ArAt tA tS f c B w b most S) : ArRd tA tS f c w b most S := by
  obtain ⟨A, cp, h1, h2⟩ := h.ex
  exact ⟨A, cp, h1, Cells.of_own h2⟩
theorem ArRd.below (h : ArRd tA tS f c w b most S) (hb : Below w.heap.size w w') : ArRd tA tS f c w' b most S := by
  obtain ⟨A, cp, h1, h2⟩ := h.ex
  exact ⟨A, cp, h1.below hb (Nat.le_refl _), h2.below hb⟩
end
abbrev RdI := @ArRd Int 63 65 vI 1
/-- An element's three cells. -/
theorem rdI_at {w : World} {b : Nat} {A : Option Addr} {l : List (Slot Int)} (h : Cells w A (tab (slV vI) l)) {k : Nat} (hk : k < l.length) : ∃ g o : Nat, A = some ⟨g, o, none⟩ ∧
    w.cell? ⟨g, o + k * 3, none⟩ = some (.int .i64 (slotA 0 l k).1) ∧ w.cell? ⟨g, o + k * 3 + 1, none⟩ = some (.bool (slotA 0 l k).2.1) ∧ w.cell? ⟨g, o + k * 3 + 2, none⟩ = some (.int .i64 (slotA 0 l k).2.2) := by
  obtain ⟨g, o, e, hc⟩ := h.tab_at (slV_length (c := 1) (fun _ => rfl)) (slot_at (z := 0) hk) (by omega)
  exact ⟨g, o, e, hc 0 _ rfl, hc 1 _ rfl, hc 2 _ rfl⟩
theorem Is_any (b : Nat) (most : Int) (S : Ar Int) (i : Int) (w : World) (h : RdI w b most S) :
    Calls Try.prog 29 #[.pointer (some ⟨b, 0, none⟩), .int .i64 i] w (Gives (.bool (isA 0 S.l i)) w) := by
  obtain ⟨A, cp, hrec, hc⟩ := h.ex
  have q1 := Rec.cell hrec 1
  simp at q1
  clear h hrec
  by_cases g1 : i < 0
  · have HE := hid (show isA 0 S.l i = false by unfold isA; rw [decide_eq_false (by omega)]; rfl)
    clear hc
    go_enter Try.func29, Try.ntmps29
    go_wp2
    go_ret
    exact Gives.refl (by rw [HE.out]; rfl)
  · obtain ⟨k, rfl⟩ := Int.eq_ofNat_of_zero_le (show 0 ≤ i by omega)
    by_cases g2 : k < S.l.length
    · obtain ⟨g, o, rfl, c0, c1, c2⟩ := rdI_at (b := b) hc g2
      have HE := hid (show isA 0 S.l k = (slotA 0 S.l k).2.1 by unfold isA; rw [decide_eq_true (by omega), decide_eq_true (by omega)]; rfl)
      obtain ⟨n, en⟩ : ∃ n, S.l.length = n := ⟨_, rfl⟩
      obtain ⟨on, eon⟩ : ∃ on, (slotA 0 S.l k).2.1 = on := ⟨_, rfl⟩
      rw [en] at q1 g2
      rw [eon] at c1 HE
      clear hc en eon c0 c2
      go_enter Try.func29, Try.ntmps29
      go_wp2
      go_ret
      exact Gives.refl (by rw [HE.out]; rfl)
    · have HE := hid (show isA 0 S.l k = false by unfold isA; rw [decide_eq_false (p := (k : Int) < S.l.length) (by omega), Bool.and_false]; rfl)
      obtain ⟨n, en⟩ : ∃ n, S.l.length = n := ⟨_, rfl⟩
      rw [en] at q1 g2
      clear hc en
      go_enter Try.func29, Try.ntmps29
      go_wp2
      go_ret
      exact Gives.refl (by rw [HE.out]; rfl)
theorem Get_any (b : Nat) (most : Int) (S : Ar Int) (i : Int) (w : World) (h : RdI w b most S) :
    Calls Try.prog 14 #[.pointer (some ⟨b, 0, none⟩), .int .i64 i] w (Gives (.tuple #[.int .i64 (getA 0 S i).1, .bool (getA 0 S i).2]) w) := by
  have HI := hid (Is_any b most S i w h)
  by_cases g1 : isA 0 S.l i = true
  · have HE := hid (show getA 0 S i = ((slotA 0 S.l i.toNat).1, true) from if_pos g1)
    rw [g1] at HI
    obtain ⟨h1, h2, _⟩ := isA_iff.1 g1
    obtain ⟨k, rfl⟩ := Int.eq_ofNat_of_zero_le h1
    have hkl : k < S.l.length := by omega
    obtain ⟨A, cp, hrec, hc⟩ := h.ex
    obtain ⟨g, o, rfl, c0, c1, c2⟩ := rdI_at (b := b) hc hkl
    have q1 := Rec.cell hrec 1
    simp at q1
    rw [Int.toNat_natCast] at HE
    obtain ⟨n, en⟩ : ∃ n, S.l.length = n := ⟨_, rfl⟩
    obtain ⟨x, ex⟩ : ∃ x, (slotA 0 S.l k).1 = x := ⟨_, rfl⟩
    rw [en] at q1 hkl
    rw [ex] at c0 HE
    clear h hc hrec en ex c1 c2 h1 h2 g1
    go_enter Try.func14, Try.ntmps14
    go_wp2_with (go_at_call 29; refine HI.out.mono ?_; rintro _ _ ⟨rfl, x1, rfl⟩)
    go_ret2
    exact Gives.mk (by rw [HE.out]; rfl) (World.below_past _ _)
  · have HE := hid (show getA 0 S i = (0, false) from if_neg g1)
    rw [Bool.eq_false_iff.2 g1] at HI
    clear h g1
    go_enter Try.func14, Try.ntmps14
    go_wp2_with (go_at_call 29; refine HI.out.mono ?_; rintro _ _ ⟨rfl, x1, rfl⟩)
    go_ret2
    exact Gives.mk (by rw [HE.out]; rfl) (World.below_past _ _)
theorem Len_any (b : Nat) (most : Int) (S : Ar Int) (w : World) (h : RdI w b most S) : Calls Try.prog 16 #[.pointer (some ⟨b, 0, none⟩)] w (Gives (.int .i64 S.n) w) := by
  obtain ⟨A, cp, hrec, hc⟩ := h.ex
  have q3 := Rec.cell hrec 3
  simp at q3
  clear h hrec hc
  go_enter Try.func16, Try.ntmps16
  go_wp2
  go_ret
  exact Gives.refl rfl
theorem Most_any (b : Nat) (most : Int) (S : Ar Int) (w : World) (h : RdI w b most S) : Calls Try.prog 18 #[.pointer (some ⟨b, 0, none⟩)] w (Gives (.int .i64 most) w) := by
  obtain ⟨A, cp, hrec, hc⟩ := h.ex
  have q3 := Rec.cell hrec 0
  simp at q3
  clear h hrec hc
  go_enter Try.func18, Try.ntmps18
  go_wp2
  go_ret
  exact Gives.refl rfl
def ChP {α : Type} (tA tS : TypeId) (f : α → List Value) (c B b : Nat) (most : Int) (S' : Ar α) (r : Value) (w : World) (e : Ending) (w' : World) : Prop :=
  e = .returned r ∧ ArAt tA tS f c B w' b most S' ∧ Below B w w' ∧ KeptT b (fun t => t = tS) w w'
set_option maxHeartbeats 1000000 in
theorem Set_any (B b : Nat) (most : Int) (S : Ar Int) (i v : Int) (w : World) (h : ArI B w b most S) (hB : B ≤ w.heap.size) :
    Calls Try.prog 12 #[.pointer (some ⟨b, 0, none⟩), .int .i64 i, .int .i64 v] w (ChP 63 65 vI 1 B b most (setA 0 S i v) (.bool (isA 0 S.l i)) w) := by
  have HI := hid (Is_any b most S i w h.rd)
  have HH := hid h
  by_cases g1 : isA 0 S.l i = true
  · have HG := hid g1
    rw [g1] at HI
    obtain ⟨h1, h2, _⟩ := isA_iff.1 g1
    obtain ⟨k, rfl⟩ := Int.eq_ofNat_of_zero_le h1
    have hkl : k < S.l.length := by omega
    have HE := hid (show setA 0 S k v = ⟨S.l.set k (v, true, (slotA 0 S.l k).2.2), S.free, S.n⟩ from if_pos g1)
    have HON := hid (show (slotA 0 S.l k).2.1 = true from (isA_iff.1 g1).2.2)
    clear h h1 h2 g1
    go_enter Try.func12, Try.ntmps12
    go_wp2_with fail
    refine HI.out.mono ?_
    rintro _ _ ⟨rfl, x1, rfl⟩
    obtain ⟨w1, ew1⟩ : ∃ w1, w1 = w.past x1 := ⟨_, rfl⟩
    have hb1 : Below w.heap.size w w1 := by rw [ew1]; exact w.below_past x1
    rw [← ew1]
    obtain ⟨A, cp, hrec, hown⟩ := (HH.out.below hb1).ex
    have hbig := HH.out.big
    obtain ⟨g, cap, eA, _⟩ := own_succ hown (by omega)
    cases eA
    have q1 := Rec.cell hrec 1
    simp at q1
    have hat := hown.cellAt (k * 3) (by omega)
    rw [show k * 3 = k * (1 + 2) + 0 by omega, tab_get (slV_length (c := 1) (fun _ => rfl)) S.l k _ 0 (slot_at (z := 0) hkl) (by omega)] at hat
    have t0 : w1.cell? ⟨g, k * 3, none⟩ = some (.int .i64 (slotA 0 S.l k).1) := hat
    have f0 := hown.frozenAt (k * 3)
    have hltg : g < w1.heap.size := (hown.lt g rfl).2
    have hst := hown.stored (k * 3) (.int .i64 v)
    have hst2 : (tab (slV vI) S.l).set (k * 3) (.int .i64 v) = tab (slV vI) (S.l.set k (v, true, (slotA 0 S.l k).2.2)) := by
      rw [← tab_set (slV_length (c := 1) (fun _ => rfl)) (by omega) S.l k _ hkl]
      have s1 : ∀ j v', (tab (slV vI) S.l)[k * 3 + j]? = some v' → ((tab (slV vI) S.l).set (k * 3) (.int .i64 v)).set (k * 3 + j) v' = (tab (slV vI) S.l).set (k * 3) (.int .i64 v) ∨ j = 0 := by
        intro j v' hj
        by_cases e : j = 0
        · exact .inr e
        · left
          apply List.ext_getElem?
          intro m
          by_cases em : m = k * 3 + j
          · subst em
            rw [List.getElem?_set_self (by simpa using (List.getElem?_eq_some_iff.1 hj).1), List.getElem?_set_ne (by omega), hj]
          · rw [List.getElem?_set_ne (by omega)]
      have r1 := tab_get (slV_length (f := vI) (c := 1) (fun _ => rfl)) S.l k _ 1 (slot_at (z := 0) hkl) (by omega)
      have r2 := tab_get (slV_length (f := vI) (c := 1) (fun _ => rfl)) S.l k _ 2 (slot_at (z := 0) hkl) (by omega)
      have u1 := (s1 1 (.bool true) (by rw [← HON.out]; exact r1)).resolve_right (by omega)
      have u2 := (s1 2 (.int .i64 (slotA 0 S.l k).2.2) r2).resolve_right (by omega)
      show _ = setL (tab (slV vI) S.l) (k * 3) [.int .i64 v, .bool true, .int .i64 (slotA 0 S.l k).2.2]
      simp only [setL]
      rw [u1]
      exact u2.symm
    have HST := hid hst
    have HST2 := hid hst2
    have HR := hid hrec
    have HO := hid hown
    obtain ⟨n, en⟩ : ∃ n, S.l.length = n := ⟨_, rfl⟩
    have EN := hid en
    rw [en] at q1 hkl
    clear ew1 hrec hown hat hst hst2 en
    go_wp2
    go_ret
    refine ⟨by rw [HG.out]; rfl, ?_, (hb1.mono hB).setCell (p := ⟨g, k * 3, none⟩) ((HO.out.lt g rfl).1) _, (KeptT.of_below hb1 _ _).trans (KeptT.grown HO.out HST.out.2 rfl)⟩
    rw [HE.out]
    refine ⟨hbig, some ⟨g, 0, none⟩, cp, ?_, ?_⟩
    · have := Rec.grown HR.out HO.out HST.out.2 (by decide)
      simpa using this
    · have := HST.out.1
      rw [HST2.out] at this
      simpa using this
  · have HE := hid (show setA 0 S i v = S from if_neg g1)
    have HG := hid (Bool.eq_false_iff.2 g1)
    rw [Bool.eq_false_iff.2 g1] at HI
    clear h g1
    go_enter Try.func12, Try.ntmps12
    go_wp2_with (go_at_call 29; refine HI.out.mono ?_; rintro _ _ ⟨rfl, x1, rfl⟩)
    go_ret
    exact ⟨by rw [HG.out]; rfl, by rw [HE.out]; exact HH.out.below (w.below_past _), (w.below_past _).mono hB, KeptT.of_below (w.below_past _) _ _⟩
end Go.Proofs.Ytgaenonggnkknaa
