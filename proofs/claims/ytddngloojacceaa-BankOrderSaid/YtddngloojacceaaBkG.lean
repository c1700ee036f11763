/-
  Layer 44: can a client be served, and who is the first that can? No condition but that the bank may be.
-/
import Derived.Test.YtddngloojacceaaBkF
import Derived.Deep.RegionHeld3
namespace Go.Proofs.Ytddngloojacceaa
open Go Go.RowKit
/-- What a bank that may be is. -/
structure Bk.Ok (x : Bk) (k nh : Nat) : Prop where
  k1 : 1 ≤ k
  k4 : k ≤ 4
  h8 : nh ≤ 8
  ef : x.F.2.2.length = k
  eh : x.H.length = nh
  em : x.M.length = nh
  hl : ∀ i, i < nh → (hasR x i).length = k
  ml : ∀ i, i < nh → (mostR x i).length = k
  fv : ∀ j, j < k → 0 ≤ atL x.F.2.2 j ∧ atL x.F.2.2 j ≤ 1000000
  hv : ∀ i, i < nh → ∀ j, j < k → 0 ≤ atL (hasR x i) j ∧ atL (hasR x i) j ≤ 1000000
  mv : ∀ i, i < nh → ∀ j, j < k → 0 ≤ atL (mostR x i) j ∧ atL (mostR x i) j ≤ 1000000
  le : ∀ i, i < nh → ∀ j, j < k → atL (hasR x i) j ≤ atL (mostR x i) j
theorem rowF_iff {l : List Int} {k : Nat} : rowF l (k : Int) = true ↔ l.length = k ∧ ∀ j, j < l.length → 0 ≤ atL l j ∧ atL l j ≤ 1000000 := by
  unfold rowF
  rw [Bool.and_eq_true, mayR_iff]
  simp [mayN]
  omega
theorem Bk.Ok.of {x : Bk} (h : mayB x = true) : x.Ok x.F.2.2.length x.H.length := by
  unfold mayB at h
  simp only [Bool.and_eq_true, decide_eq_true_eq, List.all_eq_true, List.mem_range] at h
  obtain ⟨⟨⟨h1, h2, h3, h4⟩, h5⟩, h6⟩ := h
  have h7 := fun i hi => (show rowF (hasR x i) x.F.2.2.length = true ∧ rowF (mostR x i) x.F.2.2.length = true ∧ withK (hasR x i) (mostR x i) (hasR x i).length = true by
    have := h6 i hi
    unfold mayI at this
    simp only [Bool.and_eq_true] at this
    exact ⟨this.1.1, this.1.2, this.2⟩)
  have hf := rowF_iff.1 h5
  refine ⟨h1, h2, h3, rfl, rfl, h4.symm, fun i hi => (rowF_iff.1 (h7 i hi).1).1, fun i hi => (rowF_iff.1 (h7 i hi).2.1).1, fun j hj => hf.2 j hj, fun i hi j hj => ?_, fun i hi j hj => ?_, fun i hi j hj => ?_⟩
  · have := rowF_iff.1 (h7 i hi).1
    exact this.2 j (by rw [this.1]; exact hj)
  · have := rowF_iff.1 (h7 i hi).2.1
    exact this.2 j (by rw [this.1]; exact hj)
  · exact withK_iff.1 (h7 i hi).2.2 j (by rw [(rowF_iff.1 (h7 i hi).1).1]; exact hj)
theorem sml_of {l : List Int} (h : ∀ j, j < l.length → 0 ≤ atL l j ∧ atL l j ≤ 1000000) : Sml l := fun j => by
  by_cases hj : j < l.length
  · have := h j hj; omega
  · unfold atL; rw [List.getElem?_eq_none (by omega)]; simp
theorem Bk.Ok.hs {x : Bk} {k nh : Nat} (h : x.Ok k nh) {i : Nat} (hi : i < nh) : Sml (hasR x i) := sml_of fun j hj => h.hv i hi j (by rw [← h.hl i hi]; exact hj)
theorem Bk.Ok.ms {x : Bk} {k nh : Nat} (h : x.Ok k nh) {i : Nat} (hi : i < nh) : Sml (mostR x i) := sml_of fun j hj => h.mv i hi j (by rw [← h.ml i hi]; exact hj)
theorem Bk.Ok.fs {x : Bk} {k nh : Nat} (h : x.Ok k nh) : Sml x.F.2.2 := sml_of fun j hj => h.fv j (by rw [← h.ef]; exact hj)
/-- Can a client be served by what is free? -/
def canK (x : Bk) (free : List Int) (i k : Nat) : Bool := withK (plusF (mostR x i) (hasR x i) (-1)) free k
theorem plusF_length (a b : List Int) (s : Int) : (plusF a b s).length = a.length := by simp [plusF]
theorem plusF_at {a b : List Int} {s : Int} {j : Nat} (h : j < a.length) : atL (plusF a b s) j = atL a j + s * atL b j := by simp [plusF, atL, h]
set_option maxRecDepth 100000 in
set_option maxHeartbeats 2000000 in
theorem can_any (x : Bk) (k nh : Nat) (ok : x.Ok k nh) (bb bf : Nat) (F : Option Addr) (cf : Nat) (free : List Int) (i : Nat) (hi : i < nh) (w : World) (hx : x.In w) (hb : Rec w bb 25 x.cs)
    (hf : w.cell? ⟨bf, 0, none⟩ = some (.slice F k cf)) (el : free.length = k) (hF : Cells w F (i64s free)) :
    Calls Try.prog 36 #[.int .i64 i, .pointer (some ⟨bb, 0, none⟩), .pointer (some ⟨bf, 0, none⟩)] w (Gives (.bool (canK x free i k)) w) := by
  have r1 := Rec.cell hb 1
  have r2 := Rec.cell hb 2
  simp only [Bk.cs] at r1 r2
  simp [ok.eh, ok.em] at r1 r2
  obtain ⟨bh, oh, Rh, ch, eh, q1, k1⟩ := hx.h.at (i := i) (by rw [ok.eh]; exact hi)
  obtain ⟨bm, om, Rm, cm, em, q2, k2⟩ := hx.m.at (i := i) (by rw [ok.em]; exact hi)
  rw [eh] at r1
  rw [em] at r2
  have eh2 : (rAt x.H i).2.2.length = k := ok.hl i hi
  have em2 : (rAt x.M i).2.2.length = k := ok.ml i hi
  rw [eh2] at q1
  rw [em2] at q2
  have hk1 := ok.k1
  have hk4 := ok.k4
  have h8 := ok.h8
  have P1 := hid (fun W (hW : Below w.heap.size w W) => plus_any Rm Rh cm ch k k (mostR x i) (hasR x i) (-1) em2 eh2 (Nat.le_refl _) (by omega) (by omega) (.inr rfl) (ok.ms hi) (ok.hs hi) W (k2.below hW) (k1.below hW))
  have P2 := hid (fun W A c (hW : Below w.heap.size w W) (ho : Cells W A (i64s (plusF (mostR x i) (hasR x i) (-1)))) => within_any A F c cf k k (plusF (mostR x i) (hasR x i) (-1)) free (by rw [plusF_length]; exact em2) el (Nat.le_refl _) (by omega) W ho (hF.below hW))
  obtain ⟨L, eL⟩ : ∃ L, plusF (mostR x i) (hasR x i) (-1) = L := ⟨_, rfl⟩
  have hC : canK x free i k = withK L free k := by unfold canK; rw [eL]
  rw [eL] at P1 P2
  obtain ⟨r, er⟩ : ∃ r, withK L free k = r := ⟨_, rfl⟩
  rw [er] at P2 hC
  rw [hC]
  clear hx hb eh em k1 k2 ok el hF eh2 em2 eL er hC
  go_enter Try.func36, Try.ntmps36
  go_wp2_with fail
  go_region_held3 (fun w' => w'.cell? ⟨bf, 0, none⟩ = some (.slice F k cf) ∧ w'.cell? ⟨bb, 1, none⟩ = some (.slice (some ⟨bh, oh, none⟩) nh x.cH) ∧ w'.cell? ⟨bb, 2, none⟩ = some (.slice (some ⟨bm, om, none⟩) nh x.cM) ∧ w'.cell? ⟨bh, oh + i, none⟩ = some (.slice Rh k ch) ∧ w'.cell? ⟨bm, om + i, none⟩ = some (.slice Rm k cm)) (simp [go_sem, *]) (first | (go_at_call 26; refine (P1.out _ (by (repeat (first | exact Below.refl _ _ | refine RowKit.Below.past ?_ _ | refine RowKit.Below.alloc' ?_ _ | refine RowKit.Below.drew' ?_ | refine RowKit.Below.drewN' ?_ _ | refine RowKit.Below.setCell' ?_ (by simp [go_sem]) _)))).mono ?_; rintro _ w5 ⟨A1, c1, rfl, hb5, ho5⟩; obtain ⟨x5, rfl⟩ := past_of hb5; have HO5 := hid ho5; clear hb5 ho5) | (go_at_call 25; refine (P2.out _ _ _ (by (repeat (first | exact Below.refl _ _ | refine RowKit.Below.past ?_ _ | refine RowKit.Below.alloc' ?_ _ | refine RowKit.Below.drew' ?_ | refine RowKit.Below.drewN' ?_ _ | refine RowKit.Below.setCell' ?_ (by simp [go_sem]) _))) (Cells.of_own HO5.out)).mono ?_; rintro _ _ ⟨rfl, x6, rfl⟩))
  all_goals go_wp2_with fail
  all_goals go_ret
  all_goals
    refine Gives.mk rfl ?_
    (repeat (first | exact Below.refl _ _ | refine RowKit.Below.past ?_ _ | refine RowKit.Below.alloc' ?_ _ | refine RowKit.Below.drew' ?_ | refine RowKit.Below.drewN' ?_ _ | refine RowKit.Below.setCell' ?_ (by simp [go_sem]) _))
/-- The first in a row of which it holds, or -1. -/
def idxF (p : Int → Bool) (l : List Int) : Int := match l.findIdx? p with | some j => (j : Int) | none => -1
theorem idxF_some {p : Int → Bool} {l : List Int} {j : Nat} (h : l.findIdx? p = some j) : idxF p l = j := by unfold idxF; rw [h]
theorem idxF_none {p : Int → Bool} {l : List Int} (h : l.findIdx? p = none) : idxF p l = -1 := by unfold idxF; rw [h]
theorem findIdx?_is {p : Int → Bool} {l : List Int} {j : Nat} (hj : j < l.length) (h1 : p (atL l j) = true) (h2 : ∀ q, q < j → p (atL l q) = false) : l.findIdx? p = some j := by
  rw [List.findIdx?_eq_some_iff_getElem]
  have e : ∀ q (h : q < l.length), l[q] = atL l q := fun q h => by simp [atL, h]
  refine ⟨hj, by rw [e]; exact h1, fun q hq => ?_⟩
  rw [e, h2 q hq]
  simp
theorem findIdx?_no {p : Int → Bool} {l : List Int} (h2 : ∀ q, q < l.length → p (atL l q) = false) : l.findIdx? p = none := by
  rw [List.findIdx?_eq_none_iff]
  intro v hv
  obtain ⟨q, hq, rfl⟩ := List.mem_iff_getElem.1 hv
  have := h2 q hq
  simpa [atL, hq] using this
set_option maxRecDepth 100000 in
set_option maxHeartbeats 2000000 in
theorem firstCan_any (p : Int → Bool) (A : Option Addr) (ca n : Nat) (l : List Int) (en : l.length = n) (hn : n ≤ 1000000) (v1 v2 : Value) (w : World) (ha : Cells w A (i64s l))
    (hg : ∀ j, j < n → ∀ y : Past, Calls Try.prog 36 #[.int .i64 (atL l j), v1, v2] (w.past y) (Gives (.bool (p (atL l j))) (w.past y))) :
    Calls Try.prog 35 #[.slice A n ca, .func (.func 36) #[] #[v1, v2]] w (Gives (.int .i64 (idxF p l)) w) := by
  have EN := hid en
  have HA := hid ha
  have HG := hid hg
  clear en ha hg
  go_enter Try.func35, Try.ntmps35
  go_wp2
  go_loopw [8] (fun i wr => ∃ (k : Nat) (x : Past), i = .int .i64 k ∧ k ≤ n ∧ wr = w.past x ∧ Hid (∀ j, j < k → p (atL l j) = false)) (fun i _ => n - (intOf i).toNat)
  case atStart => exact ⟨0, _, rfl, by omega, World.past_refl w, hid (fun j h => by omega)⟩
  case round =>
    obtain ⟨k, x, rfl, hk, rfl, HJ⟩ := hrel
    by_cases hlt : k < n
    · obtain ⟨b1, o1, rfl, hc1⟩ := i64_at HA.out (k := k) (by rw [EN.out]; exact hlt)
      have hb := HG.out k hlt x
      obtain ⟨r, hr⟩ : ∃ r, p (atL l k) = r := ⟨_, rfl⟩
      rw [hr] at hb
      have HR := hid hr
      have HB := hid hb
      clear hr hb
      cases r
      · go_wp2_with (go_at_call 36; refine HB.out.mono ?_; rintro _ _ ⟨rfl, _, rfl⟩)
        go_roundw
        case rel => exact ⟨k + 1, _, by go_num, by omega, by first | rfl | trivial, hid (fun j hj => by
          by_cases e : j = k
          · subst e; exact HR.out
          · exact HJ.out j (by omega))⟩
        case measure => simp [intOf]; omega
      · have hf : idxF p l = k := idxF_some (findIdx?_is (by rw [EN.out]; exact hlt) HR.out HJ.out)
        have HF := hid hf
        clear hf
        go_wp2_with (go_at_call 36; refine HB.out.mono ?_; rintro _ _ ⟨rfl, _, rfl⟩)
        go_ret
        refine Gives.mk (by rw [HF.out]; rfl) ?_
        (repeat (first | exact Below.refl _ _ | refine RowKit.Below.past ?_ _ | refine RowKit.Below.alloc' ?_ _ | refine RowKit.Below.drew' ?_ | refine RowKit.Below.drewN' ?_ _ | refine RowKit.Below.setCell' ?_ (by simp [go_sem]) _))
    · obtain rfl : k = n := by omega
      have HF := hid (idxF_none (findIdx?_no (fun j hj => HJ.out j (by rw [← EN.out]; exact hj))))
      go_wp2
      go_ret
      refine Gives.mk (by rw [HF.out]; rfl) ?_
      (repeat (first | exact Below.refl _ _ | refine RowKit.Below.past ?_ _ | refine RowKit.Below.alloc' ?_ _ | refine RowKit.Below.drew' ?_ | refine RowKit.Below.drewN' ?_ _ | refine RowKit.Below.setCell' ?_ (by simp [go_sem]) _))
end Go.Proofs.Ytddngloojacceaa
