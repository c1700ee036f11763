/-
  Layer 05: a new queue, and its other functions (strings). No condition.
-/
import Derived.Test.YtifdogmlaengoaaFifES
namespace Go.Proofs.Ytifdogmlaengoaa
open Go.RowKit
def plFS (f : Int → Option Int) (t : Int) : Int := (f t).getD (-1)
set_option maxHeartbeats 1000000 in
theorem placeS_any {B : Nat} {w : World} {b : Nat} {F : Nat → Prop} {most : Int} {q : Fq ByteArray} {tk : Int} {f : Int → Option Int} {c : Nat} (h : QAtS B w b F most q tk f c) (t : Int) (ht : I64 t) :
    Calls Try.prog 38 #[.pointer (some ⟨b, 0, none⟩), .int .i64 t] w (fun e w' => e = .returned (.int .i64 (plFS f t)) ∧ w' = w) := by
  obtain ⟨ba, mb, G, h, hF⟩ := h
  have hl := h.mp.look (m := 68) (x := t) (by kernel_rfl) (by kernel_rfl) (by go_simp) ht
  have q1 := Rec.cell h.rc 1
  simp at q1
  have HE := hid (show plFS f t = (f t).getD (-1) from rfl)
  clear h ht
  cases e : f t with
  | none =>
    rw [e] at hl HE
    simp at hl
    clear e
    go_enter Try.func38, Try.ntmps38
    go_wp2
    go_ret
    exact ⟨by rw [HE.out]; rfl, rfl⟩
  | some p =>
    rw [e] at hl HE
    simp at hl
    clear e
    go_enter Try.func38, Try.ntmps38
    go_wp2
    go_ret
    exact ⟨by rw [HE.out]; rfl, rfl⟩
theorem FLenS_any {B : Nat} {w : World} {b : Nat} {F : Nat → Prop} {most : Int} {q : Fq ByteArray} {tk : Int} {f : Int → Option Int} {c : Nat} (h : QAtS B w b F most q tk f c) :
    Calls Try.prog 25 #[.pointer (some ⟨b, 0, none⟩)] w (Gives (.int .i64 q.S.n) w) := by
  obtain ⟨ba, mb, G, h, hF⟩ := h
  have HL := hid (LLenS_any ba most q.S w h.ar.rd)
  have q0 := Rec.cell h.rc 0
  simp at q0
  clear h
  go_enter Try.func25, Try.ntmps25
  go_wp2_with (go_at_call 40; refine HL.out.mono ?_; rintro _ _ ⟨rfl, y1, rfl⟩)
  go_ret
  exact Gives.mk rfl (World.below_past _ _)
set_option maxHeartbeats 1000000 in
theorem FPopS_any {B : Nat} {w : World} {b : Nat} {F : Nat → Prop} {most : Int} {q : Fq ByteArray} {tk : Int} {f : Int → Option Int} {c : Nat} (h : QAtS B w b F most q tk f c) (R : Ending → World → Prop) (ht : Calls Try.prog 39 #[.pointer (some ⟨b, 0, none⟩), .int .i64 q.fi] w (fun e w' => ∃ v ok, e = .returned (.tuple #[.string v, .bool ok]) ∧ R (.returned (.tuple #[.string v, .bool ok])) w')) :
    Calls Try.prog 24 #[.pointer (some ⟨b, 0, none⟩)] w R := by
  obtain ⟨ba, mb, G, h, hF⟩ := h
  have HT := hid ht
  have q2 := Rec.cell h.rc 2
  simp at q2
  clear h ht
  go_enter Try.func24, Try.ntmps24
  go_wp2_with (go_at_call 39; refine HT.out.mono ?_; rintro _ w2 ⟨v, ok, rfl, hR⟩)
  exact hR
set_option maxHeartbeats 1000000 in
theorem FRemoveS_any {B : Nat} {w : World} {b : Nat} {F : Nat → Prop} {most : Int} {q : Fq ByteArray} {tk : Int} {f : Int → Option Int} {c : Nat} (h : QAtS B w b F most q tk f c) (t : Int) (hti : I64 t) (p : Int) (hp : f t = some p) (hp0 : 0 ≤ p) (R : Ending → World → Prop) (ht : Calls Try.prog 39 #[.pointer (some ⟨b, 0, none⟩), .int .i64 p] w (fun e w' => ∃ v ok, e = .returned (.tuple #[.string v, .bool ok]) ∧ R (.returned (.tuple #[.string v, .bool ok])) w')) :
    Calls Try.prog 23 #[.pointer (some ⟨b, 0, none⟩), .int .i64 t] w R := by
  have HP := hid (placeS_any h t hti)
  rw [show plFS f t = p by unfold plFS; rw [hp]; rfl] at HP
  have HT := hid ht
  have hne : (p == -1) = false := by simp; omega
  have hne2 : ¬ p = -1 := by omega
  clear h ht hp
  go_enter Try.func23, Try.ntmps23
  go_wp2_with (first | (go_at_call 38; refine HP.out.mono ?_; rintro _ w1 ⟨rfl, h1⟩; rw [h1]; clear h1 w1) | (go_at_call 39; refine HT.out.mono ?_; rintro _ w2 ⟨v, ok, rfl, hR⟩))
  exact hR
set_option maxHeartbeats 1000000 in
theorem FRemoveNS_any {B : Nat} {w : World} {b : Nat} {F : Nat → Prop} {most : Int} {q : Fq ByteArray} {tk : Int} {f : Int → Option Int} {c : Nat} (h : QAtS B w b F most q tk f c) (t : Int) (hti : I64 t) (hp : f t = none) :
    Calls Try.prog 23 #[.pointer (some ⟨b, 0, none⟩), .int .i64 t] w (fun e w' => e = .returned (.tuple #[.string ⟨#[]⟩, .bool false]) ∧ w' = w) := by
  have HP := hid (placeS_any h t hti)
  rw [show plFS f t = -1 by unfold plFS; rw [hp]; rfl] at HP
  clear h hp
  go_enter Try.func23, Try.ntmps23
  go_wp2_with (go_at_call 38; refine HP.out.mono ?_; rintro _ w1 ⟨rfl, h1⟩; rw [h1]; clear h1 w1)
  go_ret2
  exact ⟨rfl, rfl⟩
set_option maxHeartbeats 1000000 in
theorem LNewS_any (B : Nat) (most : Int) (w : World) (hB : B ≤ w.heap.size) :
    Calls Try.prog 35 #[.int .i64 most] w (fun e w' => e = .returned (.pointer (some ⟨w.heap.size, 0, none⟩)) ∧ ArLS B w' w.heap.size none (mostA most) ⟨[], 0, 0⟩ ∧ Below w.heap.size w w') := by
  obtain ⟨m, hm⟩ : ∃ m, mostA most = m := ⟨_, rfl⟩
  rw [hm]
  have key : ∀ W : World, W = w.alloc (.cells #[.int .i64 m, .slice none 0 0, .int .i64 0, .int .i64 0] 92) → ArLS B W w.heap.size none m ⟨[], 0, 0⟩ ∧ Below w.heap.size w W := by
    rintro _ rfl
    exact ⟨⟨hB, none, 0, Rec.new w _ _, ⟨rfl, .inl ⟨rfl, rfl⟩⟩, rfl⟩, (Below.refl _ w).alloc (Nat.le_refl _) _⟩
  have K := hid key
  unfold mostA at hm
  clear key
  by_cases h1 : most < 0
  · obtain rfl : m = 0 := by omega
    clear hm
    go_enter Try.func35, Try.ntmps35
    go_wp2
    go_ret
    exact ⟨rfl, K.out _ rfl⟩
  · by_cases h2 : 4096 < most
    · obtain rfl : m = 4096 := by omega
      clear hm
      have h3 : 0 ≤ most := by omega
      go_enter Try.func35, Try.ntmps35
      go_wp2
      go_ret
      exact ⟨rfl, K.out _ rfl⟩
    · obtain rfl : m = most := by omega
      clear hm
      have h3 : 0 ≤ m := by omega
      have h4 : m ≤ 4096 := by omega
      go_enter Try.func35, Try.ntmps35
      go_wp2
      go_ret
      exact ⟨rfl, K.out _ rfl⟩
set_option maxHeartbeats 1000000 in
theorem FNewS_any (B : Nat) (most : Int) (w : World) (hB : B ≤ w.heap.size) :
    Calls Try.prog 21 #[.int .i64 most] w (fun e w' => ∃ b F, e = .returned (.pointer (some ⟨b, 0, none⟩)) ∧ QAtS B w' b F (mostA most) ⟨⟨[], 0, 0⟩, -1, -1⟩ 0 (fun _ => none) 0 ∧ (∀ k, F k → w.heap.size ≤ k) ∧ Below w.heap.size w w') := by
  have HN := hid (LNewS_any B most w hB)
  have hmm := @run_makeMap Try.prog
  go_enter Try.func21, Try.ntmps21
  go_wp2_with (go_at_call 35; refine HN.out.mono ?_; rintro _ w2 ⟨rfl, ha, hb⟩; have HA := hid ha; have HB2 := hid hb; clear ha hb)
  go_ret
  have hb := HB2.out
  obtain ⟨W, eW⟩ : ∃ W, W = (w2.alloc (.map #[] 0)).alloc (.cells #[.pointer (some ⟨w.heap.size, 0, none⟩), .map (some w2.heap.size), .int .i64 (-1), .int .i64 (-1), .int .i64 0] 81) := ⟨_, rfl⟩
  have hbW : Below w2.heap.size w2 W := by rw [eW]; exact ((Below.refl _ w2).alloc (Nat.le_refl _) _).alloc (by simp) _
  have hrW : Rec W (w2.heap.size + 1) 81 #[.pointer (some ⟨w.heap.size, 0, none⟩), .map (some w2.heap.size), .int .i64 (-1), .int .i64 (-1), .int .i64 0] := by
    rw [eW]
    have := Rec.new (w2.alloc (.map #[] 0)) 81 #[.pointer (some ⟨w.heap.size, 0, none⟩), .map (some w2.heap.size), .int .i64 (-1), .int .i64 (-1), .int .i64 0]
    simpa using this
  have hmW : MapI Try.prog 3 W w2.heap.size (fun _ => none) 0 := by
    rw [eW]
    exact ((MapI.made (P := Try.prog) (t := 3) w2).below ((Below.refl _ _).alloc (Nat.le_refl _) _) (by simp)).ext fun z => rfl
  have hs := hb.size
  rw [← eW]
  refine ⟨w2.heap.size + 1, _, rfl, ⟨w.heap.size, w2.heap.size, none, ⟨by omega, by omega, hrW, HA.out.below hbW, hmW⟩, rfl⟩, fun k hk => ?_, hb.trans (hbW.mono hs)⟩
  rcases hk with hk | hk | hk | hk
  · omega
  · omega
  · omega
  · cases hk

end Go.Proofs.Ytifdogmlaengoaa
