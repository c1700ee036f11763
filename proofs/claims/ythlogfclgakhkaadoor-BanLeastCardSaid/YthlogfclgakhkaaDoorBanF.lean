/-
  Layer 21: a row of numbers, cloned. No condition.
-/
import Derived.Test.YthlogfclgakhkaaDoorBanE
import Derived.Maps.AppendAt
import Derived.Deep.CutRange
namespace Go.Proofs.YthlogfclgakhkaaDoor
open Go.RowKit Go.Shelf
attribute [local go_sem] Oper.semAt_some
theorem u64s_one (l : List Int) : ∀ u ∈ u64s l, u.oneCell' = true := by
  intro u hu
  simp only [u64s, List.mem_map] at hu
  obtain ⟨x, _, rfl⟩ := hu
  rfl
set_option maxHeartbeats 1000000 in
theorem clone_any (A : Option Addr) (ca n : Nat) (l : List Int) (en : l.length = n) (h0 : 0 < n) (hn : n ≤ 1000000) (w : World) (ha : Cells w A (u64s l)) :
    Calls Tryd.prog 21 #[.slice A n ca] w (GivesOwn 22 1 n (u64s l) w) := by
  obtain ⟨i0, hi, hz0, hz1, hz2⟩ := info_parts info_u64
  obtain ⟨b1, o1, rfl, _⟩ := u64_at ha (k := 0) (by omega)
  have HA := hid ha
  have he : ∀ w : World, (binOp .eql 25 (.slice (some ⟨b1, o1, none⟩) n ca) (.slice none 0 0)).run Tryd.prog w = .ok (.bool false) w := fun _ => rfl
  have hnews : ∀ j u, (u64s l)[j]? = some u → (w.alloc (.cells #[] 22)).cell? ((⟨b1, o1, none⟩ : Addr).add j) = some u := by
    intro j u hj
    obtain ⟨b, off, e, hc⟩ := (HA.out.alloc (.cells #[] 22)) (by intro e; rw [e] at hj; simp at hj)
    injection e with e
    injection e with e1 e2
    subst e1; subst e2
    have ea : (⟨b1, o1, none⟩ : Addr).add j = ⟨b1, o1 + j, none⟩ := by unfold Addr.add; split <;> simp_all
    rw [ea]
    exact hc j u hj
  have HN := hid hnews
  have hil : (u64s l).length = n := by rw [u64s_length, en]
  have HIL := hid hil
  clear hnews ha en hil
  go_enter Tryd.func21, Tryd.ntmps21
  go_wp2_with (at_builtin; refine wpList_append_own_at _ rfl (.tmp 5) (.tmp 6) 25 rfl w.heap.size 22 i0 (.int .u64 0) 1 8 Tryd.underlying25 hi hz0 hz1 hz2 rfl (by decide) _ 0 [] rfl (World.ownsRow_lit (base := w.heap.size) (size := 1) w #[] 0 (Nat.le_refl _) (by unfold maxLen; omega) rfl) ⟨b1, o1, none⟩ n ca (u64s l) (by rfl) (by rw [HIL.out]; simp) HN.out (u64s_one l) (by unfold maxLen; omega) (by omega) (by simp) ?_; intro v' w1 hown' hgrow _ _)
  simp only [Nat.zero_add, List.nil_append] at hown'
  obtain ⟨A', cap', rfl⟩ := own_shape hown'
  have HO := hid hown'
  have hb := ((Below.refl w.heap.size w).alloc (Nat.le_refl _) (.cells #[] 22)).grown hgrow (by simp) (fun k hk => by have e : some w.heap.size = some k := hk; injection e with e; omega)
  have HB := hid hb
  clear hown' hgrow hb
  go_wp2
  go_ret
  exact ⟨A', cap', rfl, HB.out, HO.out⟩
set_option maxHeartbeats 1000000 in
/-- A row without elements that isn't nil. -/
theorem clone_zero (ad : Addr) (ca : Nat) (w : World) :
    Calls Tryd.prog 21 #[.slice (some ad) 0 ca] w (GivesOwn 22 1 0 (u64s []) w) := by
  obtain ⟨i0, hi, hz0, hz1, hz2⟩ := info_parts info_u64
  have he : ∀ w : World, (binOp .eql 25 (.slice (some ad) 0 ca) (.slice none 0 0)).run Tryd.prog w = .ok (.bool false) w := fun _ => rfl
  go_enter Tryd.func21, Tryd.ntmps21
  go_wp2_with (at_builtin; refine wpList_append_own_at _ rfl (.tmp 5) (.tmp 6) 25 rfl w.heap.size 22 i0 (.int .u64 0) 1 8 Tryd.underlying25 hi hz0 hz1 hz2 rfl (by decide) _ 0 [] rfl (World.ownsRow_lit (base := w.heap.size) (size := 1) w #[] 0 (Nat.le_refl _) (by unfold maxLen; omega) rfl) ad 0 ca [] (by rfl) (by simp) (fun j u h => by simp at h) (fun u h => by simp at h) (by unfold maxLen; omega) (by omega) (by simp) ?_; intro v' w1 hown' hgrow _ _)
  simp only [Nat.zero_add, List.nil_append] at hown'
  obtain ⟨A', cap', rfl⟩ := own_shape hown'
  have HO := hid hown'
  have hb := ((Below.refl w.heap.size w).alloc (Nat.le_refl _) (.cells #[] 22)).grown hgrow (by simp) (fun k hk => by have e : some w.heap.size = some k := hk; injection e with e; omega)
  have HB := hid hb
  clear hown' hgrow hb
  go_wp2
  go_ret
  exact ⟨A', cap', rfl, HB.out, HO.out⟩
end Go.Proofs.YthlogfclgakhkaaDoor
