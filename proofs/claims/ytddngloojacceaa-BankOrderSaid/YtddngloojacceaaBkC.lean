/-
  Layer 44: rows are copied, and added. No condition.
-/
import Derived.Test.YtddngloojacceaaBkB
import Derived.Maps.AppendAt
import Derived.Deep.CutRange
namespace Go.Proofs.Ytddngloojacceaa
open Go Go.RowKit
theorem i64s_one (l : List Int) : ∀ u ∈ i64s l, u.oneCell' = true := by
  intro u hu
  simp only [i64s, List.mem_map] at hu
  obtain ⟨x, _, rfl⟩ := hu
  rfl
set_option maxHeartbeats 1000000 in
theorem clone_any (A : Option Addr) (ca n : Nat) (l : List Int) (en : l.length = n) (h0 : 0 < n) (hn : n ≤ 1000000) (w : World) (ha : Cells w A (i64s l)) :
    Calls Try.prog 34 #[.slice A n ca] w (GivesOwn 3 1 n (i64s l) w) := by
  obtain ⟨i0, hi, hz0, hz1, hz2⟩ := info_parts info_i64
  obtain ⟨b1, o1, rfl, _⟩ := i64_at ha (k := 0) (by omega)
  have HA := hid ha
  have he : ∀ w : World, (binOp .eql 22 (.slice (some ⟨b1, o1, none⟩) n ca) (.slice none 0 0)).run Try.prog w = .ok (.bool false) w := fun _ => rfl
  have hnews : ∀ j u, (i64s l)[j]? = some u → (w.alloc (.cells #[] 3)).cell? ((⟨b1, o1, none⟩ : Addr).add j) = some u := by
    intro j u hj
    obtain ⟨b, off, e, hc⟩ := (HA.out.alloc (.cells #[] 3)) (by intro e; rw [e] at hj; simp at hj)
    injection e with e
    injection e with e1 e2
    subst e1; subst e2
    have ea : (⟨b1, o1, none⟩ : Addr).add j = ⟨b1, o1 + j, none⟩ := by unfold Addr.add; split <;> simp_all
    rw [ea]
    exact hc j u hj
  have HN := hid hnews
  have hil : (i64s l).length = n := by rw [i64s_length, en]
  have HIL := hid hil
  clear hnews ha en hil
  go_enter Try.func34, Try.ntmps34
  go_wp2_with (at_builtin; refine wpList_append_own_at _ rfl (.tmp 5) (.tmp 6) 22 rfl w.heap.size 3 i0 (.int .i64 0) 1 8 Try.underlying22 hi hz0 hz1 hz2 rfl (by decide) _ 0 [] rfl (World.ownsRow_lit (base := w.heap.size) (size := 1) w #[] 0 (Nat.le_refl _) (by unfold maxLen; omega) rfl) ⟨b1, o1, none⟩ n ca (i64s l) (by rfl) (by rw [HIL.out]; simp) HN.out (i64s_one l) (by unfold maxLen; omega) (by omega) (by simp) ?_; intro v' w1 hown' hgrow _ _)
  simp only [Nat.zero_add, List.nil_append] at hown'
  obtain ⟨A', cap', rfl⟩ := own_shape hown'
  have HO := hid hown'
  have hb := ((Below.refl w.heap.size w).alloc (Nat.le_refl _) (.cells #[] 3)).grown hgrow (by simp) (fun k hk => by have e : some w.heap.size = some k := hk; injection e with e; omega)
  have HB := hid hb
  clear hown' hgrow hb
  go_wp2
  go_ret
  exact ⟨A', cap', rfl, HB.out, HO.out⟩
/-- The first k of a with those of b, times s, added. -/
def plusK (a b : List Int) (s : Int) (k : Nat) : List Int := (List.range a.length).map fun i => if i < k then atL a i + s * atL b i else atL a i
def plusF (a b : List Int) (s : Int) : List Int := (List.range a.length).map fun i => atL a i + s * atL b i
theorem plusK_length (a b : List Int) (s : Int) (k : Nat) : (plusK a b s k).length = a.length := by simp [plusK]
theorem plusK_zero (a b : List Int) (s : Int) : plusK a b s 0 = a := by
  apply List.ext_getElem?
  intro i
  by_cases h : i < a.length
  · simp [plusK, h, atL]
  · simp [plusK, h, List.getElem?_eq_none (show a.length ≤ i by omega)]
theorem plusK_all (a b : List Int) (s : Int) : plusK a b s a.length = plusF a b s := by
  unfold plusK plusF
  apply List.map_congr_left
  intro i hi
  rw [if_pos (by simpa using hi)]
theorem plusK_at {a b : List Int} {s : Int} {k i : Nat} (h : i < a.length) : atL (plusK a b s k) i = if i < k then atL a i + s * atL b i else atL a i := by simp [plusK, atL, h]
theorem plusK_set {a b : List Int} {s : Int} {k : Nat} (h : k < a.length) : (plusK a b s k).set k (atL a k + s * atL b k) = plusK a b s (k + 1) := by
  apply List.ext_getElem?
  intro i
  rw [List.getElem?_set, plusK_length]
  by_cases hi : k = i
  · subst hi
    rw [if_pos rfl, if_pos h]
    simp [plusK, h]
  · rw [if_neg hi]
    by_cases h2 : i < a.length
    · by_cases h3 : i < k
      · simp [plusK, h2, h3, show i < k + 1 by omega]
      · simp [plusK, h2, h3, show ¬ i < k + 1 by omega]
    · simp [plusK, h2]
end Go.Proofs.Ytddngloojacceaa
