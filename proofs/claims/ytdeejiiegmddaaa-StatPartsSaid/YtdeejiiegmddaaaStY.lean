/-
  Layer 25: kinds and locks of two lists, one behind the other: plain. No condition.
-/
import Derived.Test.YtdeejiiegmddaaaStE
namespace Go.Proofs.Ytdeejiiegmddaaa
open Go Go.RowKit
theorem ev_app1 {a b : List Ev} {k : Nat} (h : k < a.length) : evA (a ++ b) k = evA a k := by simp [evA, List.getElem?_append, h]
theorem ev_app2 {a b : List Ev} (k : Nat) : evA (a ++ b) (a.length + k) = evA b k := by simp [evA, List.getElem?_append]; rw [if_neg (by omega)]
theorem kin_app {a b : List Ev} : ∀ k, k ≤ a.length → kinK (a ++ b) k = kinK a k
  | 0, _ => rfl
  | k + 1, h => by rw [kinK, kinK, kin_app k (by omega), ev_app1 (by omega)]
theorem atL_bump {L : List Int} {j i : Nat} (hj : j < L.length) : atL (L.set j (atL L j + 1)) i = atL L i + (if j = i then 1 else 0) := by
  by_cases h : j = i
  · subst h
    rw [if_pos rfl]
    unfold atL
    rw [List.getElem?_set_self hj]; rfl
  · rw [if_neg h]
    unfold atL
    rw [List.getElem?_set_ne h]; omega
theorem kin_step (l : List Ev) (k i : Nat) : atL (kinK l (k + 1)) i = atL (kinK l k) i + (if kxF (evA l k).kind = i then 1 else 0) := by
  rw [kinK, atL_bump (by rw [kinK_length]; exact kx_lt _)]
theorem kin_add {a b : List Ev} (i : Nat) : ∀ k, atL (kinK (a ++ b) (a.length + k)) i = atL (kinK a a.length) i + atL (kinK b k) i
  | 0 => by
    rw [Nat.add_zero, kin_app a.length (Nat.le_refl _)]
    have : atL (kinK b 0) i = 0 := by
      unfold atL kinK
      rw [List.getElem?_replicate]
      split <;> rfl
    omega
  | k + 1 => by
    have ih := kin_add (a := a) (b := b) i k
    rw [← Nat.add_assoc, kin_step, kin_step, ev_app2, ih]
    omega
def ctAdd (x y : Ct) : Ct := ⟨x.a + y.a, x.b + y.b, x.r + y.r, x.d + y.d, x.e + y.e⟩
theorem bump_add (x y : Ct) (k : Int) : bumpF (ctAdd x y) k = ctAdd x (bumpF y k) := by
  unfold bumpF
  by_cases h4 : k = 4
  · simp [h4, ctAdd, Int.add_assoc]
  by_cases h6 : k = 6
  · simp [h6, ctAdd, Int.add_assoc]
  by_cases h5 : k = 5
  · simp [h5, ctAdd, Int.add_assoc]
  by_cases h12 : k = 12
  · simp [h12, ctAdd, Int.add_assoc]
  by_cases h8 : k = 8
  · simp [h8, ctAdd, Int.add_assoc]
  simp [h4, h6, h5, h12, h8]
theorem rlock_app {a b : List Ev} (q : Int) : ∀ k, k ≤ a.length → rlockK (a ++ b) q k = rlockK a q k
  | 0, _ => rfl
  | k + 1, h => by rw [rlockK, rlockK, rlock_app q k (by omega), ev_app1 (by omega)]
theorem rlock_add {a b : List Ev} (q : Int) : ∀ k, rlockK (a ++ b) q (a.length + k) = ctAdd (rlockK a q a.length) (rlockK b q k)
  | 0 => by
    rw [Nat.add_zero, rlock_app q a.length (Nat.le_refl _), show rlockK b q 0 = ⟨0, 0, 0, 0, 0⟩ from rfl]
    simp [ctAdd]
  | k + 1 => by
    have ih := rlock_add (a := a) (b := b) q k
    rw [← Nat.add_assoc, rlockK, rlockK, ev_app2, ih]
    split
    · exact bump_add _ _ _
    · rfl
end Go.Proofs.Ytdeejiiegmddaaa
