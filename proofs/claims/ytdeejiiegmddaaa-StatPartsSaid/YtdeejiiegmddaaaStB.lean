/-
  Layer 25: how many of each kind. No condition.
-/
import Derived.Test.YtdeejiiegmddaaaStA
namespace Go.Proofs.Ytdeejiiegmddaaa
open Go Go.RowKit
structure Ev where
  time : Int
  kind : Int
  task : Int
  lock : Int
  n : Int
instance : Inhabited Ev := ⟨⟨0, 0, 0, 0, 0⟩⟩
abbrev tEv : TypeId := 37
def evV (x : Ev) : List Value := [.int .u64 x.time, .int .i64 x.kind, .int .i64 x.task, .int .i64 x.lock, .int .i64 x.n]
theorem evV_length (x : Ev) : (evV x).length = 5 := rfl
def evA (l : List Ev) (k : Nat) : Ev := l[k]?.getD default
theorem ev_get {l : List Ev} {k : Nat} (h : k < l.length) : l[k]? = some (evA l k) := by simp [evA, h]
theorem ev_at {w : World} {A : Option Addr} {D : List Ev} (h : Cells w A (tab evV D)) {k : Nat} (hk : k < D.length) : ∃ g o : Nat, A = some ⟨g, o, none⟩ ∧ w.cell? ⟨g, o + k * 5, none⟩ = some (.int .u64 (evA D k).time) ∧ w.cell? ⟨g, o + k * 5 + 1, none⟩ = some (.int .i64 (evA D k).kind) ∧ w.cell? ⟨g, o + k * 5 + 2, none⟩ = some (.int .i64 (evA D k).task) ∧ w.cell? ⟨g, o + k * 5 + 3, none⟩ = some (.int .i64 (evA D k).lock) ∧ w.cell? ⟨g, o + k * 5 + 4, none⟩ = some (.int .i64 (evA D k).n) := by
  obtain ⟨g, o, rfl, hc⟩ := h.tab_at evV_length (ev_get hk) (by omega)
  exact ⟨g, o, rfl, by simpa using hc 0 _ rfl, hc 1 _ rfl, hc 2 _ rfl, hc 3 _ rfl, hc 4 _ rfl⟩
/-- Under which number a kind is counted. -/
def kxF (k : Int) : Nat := if 0 < k ∧ k < 15 then k.toNat else 0
theorem kx_lt (k : Int) : kxF k < 15 := by unfold kxF; split <;> omega
/-- Of the first ones, how many of each kind. -/
def kinK (l : List Ev) : Nat → List Int
  | 0 => List.replicate 15 0
  | k + 1 => (kinK l k).set (kxF (evA l k).kind) (atL (kinK l k) (kxF (evA l k).kind) + 1)
theorem kinK_length (l : List Ev) : ∀ k, (kinK l k).length = 15
  | 0 => rfl
  | k + 1 => by rw [kinK, List.length_set, kinK_length l k]
theorem kinK_in (l : List Ev) : ∀ (k i : Nat), 0 ≤ atL (kinK l k) i ∧ atL (kinK l k) i ≤ k
  | 0, i => by
    unfold atL
    rw [kinK, List.getElem?_replicate]
    split <;> simp
  | k + 1, i => by
    have h1 := kinK_in l k i
    have h2 := kinK_in l k (kxF (evA l k).kind)
    have e : atL (kinK l (k + 1)) i = if kxF (evA l k).kind = i then atL (kinK l k) (kxF (evA l k).kind) + 1 else atL (kinK l k) i := by
      have hk := kx_lt (evA l k).kind
      have hl := kinK_length l k
      rw [show atL (kinK l (k + 1)) i = ((kinK l k).set (kxF (evA l k).kind) (atL (kinK l k) (kxF (evA l k).kind) + 1))[i]?.getD 0 from rfl, List.getElem?_set]
      by_cases hi : kxF (evA l k).kind = i
      · rw [if_pos hi, if_pos hi, if_pos (by omega)]; rfl
      · rw [if_neg hi, if_neg hi]; rfl
    rw [e]
    split <;> omega
end Go.Proofs.Ytdeejiiegmddaaa
