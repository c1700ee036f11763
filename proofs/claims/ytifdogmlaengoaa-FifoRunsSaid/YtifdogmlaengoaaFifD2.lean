/-
  Layer 05: the deeds: what each leaves in both, and that both answer alike. No condition.
-/
import Derived.Test.YtifdogmlaengoaaFifZ
namespace Go.Proofs.Ytifdogmlaengoaa
open Go.RowKit
/-- How long, and how high the tickets are. -/
def Bd (n : Nat) (t : Bool → Int) (L : Bool → List (Int × Int)) : Prop := (L false).length + (L true).length ≤ n ∧ ∀ k, 0 ≤ t k ∧ t k ≤ 200 * n
section
variable {B n : Nat} {X : Nat → Prop} {w8 W W' : World} {b r : Bool → Nat} {m t : Bool → Int} {L : Bool → List (Int × Int)}
theorem Bd.len (h : Bd n t L) (i : Bool) : (L i).length ≤ n := by have := h.1; cases i <;> omega
theorem Bd.succ (h : Bd n t L) : Bd (n + 1) t L := ⟨by have := h.1; omega, fun k => by have := h.2 k; omega⟩
theorem Bd.upd (h : Bd n t L) (i : Bool) {t' : Int} {L' : List (Int × Int)} (h1 : t i ≤ t') (h2 : t' ≤ t i + 1) (h3 : L'.length ≤ (L i).length + 1) : Bd (n + 1) (updB t i t') (updB L i L') := by
  refine ⟨?_, fun k => ?_⟩
  · have := h.1
    cases i
    · show L'.length + (L true).length ≤ n + 1; omega
    · show (L false).length + L'.length ≤ n + 1; omega
  · have h4 := h.2 k
    have h5 := h.2 i
    cases hk : (k == i)
    · have : updB t i t' k = t k := by simp [updB, hk]
      rw [this]; omega
    · have : updB t i t' k = t' := by simp [updB, hk]
      rw [this]
      omega
theorem pourN_le (n m : Int) (L1 L2 : List (Int × Int)) : pourN n m L1 L2 ≤ L1.length := by unfold pourN; omega
theorem Bd.pour (h : Bd n t L) (hn : n ≤ 100) (V : Int) (i : Bool) : Bd (n + 1) (pourT V m t L i) (pourL V m t L i) := by
  have h1 := h.1
  have hK := pourN_le V (m (!i)) (L i) (L (!i))
  have hl := h.len i
  refine ⟨?_, fun k => ?_⟩
  · cases i
    · show ((L false).drop (pourN V (m true) (L false) (L true))).length + (L true ++ tkt (t true) ((L false).take (pourN V (m true) (L false) (L true)))).length ≤ n + 1
      rw [List.length_drop, List.length_append, tkt_length, List.length_take]; omega
    · show (L false ++ tkt (t false) ((L true).take (pourN V (m false) (L true) (L false)))).length + ((L true).drop (pourN V (m false) (L true) (L false))).length ≤ n + 1
      rw [List.length_drop, List.length_append, tkt_length, List.length_take]; omega
  · have h4 := h.2 k
    unfold pourT
    cases (k == i)
    · show 0 ≤ t k + (pourN V (m (!i)) (L i) (L (!i)) : Int) ∧ t k + (pourN V (m (!i)) (L i) (L (!i)) : Int) ≤ 200 * ((n + 1 : Nat) : Int)
      omega
    · show 0 ≤ t k ∧ t k ≤ 200 * ((n + 1 : Nat) : Int)
      omega
theorem deed_push (h : St2 B X w8 W b r m t L t L) (hb : Bd n t L) (hn : n ≤ 100) (i : Bool) (v : Int) : ∃ (x e : Int) (t' : Bool → Int) (L' : Bool → List (Int × Int)), Bd (n + 1) t' L' ∧
    Calls Try.prog 8 #[.pointer (some ⟨b i, 0, none⟩), .int .i64 v] W (fun e1 w' => e1 = .returned (.tuple #[.int .i64 x, .int .i64 e]) ∧ St2 B X w8 w' b r m t' L' t L) ∧
    ∀ W', St2 B X w8 W' b r m t' L' t L → Calls Try.prog 13 #[.pointer (some ⟨r i, 0, none⟩), .int .i64 v] W' (fun e1 w' => e1 = .returned (.tuple #[.int .i64 x, .int .i64 e]) ∧ St2 B X w8 w' b r m t' L' t' L') := by
  have hl := hb.len i
  have ht := hb.2 i
  by_cases hr : ((L i).length : Int) < m i
  · refine ⟨t i + 1, 0, updB t i (t i + 1), updB L i (L i ++ [(t i + 1, v)]), hb.upd i (by omega) (by omega) (by simp), ?_, fun W' h' => ?_⟩
    · exact h.qact i (fun F hF => QPush_any hF h.size (by omega) hr v)
    · exact h'.dact i (fun F hF => DPush_any hF h'.size (by omega) (by omega) (by omega) hr v)
  · refine ⟨0, 3, t, L, hb.succ, ?_, fun W' h' => ?_⟩
    · refine (h.qact i (t' := t i) (L' := L i) (fun F hF => QPushF_any hF h.size (by omega) (by omega) v)).mono ?_
      rintro _ w' ⟨rfl, g⟩
      rw [updB_self, updB_self] at g
      exact ⟨rfl, g⟩
    · refine (h'.dact i (t' := t i) (L' := L i) (fun F hF => DPushF_any hF (by omega) v)).mono ?_
      rintro _ w' ⟨rfl, g⟩
      rw [updB_self, updB_self] at g
      exact ⟨rfl, g⟩
theorem deed_pop (h : St2 B X w8 W b r m t L t L) (hb : Bd n t L) (hn : n ≤ 100) (i : Bool) : ∃ (x : Int) (ok : Bool) (L' : Bool → List (Int × Int)), Bd (n + 1) t L' ∧
    Calls Try.prog 11 #[.pointer (some ⟨b i, 0, none⟩)] W (fun e1 w' => e1 = .returned (.tuple #[.int .i64 x, .bool ok]) ∧ St2 B X w8 w' b r m t L' t L) ∧
    ∀ W', St2 B X w8 W' b r m t L' t L → Calls Try.prog 14 #[.pointer (some ⟨r i, 0, none⟩), .int .i64 0] W' (fun e1 w' => e1 = .returned (.tuple #[.int .i64 x, .bool ok]) ∧ St2 B X w8 w' b r m t L' t L') := by
  have hl := hb.len i
  have ht := hb.2 i
  cases hL : L i with
  | nil =>
    refine ⟨0, false, L, hb.succ, ?_, fun W' h' => ?_⟩
    · refine (h.qact i (t' := t i) (L' := L i) (fun F hF => by rw [hL] at hF ⊢; exact QPopN_any hF h.size)).mono ?_
      rintro _ w' ⟨rfl, g⟩
      rw [updB_self, updB_self] at g
      exact ⟨rfl, g⟩
    · obtain ⟨F, hF⟩ := h'.da i
      refine (DTakeN_any hF 0 (.inr (by rw [hL]; simp))).mono ?_
      rintro _ _ ⟨rfl, y, rfl⟩
      exact ⟨rfl, h'.fr (W'.below_past y)⟩
  | cons x R =>
    rw [hL] at hl
    simp only [List.length_cons] at hl
    refine ⟨x.2, true, updB L i R, ?_, ?_, fun W' h' => ?_⟩
    · have := hb.upd i (t' := t i) (L' := R) (by omega) (by omega) (by rw [hL]; simp; omega)
      rwa [updB_self] at this
    · refine (h.qact i (t' := t i) (L' := R) (fun F hF => by rw [hL] at hF; exact QPop_any hF h.size (by omega))).mono ?_
      rintro _ w' ⟨rfl, g⟩
      rw [updB_self] at g
      exact ⟨rfl, g⟩
    · refine (h'.dact i (t' := t i) (L' := R) (fun F hF => by rw [hL] at hF; exact DTake_any (i := 0) (x := x) hF h'.size (by simp; omega) rfl)).mono ?_
      rintro _ w' ⟨rfl, g⟩
      rw [updB_self] at g
      exact ⟨rfl, g⟩
theorem deed_rem (h : St2 B X w8 W b r m t L t L) (hb : Bd n t L) (hn : n ≤ 100) (i : Bool) (v : Int) (hv : I64 v) : ∃ (x : Int) (ok : Bool) (p : Int) (L' : Bool → List (Int × Int)), Bd (n + 1) t L' ∧
    Calls Try.prog 15 #[.pointer (some ⟨b i, 0, none⟩), .int .i64 v] W (fun e1 w' => e1 = .returned (.tuple #[.int .i64 x, .bool ok]) ∧ St2 B X w8 w' b r m t L' t L) ∧
    (∀ W', St2 B X w8 W' b r m t L' t L → Calls Try.prog 16 #[.pointer (some ⟨r i, 0, none⟩), .int .i64 v] W' (Gives (.int .i64 p) W')) ∧
    ∀ W', St2 B X w8 W' b r m t L' t L → Calls Try.prog 14 #[.pointer (some ⟨r i, 0, none⟩), .int .i64 p] W' (fun e1 w' => e1 = .returned (.tuple #[.int .i64 x, .bool ok]) ∧ St2 B X w8 w' b r m t L' t L') := by
  have hl := hb.len i
  have ht := hb.2 i
  rcases atF_cases (L i) v with ⟨hp, hno⟩ | ⟨j, x, hp, hx, rfl⟩
  · refine ⟨0, false, -1, L, hb.succ, ?_, fun W' h' => ?_, fun W' h' => ?_⟩
    · obtain ⟨F, hF⟩ := h.qa i
      refine (QRemoveN_any hF v hv hno).mono ?_
      rintro _ _ ⟨rfl, rfl⟩
      exact ⟨rfl, h⟩
    · obtain ⟨F, hF⟩ := h'.da i
      have := DAt_any hF (by omega) v
      rwa [hp] at this
    · obtain ⟨F, hF⟩ := h'.da i
      refine (DTakeN_any hF (-1) (.inl (by omega))).mono ?_
      rintro _ _ ⟨rfl, y, rfl⟩
      exact ⟨rfl, h'.fr (W'.below_past y)⟩
  · refine ⟨x.2, true, j, updB L i ((L i).eraseIdx j), ?_, ?_, fun W' h' => ?_, fun W' h' => ?_⟩
    · have := hb.upd i (t' := t i) (L' := (L i).eraseIdx j) (by omega) (by omega) (by have := List.length_eraseIdx_le (L i) j; omega)
      rwa [updB_self] at this
    · refine (h.qact i (t' := t i) (fun F hF => QRemove_any hF h.size (by omega) hx)).mono ?_
      rintro _ w' ⟨rfl, g⟩
      rw [updB_self] at g
      exact ⟨rfl, g⟩
    · obtain ⟨F, hF⟩ := h'.da i
      have := DAt_any hF (by omega) x.1
      rwa [hp] at this
    · refine (h'.dact i (t' := t i) (fun F hF => DTake_any hF h'.size (by omega) hx)).mono ?_
      rintro _ w' ⟨rfl, g⟩
      rw [updB_self] at g
      exact ⟨rfl, g⟩
theorem deed_get (h : St2 B X w8 W b r m t L t L) (hb : Bd n t L) (hn : n ≤ 100) (i : Bool) (v : Int) (hv : I64 v) :
    (∀ W', Below W.heap.size W W' → Calls Try.prog 17 #[.pointer (some ⟨b i, 0, none⟩), .int .i64 v] W' (Gives (.tuple #[.int .i64 0, .bool false]) W') ∧ Calls Try.prog 16 #[.pointer (some ⟨r i, 0, none⟩), .int .i64 v] W' (Gives (.int .i64 (-1)) W')) ∨
    ∃ (j : Nat) (x : Int) (g o k c : Nat), (∀ W', Below W.heap.size W W' → Calls Try.prog 17 #[.pointer (some ⟨b i, 0, none⟩), .int .i64 v] W' (Gives (.tuple #[.int .i64 x, .bool true]) W') ∧ Calls Try.prog 16 #[.pointer (some ⟨r i, 0, none⟩), .int .i64 v] W' (Gives (.int .i64 (j : Int)) W') ∧
      r i < W'.heap.size ∧ W'.cell? ⟨r i, 2, none⟩ = some (.slice (some ⟨g, o, none⟩) k c) ∧ W'.cell? ⟨g, o + j * 2 + 1, none⟩ = some (.int .i64 x)) ∧ j < k ∧ k ≤ 100 := by
  have hl := hb.len i
  have ht := hb.2 i
  obtain ⟨F, hF⟩ := h.qa i
  obtain ⟨G, hG⟩ := h.da i
  rcases atF_cases (L i) v with ⟨hp, hno⟩ | ⟨j, x, hp, hx, rfl⟩
  · refine .inl fun W' hW => ⟨QGetN_any (hF.far hW) v hv hno, ?_⟩
    have := DAt_any (hG.far hW) (by omega) v
    rwa [hp] at this
  · obtain ⟨A, c, -, -, q2, hrl, hc⟩ := hG.cells
    obtain ⟨g, o, rfl, -, c1⟩ := it_at hc hx
    refine .inr ⟨j, x.2, g, o, (L i).length, c, fun W' hW => ⟨QGet_any (hF.far hW) (by omega) hx, ?_, Nat.lt_of_lt_of_le hrl hW.size, below_cell hW (Nat.le_refl _) _ _ q2, below_cell hW (Nat.le_refl _) _ _ c1⟩, (List.getElem?_eq_some_iff.1 hx).1, by omega⟩
    have := DAt_any (hG.far hW) (by omega) x.1
    rwa [hp] at this
theorem deed_pour (h : St2 B X w8 W b r m t L t L) (hb : Bd n t L) (hn : n ≤ 100) (i : Bool) (v : Int) (hv : I64 v) : ∃ (K : Int) (t' : Bool → Int) (L' : Bool → List (Int × Int)), Bd (n + 1) t' L' ∧
    Calls Try.prog 9 #[.pointer (some ⟨b i, 0, none⟩), .pointer (some ⟨b (!i), 0, none⟩), .int .i64 v] W (fun e1 w' => e1 = .returned (.int .i64 K) ∧ St2 B X w8 w' b r m t' L' t L) ∧
    ∀ W', St2 B X w8 W' b r m t' L' t L → Calls Try.prog 18 #[.pointer (some ⟨r i, 0, none⟩), .pointer (some ⟨r (!i), 0, none⟩), .int .i64 v] W' (fun e1 w' => e1 = .returned (.int .i64 K) ∧ St2 B X w8 w' b r m t' L' t' L') := by
  have ht := hb.2
  have hl := hb.len
  refine ⟨(pourN v (m (!i)) (L i) (L (!i)) : Int), pourT v m t L i, pourL v m t L i, hb.pour hn v i, ?_, fun W' h' => ?_⟩
  · exact h.qpour i (fun k => by have := ht k; omega) (fun k => by have := hl k; omega) v hv
  · exact h'.dpour i (fun k => by have := ht k; omega) (fun k => by have := ht k; omega) (fun k => by have := hl k; omega) v
end
end Go.Proofs.Ytifdogmlaengoaa
