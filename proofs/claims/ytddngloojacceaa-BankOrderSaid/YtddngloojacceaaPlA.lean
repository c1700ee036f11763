/-
  Layer 44: what serving comes to: who is served can be, by what is free and what those ahead had; of the others none can. Plain laws. No condition.
-/
import Derived.Test.YtddngloojacceaaRfF
namespace Go.Proofs.Ytddngloojacceaa
open Go Go.RowKit
/-- What is free, behind those that were served. -/
def freeA (x : Bk) (F : List Int) (out : List Int) : List Int := out.foldl (fun f i => plusF f (hasR x i.toNat) 1) F
theorem freeA_snoc (x : Bk) (F out : List Int) (i : Int) : freeA x F (out ++ [i]) = plusF (freeA x F out) (hasR x i.toNat) 1 := by simp [freeA]
theorem freeA_length (x : Bk) (F : List Int) : ∀ out : List Int, (freeA x F out).length = F.length := fun out => by
  unfold freeA
  induction out generalizing F with
  | nil => rfl
  | cons a l ih => rw [List.foldl_cons, ih, plusF_length]
/-- An order in which each can be served. -/
def CanAll (x : Bk) (k nh : Nat) (F : List Int) (l : List Int) : Prop := ∀ (A B : List Int) (i : Int), l = A ++ i :: B → ∃ t : Nat, i = t ∧ t < nh ∧ A.contains i = false ∧ canK x (freeA x F A) t k = true
theorem CanAll.snoc {x : Bk} {k nh : Nat} {F l : List Int} (h : CanAll x k nh F l) {t : Nat} (ht : t < nh) (hc : l.contains (t : Int) = false) (hk : canK x (freeA x F l) t k = true) : CanAll x k nh F (l ++ [(t : Int)]) := fun A B i e => by
  rcases List.append_eq_append_iff.1 e with ⟨C, h1, h2⟩ | ⟨C, h1, h2⟩
  · cases C with
    | nil =>
      simp at h2
      obtain ⟨rfl, rfl⟩ := h2
      simp at h1
      subst h1
      exact ⟨t, rfl, ht, hc, hk⟩
    | cons c C =>
      exfalso
      have := congrArg List.length h2
      simp at this
  · cases C with
    | nil =>
      simp at h1 h2
      subst h1
      obtain ⟨rfl, rfl⟩ := h2
      exact ⟨t, rfl, ht, hc, hk⟩
    | cons c C =>
      simp only [List.cons_append, List.cons.injEq] at h2
      obtain ⟨rfl, rfl⟩ := h2
      exact h A C i h1
structure Served (x : Bk) (k nh : Nat) (F r : List Int) : Prop where
  all : CanAll x k nh F r
  len : (stuckK r nh).length + r.length = nh
  non : ∀ t : Nat, t < nh → r.contains (t : Int) = false → canK x (freeA x F r) t k = false
theorem findIdx?_split {p : Int → Bool} {nh : Nat} {out : List Int} {j : Nat} (h : (stuckK out nh).findIdx? p = some j) : ∃ t : Nat, atL (stuckK out nh) j = t ∧ t < nh ∧ out.contains (t : Int) = false ∧ p t = true ∧ ∀ s : Nat, s < t → out.contains (s : Int) = false → p s = false := by
  obtain ⟨hj, h1, h2⟩ := List.findIdx?_eq_some_iff_getElem.1 h
  obtain ⟨v, ev⟩ : ∃ v, (stuckK out nh)[j] = v := ⟨_, rfl⟩
  have hm : v ∈ stuckK out nh := by rw [← ev]; exact List.getElem_mem hj
  rw [ev] at h1
  have hm2 := hm
  unfold stuckK at hm2
  obtain ⟨h3, h4⟩ := List.mem_filter.1 hm2
  obtain ⟨t, rfl, ht⟩ := mem_iota.1 h3
  have hc : out.contains (t : Int) = false := by simpa using h4
  refine ⟨t, by simp [atL, hj, ev], ht, hc, h1, fun s hs hsc => ?_⟩
  have hs2 : (s : Int) ∈ stuckK out nh := by
    unfold stuckK
    exact List.mem_filter.2 ⟨mem_iota.2 ⟨s, rfl, by omega⟩, by rw [hsc]; rfl⟩
  obtain ⟨q, hq, e2⟩ := List.mem_iff_getElem.1 hs2
  by_cases hqj : q < j
  · have h5 := h2 q hqj
    rw [e2] at h5
    simpa using h5
  · exfalso
    have hp : (stuckK out nh).Pairwise (· < ·) := by
      unfold stuckK iota
      refine List.Pairwise.filter _ ?_
      rw [List.pairwise_map]
      exact List.pairwise_lt_range.imp (fun h => by omega)
    by_cases e3 : q = j
    · subst e3; rw [ev] at e2; omega
    · have := List.pairwise_iff_getElem.1 hp j q hj hq (by omega)
      rw [ev, e2] at this
      omega
theorem serve_spec (x : Bk) (k nh : Nat) (F : List Int) : ∀ (m : Nat) (out : List Int), m = (stuckK out nh).length → (stuckK out nh).length + out.length = nh → CanAll x k nh F out → Served x k nh F (serveN x k m (freeA x F out) (stuckK out nh) out)
  | 0, out, hm, hl, hc => by
    refine ⟨hc, hl, fun t ht hn => ?_⟩
    exfalso
    have : (t : Int) ∈ stuckK out nh := by
      unfold stuckK
      exact List.mem_filter.2 ⟨mem_iota.2 ⟨t, rfl, ht⟩, by rw [show out.contains (t : Int) = false from hn]; rfl⟩
    rw [List.length_eq_zero_iff.1 hm.symm] at this
    cases this
  | m + 1, out, hm, hl, hc => by
    cases hf : (stuckK out nh).findIdx? (fun i => canK x (freeA x F out) i.toNat k) with
    | none =>
      rw [serveN_none hf]
      refine ⟨hc, hl, fun t ht hn => ?_⟩
      have := List.findIdx?_eq_none_iff.1 hf (t : Int) (by
        unfold stuckK
        exact List.mem_filter.2 ⟨mem_iota.2 ⟨t, rfl, ht⟩, by rw [hn]; rfl⟩)
      simpa using this
    | some j =>
      obtain ⟨t, e, ht, hn, hp, hb⟩ := findIdx?_split hf
      obtain ⟨j2, g1, g2, g3⟩ := stuck_step (p := fun i => canK x (freeA x F out) i.toNat k) ht hn hp hb
      rw [hf] at g1
      injection g1 with g1
      subst g1
      have hj := find_lt hf
      have hl2 : (stuckK (out ++ [(t : Int)]) nh).length = m := by rw [← g3, List.length_eraseIdx, if_pos hj]; omega
      rw [serveN_some hf, e, g3, ← freeA_snoc]
      refine serve_spec x k nh F m _ hl2.symm ?_ (hc.snoc ht hn (by simpa using hp))
      rw [hl2]
      simp
      omega
theorem served_spec (x : Bk) : Served x x.F.2.2.length x.H.length x.F.2.2 (servedF x) := by
  have := serve_spec x x.F.2.2.length x.H.length x.F.2.2 x.H.length [] (by rw [stuckK_nil, iota_length]) (by rw [stuckK_nil, iota_length]; rfl) (fun A B i e => by simp at e)
  rw [stuckK_nil] at this
  exact this
end Go.Proofs.Ytddngloojacceaa
