/-
  Layer 04 (heaps), at this dump: what a loop over an iterator asks of a heap of ints. No condition.
-/
import Derived.Test.YtjhjkchcjpijaaaHpP
import Derived.Test.YtjhjkchcjpijaaaRangeJ
namespace Go.Proofs.Ytjhjkchcjpijaaa.HpI
open Go Go.RowKit Go.Proofs.Ytjhjkchcjpijaaa
def tyAt (w : World) (k : Nat) : Option TypeId := match w.heap[k]? with | some (.cells _ t _) => some t | _ => none
section
variable {B : Nat} {w w' : World} {b mb : Nat} {most : Int} {l L : List (Hp.It A)}
theorem own_ty {B e : Nat} {s n : Nat} {v : Value} {xs : List Value} {g : Nat} (h : w.ownsRow B e s v n xs) (hg : v.ownBlock = some g) : tyAt w g = some e := by
  rcases h.2 with ⟨e0, _⟩ | ⟨g', cap, cur, e0, _, hh, _⟩
  · rw [e0] at hg; simp [Value.ownBlock] at hg
  · rw [e0] at hg
    simp only [Value.ownBlock, Option.some.injEq] at hg
    subst hg
    unfold tyAt; rw [hh]
theorem rec_ty {t : TypeId} {cs : Array Value} {g : Nat} (h : Rec w g t cs) : tyAt w g = some t := by
  have : w.heap[g]? = some (.cells cs t (0, 0)) := h
  unfold tyAt; rw [this]
theorem hF_ty (h : HP B w b mb most L) {k : Nat} (hk : hF b mb w k) : tyAt w k = some tH ∨ tyAt w k = none ∨ tyAt w k = some tI := by
  obtain ⟨l, a1, a2, a3⟩ := h.ex
  obtain ⟨a, c, h1, h2⟩ := a1.ex
  rcases hk with rfl | rfl | ⟨n', c', hk⟩
  · exact .inl (rec_ty h1)
  · obtain ⟨D, ⟨es, clock, hb, _⟩, _⟩ := a1.mp
    refine .inr (.inl ?_)
    unfold tyAt; rw [hb]
  · rw [Rec.cell h1 1] at hk
    simp at hk
    obtain ⟨rfl, -, -⟩ := hk
    exact .inr (.inr (own_ty h2 rfl))
theorem own_kept {X : Nat → Prop} {B e : Nat} {s n : Nat} {v : Value} {xs : List Value} (h : w.ownsRow B e s v n xs) (hos : ∀ k, k < w.heap.size → ¬ X k → w'.heap[k]? = w.heap[k]?) (hn : ∀ g, v.ownBlock = some g → ¬ X g) : w'.ownsRow B e s v n xs := by
  refine ⟨h.1, ?_⟩
  rcases h.2 with h1 | ⟨g, cap, cur, hv, hg, hh, hr⟩
  · exact .inl h1
  · exact .inr ⟨g, cap, cur, hv, hg, (hos g (Array.getElem?_eq_some_iff.1 hh).1 (hn g (by rw [hv]; rfl))).trans hh, hr⟩
end

section
variable {B : Nat} {w w' : World} {b mb : Nat} {most : Int} {l L : List (Hp.It A)}
theorem HP.ks {X : Nat → Prop} (h : HP B w b mb most L) (hk : KS X w w') (hn : ∀ k, hF b mb w k → ¬ X k) : HP B w' b mb most L ∧ ∀ k, hF b mb w' k → hF b mb w k := by
  obtain ⟨l, a1, a2, a3⟩ := h.ex
  obtain ⟨a, c, h1, h2⟩ := a1.ex
  have e1 := hk.block b h1.lt (hn b (.inl rfl))
  refine ⟨⟨⟨l, ⟨a1.big, a1.mbig, ⟨a, c, e1.trans h1, h2.1, ?_⟩, a1.mp.block (hk.block mb a1.mp.lt (hn mb (.inr (.inl rfl))))⟩, a2, a3⟩, h.good⟩, fun k hf => ?_⟩
  · rcases h2.2 with h3 | ⟨g, cap, cur, hv, hg, hh, hr⟩
    · exact .inl h3
    · have hv' := hv
      injection hv' with ea
      refine .inr ⟨g, cap, cur, hv, hg, (hk.block g (Array.getElem?_eq_some_iff.1 hh).1 (hn g (.inr (.inr ⟨l.length, c, ?_⟩)))).trans hh, hr⟩
      rw [Rec.cell h1 1, ea]
      rfl
  · rcases hf with h | h | h
    · exact .inl h
    · exact .inr (.inl h)
    · exact .inr (.inr (row_same e1 h))
theorem hF_lt (h : HP B w b mb most L) {k : Nat} (hk : hF b mb w k) : B ≤ k ∧ k < w.heap.size := by
  obtain ⟨l, a1, a2, a3⟩ := h.ex
  obtain ⟨a, c, h1, h2⟩ := a1.ex
  rcases hk with h | h | ⟨n', c', h⟩
  · rw [h]; exact ⟨a1.big, a1.lt⟩
  · rw [h]; exact ⟨a1.mbig, a1.mp.lt⟩
  · rw [Rec.cell h1 1] at h
    simp at h
    obtain ⟨rfl, -, -⟩ := h
    exact h2.lt k rfl
theorem HKept.ks {M : Nat → Prop} (h : HKept b mb w w') (hM : ∀ k, hF b mb w k → M k) : KS M w w' := ⟨h.kept.os, h.kept.tape, h.kept.output, h.kept.size, fun k hk hn => h.kept.block k hk (fun hf => hn (hM k hf))⟩
theorem hF_kept (h : HKept b mb w w') {k : Nat} (hf : hF b mb w' k) : hF b mb w k := by
  rcases hf with e | e | e
  · exact .inl e
  · exact .inr (.inl e)
  · exact .inr (.inr (h.row k e))
end
end Go.Proofs.Ytjhjkchcjpijaaa.HpI
