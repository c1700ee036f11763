/-
  Layer 04 (heaps), at this dump: heaps of ints: Len, take. No condition.
-/
import Derived.Test.YtjhjkchcjpijaaaHpL
import Derived.Test.YtjhjkchcjpijaaaOwnCut
namespace Go.Proofs.Ytjhjkchcjpijaaa.HpI
open Go Go.RowKit Go.Proofs.Ytjhjkchcjpijaaa
section
variable {B : Nat} {w w' : World} {b mb : Nat} {most : Int} {l L : List (Hp.It A)}
set_option maxRecDepth 100000 in
set_option maxHeartbeats 4000000 in
theorem Len_any (h : HP B w b mb most L) : Calls Try.prog 36 #[.pointer (some ⟨b, 0, none⟩)] w (fun e w' => e = .returned (.int .i64 L.length) ∧ w' = w) := by
  obtain ⟨l, h1, h2, h3⟩ := h.ex
  obtain ⟨a, c, q0, q1, q2, -⟩ := h1.cells
  have HL := hid h3.length_eq
  obtain ⟨n, en⟩ : ∃ n, l.length = n := ⟨_, rfl⟩
  have EN := hid en
  rw [en] at q1
  clear h h1 h2 h3 en
  go_enter Try.func36, Try.ntmps36
  go_wp2_with fail
  go_ret
  exact ⟨by rw [← HL.out, EN.out]; rfl, rfl⟩
theorem HAt.outside (h : HAt B w b mb most l) {q : Nat} (hq : ¬ hF b mb w q) (o : Nat) (v : Value) : HAt B (w.setCell ⟨q, o, none⟩ v) b mb most l := by
  obtain ⟨a, c, h1, h2⟩ := h.ex
  have e1 : b ≠ q := fun e => hq (.inl e.symm)
  have e2 : mb ≠ q := fun e => hq (.inr (.inl e.symm))
  refine ⟨h.big, h.mbig, ⟨a, c, Rec.set_other h1 (p := ⟨q, o, none⟩) (fun e => e1 e.symm) v, h2.1, ?_⟩, h.mp.block (heap_setCell_other _ _ _ _ e2)⟩
  rcases h2.2 with h3 | ⟨g, cap, cur, hv, hg, hh, hr⟩
  · exact .inl h3
  · have hv' := hv
    injection hv' with ea
    refine .inr ⟨g, cap, cur, hv, hg, (heap_setCell_other _ _ _ _ (fun e => hq (.inr (.inr ⟨l.length, c, ?_⟩)))).trans hh, hr⟩
    rw [Rec.cell h1 1, ea]
    have e3 : g = q := e
    rw [e3]
    rfl
theorem hF_later {q : Nat} (hk : HKept b mb w w') (hn : ¬ hF b mb w q) (hq : q < w.heap.size) : ¬ hF b mb w' q := by
  rintro (h | h | h)
  · exact hn (.inl h)
  · exact hn (.inr (.inl h))
  · exact hn (.inr (.inr (hk.row q h)))
theorem row_set {q o : Nat} {v : Value} (hne : b ≠ q) {g : Nat} (h : rowOf b (w.setCell ⟨q, o, none⟩ v) g) : rowOf b w g := row_same (heap_setCell_other _ _ _ _ hne) h
end

end Go.Proofs.Ytjhjkchcjpijaaa.HpI
