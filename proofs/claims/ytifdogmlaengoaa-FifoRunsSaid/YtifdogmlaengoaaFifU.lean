/-
  Layer 05: two queues beside one another, and what else lies there (ints): a row beside them stays as it is. No condition.
-/
import Derived.Test.YtifdogmlaengoaaFifT
import Derived.Test.YtifdogmlaengoaaAppC
namespace Go.Proofs.Ytifdogmlaengoaa
open Go.RowKit
attribute [local go_sem] Oper.semAt_some
structure QK (B : Nat) (X : Nat → Prop) (w8 W : World) (b1 b2 : Nat) (m1 m2 t1 t2 : Int) (L1 L2 : List (Int × Int)) : Prop where
  sz : B ≤ w8.heap.size
  kp : Kept X w8 W
  ex : ∃ F1 F2, QA B W b1 F1 m1 t1 L1 ∧ QA B W b2 F2 m2 t2 L2 ∧ (∀ k, F1 k → ¬ F2 k) ∧ (∀ k, F1 k → X k ∨ w8.heap.size ≤ k) ∧ (∀ k, F2 k → X k ∨ w8.heap.size ≤ k)
section
variable {B : Nat} {X : Nat → Prop} {w0 w8 W W' : World} {b1 b2 : Nat} {m1 m2 t1 t2 t' : Int} {L1 L2 L' : List (Int × Int)}
theorem QK.size (h : QK B X w8 W b1 b2 m1 m2 t1 t2 L1 L2) : B ≤ W.heap.size := Nat.le_trans h.sz h.kp.size
theorem QK.swap (h : QK B X w8 W b1 b2 m1 m2 t1 t2 L1 L2) : QK B X w8 W b2 b1 m2 m1 t2 t1 L2 L1 := by
  obtain ⟨F1, F2, h1, h2, h3, h4, h5⟩ := h.ex
  exact ⟨h.sz, h.kp, F2, F1, h2, h1, fun k a b => h3 k b a, h5, h4⟩
theorem QK.act1 (h : QK B X w8 W b1 b2 m1 m2 t1 t2 L1 L2) {fn : FuncId} {args : Array Value} {r : Value}
    (hc : ∀ F, QA B W b1 F m1 t1 L1 → Calls Try.prog fn args W (fun e w' => e = .returned r ∧ QR B b1 F m1 t' L' W w')) : Calls Try.prog fn args W (fun e w' => e = .returned r ∧ QK B X w8 w' b1 b2 m1 m2 t' t2 L' L2) := by
  obtain ⟨F1, F2, h1, h2, h3, h4, h5⟩ := h.ex
  refine (hc F1 h1).mono ?_
  rintro _ w' ⟨rfl, F', g1, g2, g3⟩
  have hs := h.kp.size
  refine ⟨rfl, h.sz, h.kp.trans' g3 (fun i hi hF => ?_), F', F2, g1, h2.kept g3 (fun k a b => h3 k b a), fun k a b => ?_, fun k a => ?_, h5⟩
  · rcases h4 i hF with g | g
    · exact g
    · omega
  · rcases g2 k a with g | g
    · exact h3 k g b
    · have := (h2.foot k b).2; omega
  · rcases g2 k a with g | g
    · exact h4 k g
    · exact .inr (Nat.le_trans hs g)
theorem QK.act2 (h : QK B X w8 W b1 b2 m1 m2 t1 t2 L1 L2) {fn : FuncId} {args : Array Value} {r : Value}
    (hc : ∀ F, QA B W b2 F m2 t2 L2 → Calls Try.prog fn args W (fun e w' => e = .returned r ∧ QR B b2 F m2 t' L' W w')) : Calls Try.prog fn args W (fun e w' => e = .returned r ∧ QK B X w8 w' b1 b2 m1 m2 t1 t' L1 L') :=
  (h.swap.act1 hc).mono fun _ _ g => ⟨g.1, g.2.swap⟩
theorem Q2.qk (h : Q2 B w0 W b1 b2 m1 m2 t1 t2 L1 L2) (hb : Below W.heap.size W W') : ∃ X : Nat → Prop, (∀ k, X k → B ≤ k ∧ k < W.heap.size) ∧ QK B X W' W' b1 b2 m1 m2 t1 t2 L1 L2 := by
  have hs := h.size
  obtain ⟨F1, F2, h1, h2, h3⟩ := h.ex
  refine ⟨fun k => F1 k ∨ F2 k, fun k hk => ?_, Nat.le_trans hs hb.size, Kept.refl _ _, F1, F2, h1.far hb, h2.far hb, h3, fun k hk => .inl (.inl hk), fun k hk => .inl (.inr hk)⟩
  rcases hk with g | g
  · exact h1.foot k g
  · exact h2.foot k g
theorem Cells.kept2 {A : Option Addr} {xs : List Value} (h : Cells W A xs) (hk : Kept X W W') (hn : ∀ a, A = some a → ¬ X a.block) : Cells W' A xs := fun hne => by
  obtain ⟨b, o, e, hc⟩ := h hne
  exact ⟨b, o, e, fun i v hi => hk.cell (hc i v hi) (show ¬ X b from hn _ e)⟩
theorem Cells.old {A : Option Addr} {xs : List Value} (h : Cells W A xs) (hB : W.heap.size ≤ B) (hW : Below W.heap.size W w8) (hk : Kept X w8 W') (hX : ∀ k, X k → B ≤ k) : Cells W' A xs :=
  h.below (hk.to_below hW hW.size (fun k hk => Nat.le_trans hB (hX k hk)))
end
theorem tkt_map : ∀ (t : Int) (l : List (Int × Int)), (tkt t l).map (·.2) = l.map (·.2)
  | _, [] => rfl
  | t, x :: l => by simp [tkt, tkt_map (t + 1) l]
theorem drop_snd {L : List (Int × Int)} {R : List Int} (h : L.map (·.2) = R) {i : Nat} (hi : i < R.length) : ∃ t, L.drop i = (t, atL R i) :: L.drop (i + 1) := by
  subst h
  have hi' : i < L.length := by simpa using hi
  refine ⟨L[i].1, ?_⟩
  rw [List.drop_eq_getElem_cons hi', show atL (L.map (·.2)) i = L[i].2 by simp [atL, hi']]
end Go.Proofs.Ytifdogmlaengoaa
