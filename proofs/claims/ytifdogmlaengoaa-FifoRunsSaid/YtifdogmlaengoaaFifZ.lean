/-
  Layer 05: both queues, the program's and the document's, and what each call makes of them. No condition.
-/
import Derived.Test.YtifdogmlaengoaaFifPK
import Derived.Test.YtifdogmlaengoaaFifO
import Derived.Test.YtifdogmlaengoaaFifJ
import Derived.Test.YtifdogmlaengoaaPairO
namespace Go.Proofs.Ytifdogmlaengoaa
open Go.RowKit
abbrev qO (B : Nat) (b : Nat) (m t : Int) (L : List (Int × Int)) : Ob := fun W F => QA B W b F m t L
abbrev dO (B : Nat) (r : Nat) (m t : Int) (L : List (Int × Int)) : Ob := fun W F => DA B W r F m t L
theorem qO_is {B b : Nat} {m t : Int} {L : List (Int × Int)} : IsO B (qO B b m t L) := ⟨fun h hk hX => h.kept hk hX, fun h hF => h.foot _ hF⟩
theorem dO_is {B r : Nat} {m t : Int} {L : List (Int × Int)} : IsO B (dO B r m t L) := ⟨fun h hk hX => h.kept hk hX, fun h hF => h.foot _ hF⟩
def updB {α : Type} (f : Bool → α) (i : Bool) (v : α) : Bool → α := fun k => bif k == i then v else f k
theorem updB_same {α : Type} (f : Bool → α) (i : Bool) (v : α) : updB f i v i = v := by simp [updB]
theorem updB_self {α : Type} (f : Bool → α) (i : Bool) : updB f i (f i) = f := by funext k; cases k <;> cases i <;> rfl
abbrev stO (B : Nat) (b r : Bool → Nat) (m tq : Bool → Int) (Lq : Bool → List (Int × Int)) (td : Bool → Int) (Ld : Bool → List (Int × Int)) : Ob :=
  Pr (Pr (qO B (b false) (m false) (tq false) (Lq false)) (qO B (b true) (m true) (tq true) (Lq true))) (Pr (dO B (r false) (m false) (td false) (Ld false)) (dO B (r true) (m true) (td true) (Ld true)))
abbrev St2 (B : Nat) (X : Nat → Prop) (w8 W : World) (b r : Bool → Nat) (m tq : Bool → Int) (Lq : Bool → List (Int × Int)) (td : Bool → Int) (Ld : Bool → List (Int × Int)) : Prop := Kp B (stO B b r m tq Lq td Ld) X w8 W
theorem stO_is {B : Nat} {b r : Bool → Nat} {m tq : Bool → Int} {Lq : Bool → List (Int × Int)} {td : Bool → Int} {Ld : Bool → List (Int × Int)} : IsO B (stO B b r m tq Lq td Ld) := Pr.isO (Pr.isO qO_is qO_is) (Pr.isO dO_is dO_is)
section
variable {B : Nat} {X : Nat → Prop} {w8 W W' : World} {b r : Bool → Nat} {m tq : Bool → Int} {Lq : Bool → List (Int × Int)} {td : Bool → Int} {Ld : Bool → List (Int × Int)} {t' : Int} {L' : List (Int × Int)}
theorem St2.fr (h : St2 B X w8 W b r m tq Lq td Ld) (hb : Below W.heap.size W W') : St2 B X w8 W' b r m tq Lq td Ld := Kp.far stO_is h hb
theorem St2.qa (h : St2 B X w8 W b r m tq Lq td Ld) (i : Bool) : ∃ F, QA B W (b i) F (m i) (tq i) (Lq i) := by
  obtain ⟨F, ⟨F1, F2, ⟨F3, F4, a1, a2, _⟩, _⟩, _⟩ := h.ex
  cases i
  · exact ⟨_, a1⟩
  · exact ⟨_, a2⟩
theorem St2.da (h : St2 B X w8 W b r m tq Lq td Ld) (i : Bool) : ∃ F, DA B W (r i) F (m i) (td i) (Ld i) := by
  obtain ⟨F, ⟨F1, F2, _, ⟨F3, F4, a1, a2, _⟩, _⟩, _⟩ := h.ex
  cases i
  · exact ⟨_, a1⟩
  · exact ⟨_, a2⟩
theorem St2.qact (h : St2 B X w8 W b r m tq Lq td Ld) (i : Bool) {fn : FuncId} {args : Array Value} {v : Value} (hc : ∀ F, QA B W (b i) F (m i) (tq i) (Lq i) → Calls Try.prog fn args W (fun e w' => e = .returned v ∧ QR B (b i) F (m i) t' L' W w')) :
    Calls Try.prog fn args W (fun e w' => e = .returned v ∧ St2 B X w8 w' b r m (updB tq i t') (updB Lq i L') td Ld) := by
  refine h.act (fun F hF => Pr.act1 (Pr.isO dO_is dO_is) hF (fun F1 h1 => ?_))
  cases i
  · exact Pr.act1 (O1' := qO B (b false) (m false) t' L') qO_is h1 (fun F hF => hc F hF)
  · exact Pr.act2 (O2' := qO B (b true) (m true) t' L') qO_is h1 (fun F hF => hc F hF)
theorem St2.dact (h : St2 B X w8 W b r m tq Lq td Ld) (i : Bool) {fn : FuncId} {args : Array Value} {v : Value} (hc : ∀ F, DA B W (r i) F (m i) (td i) (Ld i) → Calls Try.prog fn args W (fun e w' => e = .returned v ∧ DR B (r i) F (m i) t' L' W w')) :
    Calls Try.prog fn args W (fun e w' => e = .returned v ∧ St2 B X w8 w' b r m tq Lq (updB td i t') (updB Ld i L')) := by
  refine h.act (fun F hF => Pr.act2 (Pr.isO qO_is qO_is) hF (fun F1 h1 => ?_))
  cases i
  · exact Pr.act1 (O1' := dO B (r false) (m false) t' L') dO_is h1 (fun F hF => hc F hF)
  · exact Pr.act2 (O2' := dO B (r true) (m true) t' L') dO_is h1 (fun F hF => hc F hF)
end
/-! Pour, as an act on a pair. -/
theorem prq_pour {B : Nat} {W : World} {F : Nat → Prop} {b1 b2 : Nat} {m1 m2 t1 t2 : Int} {L1 L2 : List (Int × Int)} (hB : B ≤ W.heap.size) (h : Pr (qO B b1 m1 t1 L1) (qO B b2 m2 t2 L2) W F) (ht1 : t1 ≤ 1000000) (ht2 : t2 + 5000 ≤ 1000000) (hL1 : L1.length ≤ 5000) (hL2 : L2.length ≤ 5000) (n : Int) (hn : I64 n) :
    Calls Try.prog 9 #[.pointer (some ⟨b1, 0, none⟩), .pointer (some ⟨b2, 0, none⟩), .int .i64 n] W (fun e w' => e = .returned (.int .i64 (pourN n m2 L1 L2 : Int)) ∧ After (Pr (qO B b1 m1 t1 (L1.drop (pourN n m2 L1 L2))) (qO B b2 m2 (t2 + pourN n m2 L1 L2) (L2 ++ tkt t2 (L1.take (pourN n m2 L1 L2))))) F W w') := by
  obtain ⟨F1, F2, a1, a2, a3, a4⟩ := h
  have hq : QK B F W W b1 b2 m1 m2 t1 t2 L1 L2 := ⟨hB, Kept.refl _ _, F1, F2, a1, a2, a3, fun k h => .inl ((a4 k).2 (.inl h)), fun k h => .inl ((a4 k).2 (.inr h))⟩
  refine (PourK_any hq ht1 ht2 hL1 hL2 n hn).mono ?_
  rintro _ w' ⟨rfl, h⟩
  obtain ⟨G1, G2, c1, c2, c3, c4, c5⟩ := h.ex
  exact ⟨rfl, fun k => G1 k ∨ G2 k, ⟨G1, G2, c1, c2, c3, fun k => Iff.rfl⟩, fun k hk => hk.elim (c4 k) (c5 k), h.kp⟩
theorem prd_pour {B : Nat} {W : World} {F : Nat → Prop} {b1 b2 : Nat} {m1 m2 t1 t2 : Int} {L1 L2 : List (Int × Int)} (hB : B ≤ W.heap.size) (h : Pr (dO B b1 m1 t1 L1) (dO B b2 m2 t2 L2) W F) (ht1 : 0 ≤ t2) (ht2 : t2 + 5000 ≤ 1000000) (hL1 : L1.length ≤ 2000) (hL2 : L2.length ≤ 2000) (n : Int) :
    Calls Try.prog 18 #[.pointer (some ⟨b1, 0, none⟩), .pointer (some ⟨b2, 0, none⟩), .int .i64 n] W (fun e w' => e = .returned (.int .i64 (pourN n m2 L1 L2 : Int)) ∧ After (Pr (dO B b1 m1 t1 (L1.drop (pourN n m2 L1 L2))) (dO B b2 m2 (t2 + pourN n m2 L1 L2) (L2 ++ tkt t2 (L1.take (pourN n m2 L1 L2))))) F W w') := by
  obtain ⟨F1, F2, a1, a2, a3, a4⟩ := h
  have hq : DK B F W W b1 b2 m1 m2 t1 t2 L1 L2 := ⟨hB, Kept.refl _ _, F1, F2, a1, a2, a3, fun k h => .inl ((a4 k).2 (.inl h)), fun k h => .inl ((a4 k).2 (.inr h))⟩
  refine (DPour_any hq ht1 ht2 hL1 hL2 n).mono ?_
  rintro _ w' ⟨rfl, h⟩
  obtain ⟨G1, G2, c1, c2, c3, c4, c5⟩ := h.ex
  exact ⟨rfl, fun k => G1 k ∨ G2 k, ⟨G1, G2, c1, c2, c3, fun k => Iff.rfl⟩, fun k hk => hk.elim (c4 k) (c5 k), h.kp⟩
/-- What a pour leaves. -/
def pourT (n : Int) (m t : Bool → Int) (L : Bool → List (Int × Int)) (i : Bool) : Bool → Int := fun k => bif k == i then t k else t k + pourN n (m (!i)) (L i) (L (!i))
def pourL (n : Int) (m t : Bool → Int) (L : Bool → List (Int × Int)) (i : Bool) : Bool → List (Int × Int) := fun k => bif k == i then (L i).drop (pourN n (m (!i)) (L i) (L (!i))) else L (!i) ++ tkt (t (!i)) ((L i).take (pourN n (m (!i)) (L i) (L (!i))))
section
variable {B : Nat} {X : Nat → Prop} {w8 W W' : World} {b r : Bool → Nat} {m tq : Bool → Int} {Lq : Bool → List (Int × Int)} {td : Bool → Int} {Ld : Bool → List (Int × Int)}
theorem St2.qpour (h : St2 B X w8 W b r m tq Lq td Ld) (i : Bool) (ht : ∀ k, tq k + 5000 ≤ 1000000) (hL : ∀ k, (Lq k).length ≤ 2000) (n : Int) (hn : I64 n) :
    Calls Try.prog 9 #[.pointer (some ⟨b i, 0, none⟩), .pointer (some ⟨b (!i), 0, none⟩), .int .i64 n] W (fun e w' => e = .returned (.int .i64 (pourN n (m (!i)) (Lq i) (Lq (!i)) : Int)) ∧ St2 B X w8 w' b r m (pourT n m tq Lq i) (pourL n m tq Lq i) td Ld) := by
  refine h.act (fun F hF => Pr.act1 (Pr.isO dO_is dO_is) hF (fun F1 h1 => ?_))
  have h0 := ht false
  have h1' := ht true
  have h2 := hL false
  have h3 := hL true
  cases i
  · exact prq_pour h.size h1 (by omega) h1' (by omega) (by omega) n hn
  · exact (prq_pour h.size h1.swap (by omega) h0 (by omega) (by omega) n hn).mono fun _ _ g => ⟨g.1, g.2.swap⟩
theorem St2.dpour (h : St2 B X w8 W b r m tq Lq td Ld) (i : Bool) (ht0 : ∀ k, 0 ≤ td k) (ht : ∀ k, td k + 5000 ≤ 1000000) (hL : ∀ k, (Ld k).length ≤ 2000) (n : Int) :
    Calls Try.prog 18 #[.pointer (some ⟨r i, 0, none⟩), .pointer (some ⟨r (!i), 0, none⟩), .int .i64 n] W (fun e w' => e = .returned (.int .i64 (pourN n (m (!i)) (Ld i) (Ld (!i)) : Int)) ∧ St2 B X w8 w' b r m tq Lq (pourT n m td Ld i) (pourL n m td Ld i)) := by
  refine h.act (fun F hF => Pr.act2 (Pr.isO qO_is qO_is) hF (fun F1 h1 => ?_))
  cases i
  · exact prd_pour h.size h1 (ht0 true) (ht true) (hL false) (hL true) n
  · exact (prd_pour h.size h1.swap (ht0 false) (ht false) (hL true) (hL false) n).mono fun _ _ g => ⟨g.1, g.2.swap⟩
end
end Go.Proofs.Ytifdogmlaengoaa
