/-
  A region that only reads and calls what is pure, inside a fence; a make of a full row inside a fence. Plain laws. No condition.
-/
import Derived.Sort.BigQuietIn
import Derived.OwnWalkIn
import Derived.Test.YtolhbcgmlaodbaaHeapS
import Derived.Test.YtolhbcgmlaodbaaAppC
namespace Go
open Go.RowKit
theorem wpIn_region_past {F : Fence} {n : Nat} {P : Program} {id : Nat} {Q : Exit → Act → World → Prop} {a : Act} {w : World} {l : List Oper} (hro : F.round = none) (hm : P.follows .mixedOrders = true) (hB : Region.lexB .any l.toArray = true)
    (h : wpQuietIn F n P l.toArray (fun w' => ∃ x : Past, w' = w.past x) (fun a' => ∀ w', (∃ x : Past, w' = w.past x) → Q .normal a' w') l a) : (Code.region id l.toArray true).wpIn F n P Q a w :=
  wpIn_region_quiet (C := fun w' => ∃ x : Past, w' = w.past x) hro hm hB (past_of ⟨rfl, rfl, rfl, Nat.le_refl _, fun _ _ => rfl⟩) (by simpa using h)
theorem CallsIn.past_wide {n : Nat} {P : Program} {f : FuncId} {args : Array Value} {w : World} {v : Value} {x : Past} (h : Calls P f args (w.past x) (Gives v (w.past x))) : CallsIn Fence.wide n P f args (w.past x) fun e w'' => e = .returned v ∧ ∃ y : Past, w'' = w.past y :=
  callsIn_wide.2 (Calls.in_past h)
theorem wpListIn_make_full {F : Fence} {n : Nat} {P : Program} (w : World) {ops : Array Oper} {rest : List Oper} {o : Oper} {a : Act} {Q : Exit → Act → World → Prop}
    (hg : o.guard = none) (l c : Operand) (t : TypeId) (hop : o.op = Op.makeSlice t l c)
    (base : Nat) (e : TypeId) (i : TypeInfo) (z : Value) (size : Nat) (h1 : P.underlying t = some (.slice e)) (h2 : P.info? e = some i) (h3 : i.zero = some z) (h4 : i.size = size)
    (kl kc : IntKind) (m : Nat) (hl : a.eval l = .int kl (m : Int)) (hc : a.eval c = .int kc (m : Int)) (b2 : i.bytes * m ≤ 281474976710656) (b3 : m ≤ maxLen) (b4 : base ≤ w.heap.size)
    (hK : ∀ w', w'.ownsRow base e size (.slice (some ⟨w.heap.size, 0, none⟩) m m) m (madeCells z.cells (m * size)).toList → w.grownBy w' none → wpListIn F n P ops Q rest (a.put o.dst (.slice (some ⟨w.heap.size, 0, none⟩) m m)) w') :
    wpListIn F n P ops Q (o :: rest) a w := by
  refine wpListIn_plain hg fun K hK' => ?_
  obtain ⟨w', hrun, r1, r2⟩ := run_make_full (P := P) w base t e i z size h1 h2 h3 h4 kl kc m b2 b3 b4
  unfold Oper.wpIn
  refine ⟨?_, ?_⟩
  · simp [Oper.about, hop]
  · rw [Oper.semAt_plain F _ _ (by rw [hop]; intro c hc'; cases hc')]
    simp [execOp, hop, hl, hc, hrun, Result.andThen]
    exact hK' _ _ (hK w' r1 r2)
theorem own_rest {w w' : World} {base : Nat} {e : TypeId} {size n : Nat} {v : Value} {xs : List Value} (h : w.ownsRow base e size v n xs) (hb : ∀ k, base ≤ k → k < w.heap.size → w'.heap[k]? = w.heap[k]?) : w'.ownsRow base e size v n xs := by
  refine ⟨h.1, ?_⟩
  rcases h.2 with h1 | ⟨g, cap, cur, hv, hg, hh, hr⟩
  · exact .inl h1
  · have hlt : g < w.heap.size := by
      rcases Nat.lt_or_ge g w.heap.size with h' | h'
      · exact h'
      · rw [Array.getElem?_eq_none h'] at hh; cases hh
    exact .inr ⟨g, cap, cur, hv, hg, by rw [hb g hg hlt]; exact hh, hr⟩
@[go_sem] theorem wide_fn (f : FuncId) : Fence.wide.fn f = True := eq_true trivial
end Go
