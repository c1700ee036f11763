/-
  A region that only reads and calls what is pure, inside a fence, IN A ROUND of a loop over an iterator too: it holds no 'defer'. Plain laws. No condition.
-/
import Derived.Sort.BigQuietIn
import Derived.OwnWalkIn
import Derived.Test.YtngokihncjkiaaaDoorPast
import Derived.Test.YtngokihncjkiaaaDoorAppC
import Derived.Test.YtngokihncjkiaaaDoorRegTo
namespace Go
open Go.RowKit
theorem wpIn_region_past {F : Fence} {n : Nat} {P : Program} {id : Nat} {Q : Exit → Act → World → Prop} {a : Act} {w : World} {l : List Oper} (hro : F.round = none) (hm : P.follows .mixedOrders = true) (hB : Region.lexB .any l.toArray = true)
    (h : wpQuietIn F n P l.toArray (fun w' => ∃ x : Past, w' = w.past x) (fun a' => ∀ w', (∃ x : Past, w' = w.past x) → Q .normal a' w') l a) : (Code.region id l.toArray true).wpIn F n P Q a w :=
  wpIn_region_quiet (C := fun w' => ∃ x : Past, w' = w.past x) hro hm hB (past_of ⟨rfl, rfl, rfl, Nat.le_refl _, fun _ _ => rfl⟩) (by simpa using h)
theorem CallsIn.past_wide {n : Nat} {P : Program} {f : FuncId} {args : Array Value} {w : World} {v : Value} {x : Past} (h : Calls P f args (w.past x) (Gives v (w.past x))) : CallsIn Fence.wide n P f args (w.past x) fun e w'' => e = .returned v ∧ ∃ y : Past, w'' = w.past y :=
  callsIn_wide.2 (Calls.in_past h)
theorem wpListIn_make_full {F : Fence} {n : Nat} {P : Program} (w : World) {ops : Array Oper} {rest : List Oper} {o : Oper} {a : Act} {Q : Exit → Act → World → Prop}
    (hg : o.guard = none) (l c : Operand) (t : TypeId) (hop : o.op = Op.makeSlice t l c)
    (base : Nat) (e : TypeId) (i : TypeInfo) (z : Value) (size : Nat) (h1 : P.underlying t = some (.slice e)) (h2 : P.info? e = some i) (h3 : i.zero = some z) (h4 : i.size = size)
    (kl kc : IntKind) (m : Nat) (hl : a.eval l = .int kl (m : Int)) (hc : a.eval c = .int kc (m : Int)) (b2 : i.bytes * m ≤ 281474976710656) (b3 : m ≤ maxLen) (b4 : base ≤ w.heap.size)
    (hK : ∀ w', w'.ownsRow base e size (.slice (some ⟨w.heap.size, 0, none⟩) m m) m (madeCells z.cells (m * size)).toList → w.grownBy w' none → wpListIn F n P ops Q rest (a.put o.dst (.slice (some ⟨w.heap.size, 0, none⟩) m m)) w') :
    wpListIn F n P ops Q (o :: rest) a w := by
  refine wpListIn_plain hg fun K hK' => ?_
  obtain ⟨w', hrun, r1, r2⟩ := run_make_full (P := P) w base t e i z size h1 h2 h3 h4 kl kc m b2 b3 b4
  unfold Oper.wpIn
  refine ⟨?_, ?_⟩
  · simp [Oper.about, hop]
  · rw [Oper.semAt_plain F _ _ (by rw [hop]; intro c hc'; cases hc')]
    simp [execOp, hop, hl, hc, hrun, Result.andThen]
    exact hK' _ _ (hK w' r1 r2)
theorem own_rest {w w' : World} {base : Nat} {e : TypeId} {size n : Nat} {v : Value} {xs : List Value} (h : w.ownsRow base e size v n xs) (hb : ∀ k, base ≤ k → k < w.heap.size → w'.heap[k]? = w.heap[k]?) : w'.ownsRow base e size v n xs := by
  refine ⟨h.1, ?_⟩
  rcases h.2 with h1 | ⟨g, cap, cur, hv, hg, hh, hr⟩
  · exact .inl h1
  · have hlt : g < w.heap.size := by
      rcases Nat.lt_or_ge g w.heap.size with h' | h'
      · exact h'
      · rw [Array.getElem?_eq_none h'] at hh; cases hh
    exact .inr ⟨g, cap, cur, hv, hg, by rw [hb g hg hlt]; exact hh, hr⟩
@[go_sem] theorem wide_fn (f : FuncId) : Fence.wide.fn f = True := eq_true trivial
end Go
namespace Go
open Go.RowKit
section
variable {F : Fence} {n : Nat} {P : Program} {ops : Array Oper} {md : Region.Mode} {C : World → Prop}
def noDefer (l : List Oper) : Bool := l.all fun o => match o.op with | .defer _ => false | _ => true
theorem noDefer_at {l : List Oper} (h : noDefer l = true) {i : Nat} {o : Oper} (ho : l[i]? = some o) : ∀ c, o.op ≠ .defer c := by
  intro c hc
  have := List.all_eq_true.1 h o (List.mem_of_getElem? ho)
  rw [hc] at this
  cases this
theorem Oper.wpIn_of_quietR {o : Oper} {a : Act} {K : Act → Prop} {K' : Act → World → Prop} {Q' : Exit → Act → World → Prop} {w : World} (hnd : ∀ c, o.op ≠ .defer c) (hw : C w) (h : ∀ a w', C w' → K a → K' a w')
    (ha : o.askedIn F P a C) (hh : o.quietIn F n P a C K) : o.wpIn F n P a w K' Q' := by
  obtain ⟨v, h1, h2⟩ := hh
  have h3 := h1 w hw
  unfold Oper.quietAtIn at h3
  unfold Oper.wpIn
  refine ⟨ha w hw, ?_⟩
  rw [Oper.semAt_plain F _ _ hnd]
  generalize (execOp a.eval o).run P w = r at *
  cases r with
  | ok x w' =>
    cases x <;> simp only [Oper.quietUponIn] at h3 <;> simp only [Oper.uponIn]
    case value u =>
      obtain ⟨e1, e2⟩ := h3
      rw [e1, e2]
      exact h _ _ hw h2
    case skip =>
      obtain ⟨e1, e2⟩ := h3
      rw [e1, ← e2]
      exact h _ _ hw h2
    case enter f args =>
      obtain ⟨e1, hd, hc⟩ := h3
      rw [e1]
      exact ⟨hd, hc.mono fun e w'' ⟨he, hw''⟩ => by subst he; exact h _ _ hw'' h2⟩
  | halt x w' => simp only [Oper.quietUponIn] at h3
theorem wpOpIn_of_qOpInR {i : Nat} {a : Act} {K : Act → Prop} {K' : Act → World → Prop} {Q' : Exit → Act → World → Prop} {w : World} (hnd : noDefer ops.toList = true) (hC : C w) (h : ∀ a w', C w' → K a → K' a w')
    (hh : qOpIn F n P ops C i K a) : wpOpIn F n P ops Q' i K' a w := by
  unfold qOpIn at hh
  unfold wpOpIn
  split
  · rename_i ho; simp only [ho] at hh; exact h _ _ hC hh
  · rename_i o ho
    simp only [ho] at hh
    obtain ⟨ha, hh⟩ := hh
    split
    · rename_i hw; simp only [hw, if_true] at hh; exact Oper.wpIn_of_quietR (noDefer_at hnd (by simpa using ho)) hC h ha hh
    · rename_i hw; simp only [hw] at hh; exact ⟨ha w hC, h _ _ hC hh⟩
theorem wpAnyIn_of_quietR {Q : Act → Prop} {Q' : Exit → Act → World → Prop} (hnd : noDefer ops.toList = true) (hQ : ∀ a w, C w → Q a → Q' .normal a w) : ∀ (fuel : Nat) (listed : Array Bool) (a : Act) (w : World), C w →
    wpAnyQIn F n P md ops C Q fuel listed a → wpAnyIn F n P md ops Q' fuel listed a w
  | 0, _, _, _, hw, h => ⟨h.1, hQ _ _ hw h.2⟩
  | fuel + 1, _, _, _, hw, h => ⟨fun h0 => hQ _ _ hw (h.1 h0), fun i hi => wpOpIn_of_qOpInR hnd hw (fun a' w' hw' => wpAnyIn_of_quietR hnd hQ fuel _ a' w' hw') (h.2 i hi)⟩
theorem wpIn_region_quietR {id : Nat} {Q : Exit → Act → World → Prop} {a : Act} {w : World} (hnd : noDefer ops.toList = true) (hm : P.follows .mixedOrders = true) (hB : Region.lexB .any ops = true) (hC : C { w with drawn := w.drawn + 1 })
    (h : wpQuietIn F n P ops C (fun a' => ∀ w', C w' → Q .normal a' w') ops.toList a) : (Code.region id ops true).wpIn F n P Q a w := by
  simp only [Region.lexB, Bool.and_eq_true] at hB
  refine wpIn_region_any hm (wpAnyIn_of_quietR (Q := fun a' => ∀ w', C w' → Q .normal a' w') hnd (fun _ w' hw' h => h w' hw') _ _ _ _ hC ?_)
  have := wpAnyQIn_lex (F := F) (n := n) (C := C) (md := .any) hB.1 ops.toList 0 (Array.replicate ops.size false) a (by simp) (by simpa using hB.2) h
  simpa using this
theorem wpIn_region_pastR {id : Nat} {Q : Exit → Act → World → Prop} {a : Act} {w : World} {l : List Oper} (hnd : noDefer l = true) (hm : P.follows .mixedOrders = true) (hB : Region.lexB .any l.toArray = true)
    (h : wpQuietIn F n P l.toArray (fun w' => ∃ x : Past, w' = w.past x) (fun a' => ∀ w', (∃ x : Past, w' = w.past x) → Q .normal a' w') l a) : (Code.region id l.toArray true).wpIn F n P Q a w :=
  wpIn_region_quietR (C := fun w' => ∃ x : Past, w' = w.past x) (by simpa using hnd) hm hB (past_of ⟨rfl, rfl, rfl, Nat.le_refl _, fun _ _ => rfl⟩) (by simpa using h)
theorem wpAnyIn_of_toR {Q : Act → Prop} {Q' : Exit → Act → World → Prop} {m k : Nat} {stop : Array Bool} (hnd : noDefer ops.toList = true) (hQ : ∀ a w, C w → Q a → wpAnyIn F n P md ops Q' k stop a w) : ∀ (fuel : Nat) (listed : Array Bool) (a : Act) (w : World), C w →
    wpAnyTo F n P md ops C m stop Q fuel listed a → wpAnyIn F n P md ops Q' (fuel + k) listed a w
  | 0, _, _, _, hw, h => by
    obtain ⟨rfl, h⟩ := h
    rw [Nat.zero_add]
    exact hQ _ _ hw h
  | fuel + 1, _, _, _, hw, h => by
    rw [Nat.add_right_comm]
    exact ⟨fun h0 => absurd h0 h.1, fun i hi => wpOpIn_of_qOpInR hnd hw (fun a' w' hw' => wpAnyIn_of_toR hnd hQ fuel _ a' w' hw') (h.2 i hi).2⟩
/-- XRegTo's law, in a round too. -/
theorem wpIn_region_toR {id : Nat} {Q : Exit → Act → World → Prop} {a : Act} {w : World} {l : List Oper} (m left : Nat) (hnd : noDefer l = true) (hm : P.follows .mixedOrders = true) (hs : Region.noSelect l.toArray = true) (hlen : l.length = m + left)
    (hB : lexTo .any l.toArray m 0 (Array.replicate (m + left) false) = true)
    (h : wpQuietIn F n P l.toArray (fun w' => ∃ x : Past, w' = w.past x) (fun a' => ∀ w', (∃ x : Past, w' = w.past x) → wpAnyIn F n P .any l.toArray Q left (listedTo m 0 (Array.replicate (m + left) false)) a' w') (l.take m) a) : (Code.region id l.toArray true).wpIn F n P Q a w := by
  refine wpIn_region_any hm ?_
  have hlm : (l.take m).length = m := by rw [List.length_take]; omega
  have h2 := wpAnyTo_lex (F := F) (n := n) (C := fun w' => ∃ x : Past, w' = w.past x) (md := .any) hs (l.take m) 0 m (Array.replicate (m + left) false) a (fun j hj => by rw [hlm] at hj; simp [List.getElem?_take, hj]) (by omega)
    (fun j hj => by
      rcases Nat.lt_or_ge j (m + left) with h' | h'
      · simp [h'] at hj
      · simp [h'] at hj)
    (by rw [hlm]; exact hB) h
  rw [hlm] at h2
  have h3 := wpAnyIn_of_toR (k := left) (Q' := Q) (by simpa using hnd) (fun a' w' hw' hq => hq w' hw') m _ a { w with drawn := w.drawn + 1 } (past_of ⟨rfl, rfl, rfl, Nat.le_refl _, fun _ _ => rfl⟩) h2
  rw [← hlen] at h3
  simpa using h3
end
end Go
