/-
  A drawn region whose last operations wait for all that is ahead of them, one behind the other: what is ahead of them goes in whatever order, they follow in the order of the text. Plain laws. No condition.
-/
import Derived.WalkKit
import Derived.Deep.RegionHeld3
import Derived.StillTailTactics
namespace Go
section
variable {P : Program} {md : Region.Mode} {Q : Exit → Act → World → Prop}
/-- The first n operations look at one another alone, each at those ahead of it. -/
def Region.headB (md : Region.Mode) (l : List Oper) (n : Nat) : Bool :=
  (List.range n).all fun i => match l[i]? with
    | some o => (match o.guard with | some (j, _) => decide (j < n) | none => true) && o.after.all fun e => !Region.binds md e || decide (e.on < i)
    | none => false
def Region.fullB (n m : Nat) : Array Bool := ((List.range m).map fun i => decide (i < n)).toArray
def Region.splitB (md : Region.Mode) (l : List Oper) (n : Nat) : Bool :=
  decide (n < l.length) && Region.headB md l n && Region.sinkB md l.toArray n && Region.chainB md l.toArray n && Region.seqB md l.toArray (l.length - n) n (Region.fullB n l.length)
theorem wpAny_more {ops : Array Oper} : ∀ (f : Nat) (listed : Array Bool) (a : Act) (w : World), wpAny P md ops Q f listed a w → wpAny P md ops Q (f + 1) listed a w
  | 0, _, _, _, h => ⟨fun _ => h.2, fun i hi => by rw [h.1] at hi; cases hi⟩
  | f + 1, _, _, _, h => ⟨h.1, fun i hi => wpOp_mono (fun a' w' h' => wpAny_more f _ a' w' h') (h.2 i hi)⟩
theorem wpAny_mores {ops : Array Oper} {f : Nat} {listed : Array Bool} {a : Act} {w : World} (h : wpAny P md ops Q f listed a w) : ∀ k, wpAny P md ops Q (k + f) listed a w
  | 0 => by rw [Nat.zero_add]; exact h
  | k + 1 => by rw [Nat.add_right_comm]; exact wpAny_more _ _ _ _ (wpAny_mores h k)
structure HeadRel (n : Nat) (m : Nat) (lh li : Array Bool) : Prop where
  sh : lh.size = n
  si : li.size = m
  nm : n ≤ m
  same : ∀ i, i < n → li[i]? = lh[i]?
  tail : ∀ t, n ≤ t → t < m → li.getD t true = false
theorem HeadRel.getD {n m : Nat} {lh li : Array Bool} (h : HeadRel n m lh li) (i : Nat) : li.getD i false = lh.getD i false := by
  rcases Nat.lt_or_ge i n with hi | hi
  · have := h.same i hi
    simp only [Array.getD_eq_getD_getElem?, this]
  · have h1 : lh.getD i false = false := by simp [Array.getElem?_eq_none (show lh.size ≤ i by rw [h.sh]; exact hi)]
    rw [h1]
    rcases Nat.lt_or_ge i m with hm | hm
    · have := h.tail i hi hm
      have hs : i < li.size := by rw [h.si]; exact hm
      simp [hs] at this ⊢
      exact this
    · simp [Array.getElem?_eq_none (show li.size ≤ i by rw [h.si]; exact hm)]
theorem HeadRel.getD' {n m : Nat} {lh li : Array Bool} (h : HeadRel n m lh li) {i : Nat} (hi : i < n) : li.getD i true = lh.getD i true := by
  have := h.same i hi
  simp only [Array.getD_eq_getD_getElem?, this]
theorem HeadRel.set {n m : Nat} {lh li : Array Bool} (h : HeadRel n m lh li) {i : Nat} (hi : i < n) : HeadRel n m (lh.setIfInBounds i true) (li.setIfInBounds i true) := by
  refine ⟨by simpa using h.sh, by simpa using h.si, h.nm, fun j hj => ?_, fun t ht hm => ?_⟩
  · rw [Array.getElem?_setIfInBounds, Array.getElem?_setIfInBounds, h.same j hj, h.sh, h.si]
    have := h.nm
    by_cases e : i = j
    · subst e; rw [if_pos rfl, if_pos rfl, if_pos hi, if_pos (by omega)]
    · rw [if_neg e, if_neg e]
  · rw [getD_set_ne true (by omega)]; exact h.tail t ht hm
variable {l : List Oper} {n : Nat}
theorem head_at {i : Nat} (hi : i < n) : (l.take n).toArray[i]? = l.toArray[i]? := by
  simp [List.getElem?_take, hi]
theorem head_ready {lh li : Array Bool} (h : HeadRel n l.length lh li) {i : Nat} (hi : i < n) : i ∈ Region.ready md l.toArray li ↔ i ∈ Region.ready md (l.take n).toArray lh := by
  rw [mem_ready, mem_ready, h.getD' hi, head_at hi]
  constructor
  · rintro ⟨h1, o, ho, h2⟩
    exact ⟨h1, o, ho, fun e he hb => by rw [← h.getD]; exact h2 e he hb⟩
  · rintro ⟨h1, o, ho, h2⟩
    exact ⟨h1, o, ho, fun e he hb => by rw [h.getD]; exact h2 e he hb⟩
theorem head_yielded {t : Array Value} {j : Nat} (hj : j < n) : yielded (l.take n).toArray t j = yielded l.toArray t j := by
  unfold yielded
  rw [head_at hj]
theorem head_wanted (hB : Region.headB md l n = true) {i : Nat} (hi : i < n) {o : Oper} (ho : l.toArray[i]? = some o) (t : Array Value) : Region.wanted o (yielded (l.take n).toArray t) = Region.wanted o (yielded l.toArray t) := by
  have h1 := List.all_eq_true.1 hB i (List.mem_range.2 hi)
  have ho' : l[i]? = some o := by simpa using ho
  rw [ho'] at h1
  simp only [Bool.and_eq_true] at h1
  unfold Region.wanted
  cases hg : o.guard with
  | none => rfl
  | some p =>
    obtain ⟨j, b⟩ := p
    rw [hg] at h1
    simp only [decide_eq_true_eq] at h1
    simp only [head_yielded h1.1]
theorem upon_then {o : Oper} {a : Act} {K K' : Act → World → Prop} {N : Act → World → Prop} {r : Result Next} (hk : ∀ a w, K a w → K' a w) (h : o.upon P a K (Exit.then N Q) r) : o.upon P a K' Q r := by
  cases r with
  | ok n w' =>
    cases n <;> simp only [Oper.upon] at h ⊢
    case enter f args =>
      refine Calls.mono h fun e w'' he => ?_
      cases e with
      | returned u => exact hk _ _ he
      | panicked c => exact he
      | outgrown => exact he
    case row row args => exact Rows.mono h fun u w'' he => hk _ _ he
    all_goals exact hk _ _ h
  | halt x w' =>
    cases x <;> simp only [Oper.upon] at h ⊢
    case panic u => exact h
theorem head_op (hB : Region.headB md l n = true) {i : Nat} (hi : i < n) {N : Act → World → Prop} {K K' : Act → World → Prop} {a : Act} {w : World} (hk : ∀ a w, K a w → K' a w)
    (h : wpOp P (l.take n).toArray (Exit.then N Q) i K a w) : wpOp P l.toArray Q i K' a w := by
  unfold wpOp at h ⊢
  rw [head_at hi] at h
  cases ho : l.toArray[i]? with
  | none => rw [ho] at h; exact hk _ _ h
  | some o =>
    rw [ho] at h
    simp only at h ⊢
    rw [head_wanted hB hi ho] at h
    split
    · rename_i hw
      rw [if_pos hw] at h
      rcases h with h | h
      · exact .inl (upon_then hk h)
      · exact .inr ⟨h.1, h.2⟩
    · rename_i hw
      rw [if_neg hw] at h
      exact hk _ _ h
theorem full_of {lh li : Array Bool} (hB : Region.headB md l n = true) (h : HeadRel n l.length lh li) (hr : Region.ready md (l.take n).toArray lh = []) : li = Region.fullB n l.length := by
  have hall : ∀ i, i < n → lh.getD i true = true := by
    intro i
    induction i using Nat.strongRecOn with
    | ind i ih =>
      intro hi
      cases hc : lh.getD i true with
      | true => rfl
      | false =>
        exfalso
        have h1 := List.all_eq_true.1 hB i (List.mem_range.2 hi)
        cases ho : l[i]? with
        | none => rw [ho] at h1; cases h1
        | some o =>
          rw [ho] at h1
          simp only [Bool.and_eq_true, Array.all_eq_true_iff_forall_mem] at h1
          have : i ∈ Region.ready md (l.take n).toArray lh := mem_ready.2 ⟨hc, o, by rw [head_at hi]; simpa using ho, fun e he hb => by
            have h2 := h1.2 e he
            rw [hb] at h2
            simp at h2
            have h3 := ih e.on h2 (by omega)
            have hs : e.on < lh.size := by rw [h.sh]; omega
            simp [hs] at h3 ⊢
            exact h3⟩
          rw [hr] at this
          cases this
  apply Array.ext_getElem?
  intro i
  rcases Nat.lt_or_ge i n with hi | hi
  · have h1 := hall i hi
    rw [h.same i hi]
    have hs : i < lh.size := by rw [h.sh]; exact hi
    have hm : i < l.length := Nat.lt_of_lt_of_le hi h.nm
    simp [hs] at h1
    simp [Region.fullB, hs, hm, hi, h1]
  · rcases Nat.lt_or_ge i l.length with hm | hm
    · have h1 := h.tail i hi hm
      have hs : i < li.size := by rw [h.si]; exact hm
      simp [hs] at h1
      simp [Region.fullB, hs, hm, h1]
      omega
    · rw [Array.getElem?_eq_none (by rw [h.si]; exact hm), Array.getElem?_eq_none (by simp [Region.fullB]; exact hm)]
theorem wpAny_split (hB : Region.splitB md l n = true) : ∀ (f : Nat) (lh li : Array Bool) (a : Act) (w : World), HeadRel n l.length lh li → HeadInv md l.toArray n li →
    wpAny P md (l.take n).toArray (Exit.then (wpList P l.toArray Q (l.drop n)) Q) f lh a w → wpAny P md l.toArray Q (f + (l.length - n)) li a w := by
  unfold Region.splitB at hB
  simp only [Bool.and_eq_true, decide_eq_true_eq] at hB
  obtain ⟨⟨⟨⟨hn, hH⟩, hs⟩, hc⟩, hq⟩ := hB
  have fin : ∀ (lh li : Array Bool) (a : Act) (w : World), HeadRel n l.length lh li → Region.ready md (l.take n).toArray lh = [] → wpList P l.toArray Q (l.drop n) a w → wpAny P md l.toArray Q (l.length - n) li a w := fun lh li a w hr h0 h => by
    rw [full_of hH hr h0]
    have := wpAny_of_seq (P := P) (md := md) (ops := l.toArray) (Q' := Q) (l.drop n) n (Region.fullB n l.length) a w (fun j => by simp) (by simpa using hq) h
    simpa using this
  intro f
  induction f with
  | zero =>
    intro lh li a w hr _ h
    rw [Nat.zero_add]
    exact fin lh li a w hr h.1 h.2
  | succ f ih =>
    intro lh li a w hr hi h
    by_cases h0 : Region.ready md (l.take n).toArray lh = []
    · exact wpAny_mores (fin lh li a w hr h0 (h.1 h0)) (f + 1)
    · obtain ⟨i0, hi0⟩ := List.exists_mem_of_ne_nil _ h0
      have hlt : ∀ i ∈ Region.ready md (l.take n).toArray lh, i < n := fun i hi => by
        obtain ⟨_, o, ho, _⟩ := mem_ready.1 hi
        have := (Array.getElem?_eq_some_iff.1 ho).1
        simp at this
        omega
      have hi0n := hlt i0 hi0
      have hi0r := (head_ready hr hi0n).2 hi0
      rw [show f + 1 + (l.length - n) = (f + (l.length - n)) + 1 by omega]
      refine ⟨(fun e => by rw [e] at hi0r; cases hi0r), fun i hir => ?_⟩
      have hin : i < n := by
        rcases Nat.lt_or_ge i n with h' | h'
        · exact h'
        · exact absurd hir (tail_waits hs hc (by simpa using hn) hi _ i0 rfl hi0n (mem_ready.1 hi0r).1 i h')
      exact head_op hH hin (fun a' w' h' => ih _ _ a' w' (hr.set hin) (hi.set hir hin) h') (h.2 i ((head_ready hr hin).1 hir))
/-- The beginning. -/
theorem wp_region_split {id : Nat} {a : Act} {w : World} {S : World → Prop} (n : Nat) (hm : P.follows .mixedOrders = true) (hB : Region.splitB .any l n = true) (hS : S w.drew)
    (h : S w.drew → wpAnyH P .any (l.take n).toArray (Exit.then (wpList P l.toArray Q (l.drop n)) Q) S n (Array.replicate n false) a w.drew) : (Code.region id l.toArray true).wp P Q a w := by
  have hB' := hB
  unfold Region.splitB at hB'
  simp only [Bool.and_eq_true, decide_eq_true_eq] at hB'
  have hn := hB'.1.1.1.1
  refine wp_region_any hm ?_
  have hr : HeadRel n l.length (Array.replicate n false) (Array.replicate l.toArray.size false) := by
    refine ⟨by simp, by simp, Nat.le_of_lt hn, fun i hi => ?_, fun t _ ht => by simp [ht]⟩
    have hil : i < l.length := Nat.lt_trans hi hn
    simp [hi, hil]
  have hv : HeadInv .any l.toArray n (Array.replicate l.toArray.size false) := by
    refine ⟨by simp, fun j oj _ hl _ _ _ => ?_, fun t _ ht => ?_⟩
    · exfalso
      by_cases hj : j < l.length
      · simp [hj] at hl
      · simp [hj] at hl
    · have : t < l.length := by simpa using ht
      simp [this]
  have h1 := wpAny_split (P := P) (Q := Q) hB n (Array.replicate n false) (Array.replicate l.toArray.size false) a w.drew hr hv (wpAny_of_held n _ a w.drew (h hS))
  rw [show n + (l.length - n) = l.toArray.size by simp; omega] at h1
  exact h1
theorem put_simp : (∀ (a : Act) (d : Tmp) (v : Value), a.put (some d) v = { a with tmps := a.tmps.setIfInBounds d v }) ∧ (∀ (a : Act) (v : Value), a.put none v = a) ∧ (∀ (l : List Value) (i : Nat) (v : Value), l.toArray.setIfInBounds i v = (l.set i v).toArray) ∧ (∀ (a b : Value) (l : List Value), (a :: l).set 0 b = b :: l) ∧ (∀ (a b : Value) (l : List Value) (n : Nat), (a :: l).set (n + 1) b = a :: l.set n b) :=
  ⟨fun _ _ _ => rfl, fun _ _ => rfl, fun _ _ _ => by simp, fun _ _ _ => rfl, fun _ _ _ _ => rfl⟩
end
end Go
