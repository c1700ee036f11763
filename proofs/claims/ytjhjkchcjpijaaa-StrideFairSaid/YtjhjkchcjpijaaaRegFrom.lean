/-
  XRegLast's law with more behind: operations 0 .. s-1 read and call what is pure, and are gone through in the order of the text; what comes behind (whatever it does) waits for all of them but some that only take values apart. Plain laws. No condition.
-/
import Derived.Test.YtjhjkchcjpijaaaRegLast
namespace Go
def forceFrom (ops : Array Oper) (s : Nat) : Array Oper := ops.mapIdx fun i o => if s ≤ i then { o with after := o.after ++ ((List.range s).map fun j => (⟨j, .data⟩ : Edge)).toArray } else o
section
variable {P : Program} {ops : Array Oper} {md : Region.Mode} {C : World → Prop} {s : Nat}
theorem forceF_at {i : Nat} (h : i < s) : (forceFrom ops s)[i]? = ops[i]? := by
  unfold forceFrom
  rw [Array.getElem?_mapIdx]
  cases ops[i]? with
  | none => rfl
  | some o => simp; omega
theorem forceF_dst (i : Nat) : ((forceFrom ops s)[i]?).bind (·.dst) = (ops[i]?).bind (·.dst) := by
  unfold forceFrom
  rw [Array.getElem?_mapIdx]
  cases ops[i]? with
  | none => rfl
  | some o => simp only [Option.map_some, Option.bind_some]; split <;> rfl
theorem forceF_yielded (t : Array Value) : yielded (forceFrom ops s) t = yielded ops t := by
  funext j
  unfold yielded
  rw [forceF_dst]
theorem forceF_qOp {i : Nat} (h : i < s) {K : Act → Prop} {a : Act} : qOp P (forceFrom ops s) C i K a = qOp P ops C i K a := by
  unfold qOp
  rw [forceF_at h]
  simp only [forceF_yielded]
theorem forceF_quiet {Q : Act → Prop} : ∀ (l : List Oper) (a : Act), wpQuiet P (forceFrom ops s) C Q l a = wpQuiet P ops C Q l a
  | [], _ => rfl
  | o :: l, a => by
    have e : wpQuiet P (forceFrom ops s) C Q l = wpQuiet P ops C Q l := funext (forceF_quiet l)
    unfold wpQuiet
    rw [forceF_yielded, e]
theorem forceF_ready {i : Nat} {listed : Array Bool} (h : i < s) : i ∈ Region.ready md (forceFrom ops s) listed ↔ i ∈ Region.ready md ops listed := by
  rw [mem_ready, mem_ready, forceF_at h]
/-- What stands listed, where the j-th comes up. -/
def lone0F (n s : Nat) (E : List Nat) (j : Nat) : Array Bool := ((List.range n).map fun i => decide (i < s) && (!(E.contains i) || decide (i < j))).toArray
def loneBF (md : Region.Mode) (ops : Array Oper) (s : Nat) (E : List Nat) : Bool :=
  (E.all fun j => decide (j < s) && (match ops[j]? with | some o => loneOp o | none => false) && Region.free md ops (lone0F ops.size s E j) j && (depsAt md ops j).all fun d => decide (d < j)) &&
  (List.range ops.size).all fun j => decide (j < s) || !((depsAt md ops j).all fun d => decide (d < s)) || coverX md ops E s (depsAt md ops j)
theorem wpAny_of_toF {Q : Act → Prop} {Q' : Exit → Act → World → Prop} {stop : Array Bool} {E : List Nat} {k : Nat} (hsel : Region.noSelect ops = true) (hsz : s ≤ ops.size) (hE : loneBF md ops s E = true)
    (hP : E = [] ∨ ∀ c a d v w, Q' (.panic c) (a.put d v) w → Q' (.panic c) a w)
    (hQ : ∀ a w, C w → Q a → wpAny P md ops Q' k stop a w) : ∀ (fuel : Nat) (listed : Array Bool) (a : Act) (w : World), listed.size = ops.size → ClosedL md ops listed → (∀ i, listed.getD i false = true → i < s) → C w →
    wpAnyToP P md (forceFrom ops s) C s stop Q fuel listed a → wpAny P md ops Q' (fuel + k) listed a w
  | 0, li, a, w, _, _, _, hw, h => by
    obtain ⟨e0, h⟩ := h
    subst e0
    rw [Nat.zero_add]
    exact hQ a w hw h
  | fuel + 1, listed, a, w, hls, hcl, hlo, hw, h => by
    rw [Nat.add_right_comm]
    unfold loneBF at hE
    have hE1 := (Bool.and_eq_true _ _ ▸ hE).1
    have hE2 := (Bool.and_eq_true _ _ ▸ hE).2
    by_cases hsr : ∃ i, i ∈ Region.ready md ops listed ∧ s ≤ i
    · obtain ⟨i1, hi1, hsi⟩ := hsr
      obtain ⟨hne, hall⟩ := h
      have hi1l : i1 < ops.size := by
        obtain ⟨_, o, ho, _⟩ := mem_ready.1 hi1
        exact (Array.getElem?_eq_some_iff.1 ho).1
      have hcov : coverX md ops E s (depsAt md ops i1) = true := by
        have := List.all_eq_true.1 hE2 i1 (List.mem_range.2 hi1l)
        simp only [Bool.or_eq_true, decide_eq_true_eq, Bool.not_eq_true'] at this
        rcases this with (h1 | h1) | h1
        · omega
        · exfalso
          have : ((depsAt md ops i1).all fun d => decide (d < s)) = true := List.all_eq_true.2 fun d hd => by simpa using hlo d (ready_deps hi1 d hd)
          rw [this] at h1; cases h1
        · exact h1
      have hcv : ∀ i, i < s → i ∉ E → listed.getD i false = true := cover_x hcl s _ hcov (ready_deps hi1)
      have hpend : ∃ j, j < s ∧ listed.getD j true = false := by
        obtain ⟨i, hi⟩ := List.exists_mem_of_ne_nil _ hne
        obtain ⟨h1, _⟩ := hall i hi
        exact ⟨i, h1, (mem_ready.1 hi).1⟩
      obtain ⟨j0, hj0⟩ := hpend
      obtain ⟨j, ⟨hjs, hjp⟩, _, hmin⟩ := least_of (p := fun j => j < s ∧ listed.getD j true = false) j0 hj0
      have hjE : j ∈ E := by
        apply Classical.byContradiction
        intro hn
        have h1 := hcv j hjs hn
        have : j < listed.size := by omega
        simp [this] at h1 hjp
        rw [h1] at hjp; cases hjp
      have hEj := List.all_eq_true.1 hE1 j hjE
      simp only [Bool.and_eq_true, decide_eq_true_eq, List.all_eq_true] at hEj
      obtain ⟨⟨⟨_, hlone⟩, hfree⟩, hdeps⟩ := hEj
      have hoj : ops[j]? = some (ops[j]'(by omega)) := Array.getElem?_eq_getElem (by omega)
      rw [hoj] at hlone
      simp only at hlone
      have hrj : j ∈ Region.ready md ops listed := by
        refine mem_ready.2 ⟨hjp, _, hoj, fun e he hb => ?_⟩
        have hlt := hdeps e.on ((mem_deps hoj).2 ⟨e, he, hb, rfl⟩)
        have hn := hmin e.on hlt
        have : e.on < listed.size := by omega
        have h2 : ¬ (e.on < s ∧ listed.getD e.on true = false) := hn
        simp [this] at h2 ⊢
        exact h2 (by omega)
      obtain ⟨_, hq⟩ := hall j ((forceF_ready hjs).2 hrj)
      rw [forceF_qOp hjs] at hq
      obtain ⟨v, hy, hK⟩ := yieldsIn_of_qOp hoj hq
      have hY := lone_yields hlone hw hy
      have ih := wpAny_of_toF hsel hsz (by unfold loneBF; exact hE) hP hQ fuel (listed.setIfInBounds j true) (a.put (ops[j]'(by omega)).dst v) w (by simpa using hls) (hcl.set hrj) (fun i hi => by
        rcases getD_of_set hi with rfl | hi
        · exact hjs
        · exact hlo i hi) hw hK
      refine wpAny_first hoj (Region.noSelect_spec hsel) (fun c a w => by rcases hP with hP | hP; (rw [hP] at hjE; cases hjE); exact hP c a _ v w) (fuel + k) listed a w (fun q ok hk hkj hun hno => ?_) hrj hY ih
      refine Region.free_spec hoj hfree q ok hk hkj ?_ hno
      have hks := (Array.getElem?_eq_some_iff.1 hk).1
      have e0 : (lone0F ops.size s E j).getD q true = (decide (q < s) && (!(E.contains q) || decide (q < j))) := by
        unfold lone0F
        simp [hks]
      rw [e0]
      by_cases hk2 : q < s
      · have hkE : q ∈ E := by
          apply Classical.byContradiction
          intro hn
          have h1 := hcv q hk2 hn
          have : q < listed.size := by omega
          simp [this] at h1 hun
          rw [h1] at hun; cases hun
        have hkj2 : ¬ q < j := fun h => hmin q h ⟨hk2, hun⟩
        simp [hkE, hkj2]
      · simp [hk2]
    · obtain ⟨hne, hall⟩ := h
      have hnr : ∀ i ∈ Region.ready md ops listed, i < s := fun i hi => by
        rcases Nat.lt_or_ge i s with h1 | h1
        · exact h1
        · exact absurd ⟨i, hi, h1⟩ hsr
      refine ⟨fun h0 => ?_, fun i hi => ?_⟩
      · exfalso
        obtain ⟨i, hi⟩ := List.exists_mem_of_ne_nil _ hne
        obtain ⟨h1, _⟩ := hall i hi
        have := (forceF_ready h1).1 hi
        rw [h0] at this; cases this
      · obtain ⟨_, hq⟩ := hall i ((forceF_ready (hnr i hi)).2 hi)
        rw [forceF_qOp (hnr i hi)] at hq
        exact wpOp_of_qOp hw (fun a' w' hw' h' => wpAny_of_toF hsel hsz (by unfold loneBF; exact hE) hP hQ fuel _ a' w' (by simpa using hls) (hcl.set hi) (fun q hq => by
          rcases getD_of_set hq with rfl | hq
          · exact hnr q hi
          · exact hlo q hq) hw' h') hq
def fromB (ops : Array Oper) (s : Nat) (E : List Nat) : Bool := loneBF .any ops s E && lexTo .any (forceFrom ops s) s 0 (Array.replicate ops.size false)
/-- All that reads, in the order of the text; what comes behind is left. -/
theorem wp_region_from {id : Nat} {Q : Exit → Act → World → Prop} {a : Act} {w : World} {l : List Oper} (s left : Nat) (E : List Nat) (hm : P.follows .mixedOrders = true) (hs : Region.noSelect l.toArray = true) (hs2 : Region.noSelect (forceFrom l.toArray s) = true) (hlen : l.length = s + left)
    (hB : fromB l.toArray s E = true) (hP : E = [] ∨ ∀ c a d v w, Q (.panic c) (a.put d v) w → Q (.panic c) a w) (hC : C { w with drawn := w.drawn + 1 })
    (h : wpQuiet P l.toArray C (fun a' => ∀ w', C w' → wpAny P .any l.toArray Q left (listedTo s 0 (Array.replicate (s + left) false)) a' w') (l.take s) a) : (Code.region id l.toArray true).wp P Q a w := by
  unfold fromB at hB
  simp only [Bool.and_eq_true] at hB
  obtain ⟨hE, hlex⟩ := hB
  refine wp_region_any hm ?_
  have hlm : (l.take s).length = s := by rw [List.length_take]; omega
  have hsz : l.toArray.size = s + left := by simpa using hlen
  rw [hsz] at hlex
  rw [← forceF_quiet (s := s)] at h
  have hcl0 : ∀ md (ops : Array Oper), ClosedL md ops (Array.replicate (s + left) false) := fun md ops j hj => by
    rcases Nat.lt_or_ge j (s + left) with h' | h'
    · simp [h'] at hj
    · simp [h'] at hj
  have h2 := wpAnyToP_lex (C := C) (md := .any) hs2 (l.take s) 0 s (Array.replicate (s + left) false) a (fun j hj => by
      rw [hlm] at hj
      rw [Nat.zero_add, forceF_at hj]
      simp [List.getElem?_take, hj]) (by omega) (hcl0 _ _) (by rw [hlm]; exact hlex) h
  rw [hlm] at h2
  have h3 := wpAny_of_toF (md := .any) (C := C) (Q' := Q) (k := left) hs (by omega) hE hP (fun a' w' hw' hq => hq w' hw') s (Array.replicate (s + left) false) a _ (by rw [hsz]; simp) (hcl0 _ _) (fun i hi => by
    rcases Nat.lt_or_ge i (s + left) with h' | h'
    · simp [h'] at hi
    · simp [h'] at hi) hC h2
  rw [hsz]
  exact h3
end
end Go
