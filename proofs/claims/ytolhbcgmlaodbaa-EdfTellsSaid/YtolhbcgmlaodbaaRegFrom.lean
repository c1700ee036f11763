/-
  XRegLast's law with more behind: operations 0 .. s-1 read and call what is pure, and are gone through in the order of the text; what comes behind (whatever it does) waits for all of them but some that only take values apart. Plain laws. No condition.
-/
import Derived.Sort.BigQuietIn
import Derived.OwnWalkIn
import Derived.Test.YtolhbcgmlaodbaaHeapS
import Derived.BigQuiet
namespace Go
section
variable {F : Fence} {n : Nat} {P : Program} {ops : Array Oper} {md : Region.Mode} {C : World → Prop}
/-- What an operation waits for. -/
def depsAt (md : Region.Mode) (ops : Array Oper) (j : Nat) : List Nat := match ops[j]? with
  | none => []
  | some o => (o.after.toList.filter (Region.binds md)).map (·.on)
/-- Whoever waits for all of S waits for all ahead of i. -/
def coverFrom (md : Region.Mode) (ops : Array Oper) : Nat → List Nat → Bool
  | 0, _ => true
  | i + 1, S => S.contains i && coverFrom md ops i (S ++ depsAt md ops i)
def lexTo (md : Region.Mode) (ops : Array Oper) : Nat → Nat → Array Bool → Bool
  | 0, m, listed => (Region.ready md ops listed).all fun j => coverFrom md ops m (depsAt md ops j)
  | left + 1, k, listed => (Region.ready md ops listed).contains k && Region.free md ops listed k && lexTo md ops left (k + 1) (listed.setIfInBounds k true)
def listedTo : Nat → Nat → Array Bool → Array Bool
  | 0, _, listed => listed
  | left + 1, k, listed => listedTo left (k + 1) (listed.setIfInBounds k true)
def ClosedL (md : Region.Mode) (ops : Array Oper) (listed : Array Bool) : Prop := ∀ j, listed.getD j false = true → ∀ e ∈ depsAt md ops j, listed.getD e false = true
theorem mem_deps {j : Nat} {o : Oper} (ho : ops[j]? = some o) {d : Nat} : d ∈ depsAt md ops j ↔ ∃ e ∈ o.after, Region.binds md e = true ∧ e.on = d := by
  unfold depsAt
  simp only [ho, List.mem_map, List.mem_filter, Array.mem_toList_iff]
  exact ⟨fun ⟨e, ⟨h1, h2⟩, h3⟩ => ⟨e, h1, h2, h3⟩, fun ⟨e, h1, h2, h3⟩ => ⟨e, ⟨h1, h2⟩, h3⟩⟩
theorem cover_all {listed : Array Bool} (hc : ClosedL md ops listed) : ∀ (m : Nat) (S : List Nat), coverFrom md ops m S = true → (∀ s ∈ S, listed.getD s false = true) → ∀ i, i < m → listed.getD i false = true
  | 0, _, _, _, _, h => by omega
  | m + 1, S, h, hS, i, hi => by
    simp only [coverFrom, Bool.and_eq_true, List.contains_iff_mem] at h
    by_cases e : i = m
    · subst e; exact hS _ h.1
    · refine cover_all hc m _ h.2 (fun s hs => ?_) i (by omega)
      rcases List.mem_append.1 hs with hs | hs
      · exact hS s hs
      · exact hc m (hS m h.1) s hs
theorem getD_of_set {listed : Array Bool} {i j : Nat} (h : (listed.setIfInBounds i true).getD j false = true) : j = i ∨ listed.getD j false = true := by
  by_cases e : i = j
  · exact .inl e.symm
  · rw [getD_set_ne false e] at h; exact .inr h
theorem ready_deps {j : Nat} {listed : Array Bool} (h : j ∈ Region.ready md ops listed) : ∀ d ∈ depsAt md ops j, listed.getD d false = true := by
  obtain ⟨_, o, ho, hall⟩ := mem_ready.1 h
  intro d hd
  obtain ⟨e, he, hb, rfl⟩ := (mem_deps ho).1 hd
  exact hall e he hb
theorem ClosedL.set {listed : Array Bool} (hc : ClosedL md ops listed) {i : Nat} (h : i ∈ Region.ready md ops listed) : ClosedL md ops (listed.setIfInBounds i true) := by
  intro j hj d hd
  rcases getD_of_set hj with rfl | hj
  · exact getD_set_true (ready_deps h d hd)
  · exact getD_set_true (hc j hj d hd)
/-- Whatever order is picked from here on, up to 'stop'. -/
def wpAnyTo (F : Fence) (n : Nat) (P : Program) (md : Region.Mode) (ops : Array Oper) (C : World → Prop) (m : Nat) (stop : Array Bool) (Q : Act → Prop) : Nat → Array Bool → Act → Prop
  | 0, listed, a => listed = stop ∧ Q a
  | fuel + 1, listed, a => Region.ready md ops listed ≠ [] ∧ ∀ i ∈ Region.ready md ops listed, i < m ∧ qOpIn F n P ops C i (wpAnyTo F n P md ops C m stop Q fuel (listed.setIfInBounds i true)) a
theorem wpAnyIn_of_to {Q : Act → Prop} {Q' : Exit → Act → World → Prop} {m k : Nat} {stop : Array Bool} (hro : F.round = none) (hQ : ∀ a w, C w → Q a → wpAnyIn F n P md ops Q' k stop a w) : ∀ (fuel : Nat) (listed : Array Bool) (a : Act) (w : World), C w →
    wpAnyTo F n P md ops C m stop Q fuel listed a → wpAnyIn F n P md ops Q' (fuel + k) listed a w
  | 0, _, _, _, hw, h => by
    obtain ⟨rfl, h⟩ := h
    rw [Nat.zero_add]
    exact hQ _ _ hw h
  | fuel + 1, _, _, _, hw, h => by
    rw [Nat.add_right_comm]
    exact ⟨fun h0 => absurd h0 h.1, fun i hi => wpOpIn_of_qOpIn hro hw (fun a' w' hw' => wpAnyIn_of_to hro hQ fuel _ a' w' hw') (h.2 i hi).2⟩
theorem wpAnyTo_first {Q : Act → Prop} {m : Nat} {stop : Array Bool} {i : Nat} {oi : Oper} {v : Value} (hi : ops[i]? = some oi) (him : i < m) (hsel : ∀ (j : Nat) (o : Oper) cs b, ops[j]? = some o → o.op ≠ .select cs b)
    (hstop : ∀ j ∈ Region.ready md ops stop, coverFrom md ops m (depsAt md ops j) = true) :
    ∀ (fuel : Nat) (listed : Array Bool) (a : Act), ClosedL md ops listed →
      (∀ j oj, ops[j]? = some oj → j ≠ i → listed.getD j true = false → (∀ e ∈ oj.after, Region.binds md e = true → e.on ≠ i) → oi.apart ops oj = true) →
      i ∈ Region.ready md ops listed → YieldsQuiet F n P ops C oi v a →
      wpAnyTo F n P md ops C m stop Q fuel (listed.setIfInBounds i true) (a.put oi.dst v) → wpAnyTo F n P md ops C m stop Q (fuel + 1) listed a := by
  intro fuel
  induction fuel with
  | zero =>
    intro listed a hcl _ hr hy H
    refine ⟨fun h => (by rw [h] at hr; cases hr), fun j hj => ?_⟩
    by_cases hji : j = i
    · subst hji; exact ⟨him, hy.qOpIn hi H⟩
    · have hj2 := ready_mono hj hji
      rw [H.1] at hj2
      have h1 := cover_all hcl m _ (hstop j hj2) (ready_deps hj) i him
      have h2 := (mem_ready.1 hr).1
      rcases Nat.lt_or_ge i listed.size with h' | h'
      · simp [h'] at h1 h2; rw [h1] at h2; cases h2
      · simp [Array.getElem?_eq_none h'] at h1
  | succ fuel ih =>
    intro listed a hcl hfree hr hy H
    refine ⟨fun h => (by rw [h] at hr; cases hr), fun j hj => ?_⟩
    by_cases hji : j = i
    · subst hji; exact ⟨him, hy.qOpIn hi H⟩
    · obtain ⟨hjm, h1⟩ := H.2 j (ready_mono hj hji)
      refine ⟨hjm, ?_⟩
      obtain ⟨hjun, oj, hoj, hall⟩ := mem_ready.1 hj
      have hnot : ∀ e ∈ oj.after, Region.binds md e = true → e.on ≠ i := fun e he hb heq => by
        have h1 := hall e he hb
        have h0 := (mem_ready.1 hr).1
        rw [heq] at h1
        rcases Nat.lt_or_ge i listed.size with h' | h'
        · simp [h'] at h0 h1; rw [h0] at h1; cases h1
        · simp [Array.getElem?_eq_none h'] at h1
      have h2 := qOpIn_put hoj (hfree j oj hoj hji hjun hnot) (fun cs b => hsel i oi cs b hi) (fun cs b => hsel j oj cs b hoj) hy h1
      refine qOpIn_mono (fun a' h3 => ih (listed.setIfInBounds j true) a' (hcl.set hj) (fun k ok hk hki hun hno => ?_) (ready_mono hr (Ne.symm hji)) h3.1 ?_) h2
      · refine hfree k ok hk hki ?_ hno
        by_cases hjk : j = k
        · subst hjk; exact hjun
        · rw [getD_set_ne true hjk] at hun; exact hun
      · rw [Array.setIfInBounds_comm _ _ hji]
        exact h3.2
theorem wpAnyTo_lex {Q : Act → Prop} (hs : Region.noSelect ops = true) : ∀ (l : List Oper) (k m : Nat) (listed : Array Bool) (a : Act), (∀ j, j < l.length → l[j]? = ops[k + j]?) → k + l.length = m → ClosedL md ops listed →
    lexTo md ops l.length k listed = true → wpQuietIn F n P ops C Q l a → wpAnyTo F n P md ops C m (listedTo l.length k listed) Q l.length listed a
  | [], _, _, _, _, _, _, _, _, h => ⟨rfl, h⟩
  | o :: l, k, m, listed, a, hl, hkm, hcl, hB, h => by
    have h0 : ops[k]? = some o := by simpa using (hl 0 (by simp)).symm
    simp only [List.length_cons, lexTo, Bool.and_eq_true] at hB
    obtain ⟨⟨hr, hf⟩, hB'⟩ := hB
    have hr' : k ∈ Region.ready md ops listed := by simpa using hr
    simp only [List.length_cons] at hkm
    have hst : qOpIn F n P ops C k (wpQuietIn F n P ops C Q l) a := by unfold qOpIn; simp only [h0]; exact h
    obtain ⟨v, hy, hK⟩ := yieldsQuiet_of_qOpIn h0 hst
    have hend : ∀ (left k : Nat) (listed : Array Bool), lexTo md ops left k listed = true → ∀ j ∈ Region.ready md ops (listedTo left k listed), coverFrom md ops (k + left) (depsAt md ops j) = true := by
      intro left
      induction left with
      | zero => intro k listed h j hj; simp only [lexTo, List.all_eq_true] at h; exact h j hj
      | succ left ih =>
        intro k listed h j hj
        simp only [lexTo, Bool.and_eq_true] at h
        have := ih (k + 1) _ h.2 j hj
        rwa [show k + (left + 1) = k + 1 + left by omega]
    refine wpAnyTo_first h0 (by omega) (Region.noSelect_spec hs) (fun j hj => ?_) l.length listed a hcl (Region.free_spec h0 hf) hr' hy
      (wpAnyTo_lex hs l (k + 1) m _ _ (fun j hj => by have := hl (j + 1) (by simp; omega); simpa [Nat.add_assoc, Nat.add_comm 1 j] using this) (by omega) (hcl.set hr') hB' hK)
    have := hend l.length (k + 1) _ hB' j hj
    rwa [show k + 1 + l.length = m by omega] at this
/-- One walk of what only reads, up to the operation that waits for all of it. -/
theorem wpIn_region_to {id : Nat} {Q : Exit → Act → World → Prop} {a : Act} {w : World} {l : List Oper} (m left : Nat) (hro : F.round = none) (hm : P.follows .mixedOrders = true) (hs : Region.noSelect l.toArray = true) (hlen : l.length = m + left)
    (hB : lexTo .any l.toArray m 0 (Array.replicate (m + left) false) = true) (hC : C { w with drawn := w.drawn + 1 })
    (h : wpQuietIn F n P l.toArray C (fun a' => ∀ w', C w' → wpAnyIn F n P .any l.toArray Q left (listedTo m 0 (Array.replicate (m + left) false)) a' w') (l.take m) a) : (Code.region id l.toArray true).wpIn F n P Q a w := by
  refine wpIn_region_any hm ?_
  have hlm : (l.take m).length = m := by rw [List.length_take]; omega
  have h2 := wpAnyTo_lex (F := F) (n := n) (C := C) (md := .any) hs (l.take m) 0 m (Array.replicate (m + left) false) a (fun j hj => by rw [hlm] at hj; simp [List.getElem?_take, hj]) (by omega)
    (fun j hj => by
      rcases Nat.lt_or_ge j (m + left) with h' | h'
      · simp [h'] at hj
      · simp [h'] at hj)
    (by rw [hlm]; exact hB) h
  rw [hlm] at h2
  have h3 := wpAnyIn_of_to (k := left) (Q' := Q) hro (fun a' w' hw' hq => hq w' hw') m _ a _ hC h2
  rw [← hlen] at h3
  simpa using h3
end
end Go
namespace Go
section
variable {P : Program} {ops : Array Oper} {md : Region.Mode} {C : World → Prop}
/-- Whatever order is picked from here on, up to 'stop'. -/
def wpAnyToP (P : Program) (md : Region.Mode) (ops : Array Oper) (C : World → Prop) (m : Nat) (stop : Array Bool) (Q : Act → Prop) : Nat → Array Bool → Act → Prop
  | 0, listed, a => listed = stop ∧ Q a
  | fuel + 1, listed, a => Region.ready md ops listed ≠ [] ∧ ∀ i ∈ Region.ready md ops listed, i < m ∧ qOp P ops C i (wpAnyToP P md ops C m stop Q fuel (listed.setIfInBounds i true)) a
theorem wpAny_of_toP {Q : Act → Prop} {Q' : Exit → Act → World → Prop} {m k : Nat} {stop : Array Bool} (hQ : ∀ a w, C w → Q a → wpAny P md ops Q' k stop a w) : ∀ (fuel : Nat) (listed : Array Bool) (a : Act) (w : World), C w →
    wpAnyToP P md ops C m stop Q fuel listed a → wpAny P md ops Q' (fuel + k) listed a w
  | 0, _, _, _, hw, h => by
    obtain ⟨rfl, h⟩ := h
    rw [Nat.zero_add]
    exact hQ _ _ hw h
  | fuel + 1, _, _, _, hw, h => by
    rw [Nat.add_right_comm]
    exact ⟨fun h0 => absurd h0 h.1, fun i hi => wpOp_of_qOp hw (fun a' w' hw' => wpAny_of_toP hQ fuel _ a' w' hw') (h.2 i hi).2⟩
theorem wpAnyToP_first {Q : Act → Prop} {m : Nat} {stop : Array Bool} {i : Nat} {oi : Oper} {v : Value} (hi : ops[i]? = some oi) (him : i < m) (hsel : ∀ (j : Nat) (o : Oper) cs b, ops[j]? = some o → o.op ≠ .select cs b)
    (hstop : ∀ j ∈ Region.ready md ops stop, coverFrom md ops m (depsAt md ops j) = true) :
    ∀ (fuel : Nat) (listed : Array Bool) (a : Act), ClosedL md ops listed →
      (∀ j oj, ops[j]? = some oj → j ≠ i → listed.getD j true = false → (∀ e ∈ oj.after, Region.binds md e = true → e.on ≠ i) → oi.apart ops oj = true) →
      i ∈ Region.ready md ops listed → YieldsIn P ops C oi v a →
      wpAnyToP P md ops C m stop Q fuel (listed.setIfInBounds i true) (a.put oi.dst v) → wpAnyToP P md ops C m stop Q (fuel + 1) listed a := by
  intro fuel
  induction fuel with
  | zero =>
    intro listed a hcl _ hr hy H
    refine ⟨fun h => (by rw [h] at hr; cases hr), fun j hj => ?_⟩
    by_cases hji : j = i
    · subst hji; exact ⟨him, hy.qOp hi H⟩
    · have hj2 := ready_mono hj hji
      rw [H.1] at hj2
      have h1 := cover_all hcl m _ (hstop j hj2) (ready_deps hj) i him
      have h2 := (mem_ready.1 hr).1
      rcases Nat.lt_or_ge i listed.size with h' | h'
      · simp [h'] at h1 h2; rw [h1] at h2; cases h2
      · simp [Array.getElem?_eq_none h'] at h1
  | succ fuel ih =>
    intro listed a hcl hfree hr hy H
    refine ⟨fun h => (by rw [h] at hr; cases hr), fun j hj => ?_⟩
    by_cases hji : j = i
    · subst hji; exact ⟨him, hy.qOp hi H⟩
    · obtain ⟨hjm, h1⟩ := H.2 j (ready_mono hj hji)
      refine ⟨hjm, ?_⟩
      obtain ⟨hjun, oj, hoj, hall⟩ := mem_ready.1 hj
      have hnot : ∀ e ∈ oj.after, Region.binds md e = true → e.on ≠ i := fun e he hb heq => by
        have h1 := hall e he hb
        have h0 := (mem_ready.1 hr).1
        rw [heq] at h1
        rcases Nat.lt_or_ge i listed.size with h' | h'
        · simp [h'] at h0 h1; rw [h0] at h1; cases h1
        · simp [Array.getElem?_eq_none h'] at h1
      have h2 := qOp_put hoj (hfree j oj hoj hji hjun hnot) (fun cs b => hsel i oi cs b hi) (fun cs b => hsel j oj cs b hoj) hy h1
      refine qOp_mono (fun a' h3 => ih (listed.setIfInBounds j true) a' (hcl.set hj) (fun k ok hk hki hun hno => ?_) (ready_mono hr (Ne.symm hji)) h3.1 ?_) h2
      · refine hfree k ok hk hki ?_ hno
        by_cases hjk : j = k
        · subst hjk; exact hjun
        · rw [getD_set_ne true hjk] at hun; exact hun
      · rw [Array.setIfInBounds_comm _ _ hji]
        exact h3.2
theorem wpAnyToP_lex {Q : Act → Prop} (hs : Region.noSelect ops = true) : ∀ (l : List Oper) (k m : Nat) (listed : Array Bool) (a : Act), (∀ j, j < l.length → l[j]? = ops[k + j]?) → k + l.length = m → ClosedL md ops listed →
    lexTo md ops l.length k listed = true → wpQuiet P ops C Q l a → wpAnyToP P md ops C m (listedTo l.length k listed) Q l.length listed a
  | [], _, _, _, _, _, _, _, _, h => ⟨rfl, h⟩
  | o :: l, k, m, listed, a, hl, hkm, hcl, hB, h => by
    have h0 : ops[k]? = some o := by simpa using (hl 0 (by simp)).symm
    simp only [List.length_cons, lexTo, Bool.and_eq_true] at hB
    obtain ⟨⟨hr, hf⟩, hB'⟩ := hB
    have hr' : k ∈ Region.ready md ops listed := by simpa using hr
    simp only [List.length_cons] at hkm
    have hst : qOp P ops C k (wpQuiet P ops C Q l) a := by unfold qOp; simp only [h0]; exact h
    obtain ⟨v, hy, hK⟩ := yieldsIn_of_qOp h0 hst
    have hend : ∀ (left k : Nat) (listed : Array Bool), lexTo md ops left k listed = true → ∀ j ∈ Region.ready md ops (listedTo left k listed), coverFrom md ops (k + left) (depsAt md ops j) = true := by
      intro left
      induction left with
      | zero => intro k listed h j hj; simp only [lexTo, List.all_eq_true] at h; exact h j hj
      | succ left ih =>
        intro k listed h j hj
        simp only [lexTo, Bool.and_eq_true] at h
        have := ih (k + 1) _ h.2 j hj
        rwa [show k + (left + 1) = k + 1 + left by omega]
    refine wpAnyToP_first h0 (by omega) (Region.noSelect_spec hs) (fun j hj => ?_) l.length listed a hcl (Region.free_spec h0 hf) hr' hy
      (wpAnyToP_lex hs l (k + 1) m _ _ (fun j hj => by have := hl (j + 1) (by simp; omega); simpa [Nat.add_assoc, Nat.add_comm 1 j] using this) (by omega) (hcl.set hr') hB' hK)
    have := hend l.length (k + 1) _ hB' j hj
    rwa [show k + 1 + l.length = m by omega] at this
/-- One walk of what only reads, up to the operation that waits for all of it. -/
theorem wp_region_to {id : Nat} {Q : Exit → Act → World → Prop} {a : Act} {w : World} {l : List Oper} (m left : Nat) (hm : P.follows .mixedOrders = true) (hs : Region.noSelect l.toArray = true) (hlen : l.length = m + left)
    (hB : lexTo .any l.toArray m 0 (Array.replicate (m + left) false) = true) (hC : C { w with drawn := w.drawn + 1 })
    (h : wpQuiet P l.toArray C (fun a' => ∀ w', C w' → wpAny P .any l.toArray Q left (listedTo m 0 (Array.replicate (m + left) false)) a' w') (l.take m) a) : (Code.region id l.toArray true).wp P Q a w := by
  refine wp_region_any hm ?_
  have hlm : (l.take m).length = m := by rw [List.length_take]; omega
  have h2 := wpAnyToP_lex (C := C) (md := .any) hs (l.take m) 0 m (Array.replicate (m + left) false) a (fun j hj => by rw [hlm] at hj; simp [List.getElem?_take, hj]) (by omega)
    (fun j hj => by
      rcases Nat.lt_or_ge j (m + left) with h' | h'
      · simp [h'] at hj
      · simp [h'] at hj)
    (by rw [hlm]; exact hB) h
  rw [hlm] at h2
  have h3 := wpAny_of_toP (k := left) (Q' := Q) (fun a' w' hw' hq => hq w' hw') m _ a _ hC h2
  rw [← hlen] at h3
  simpa using h3
end
end Go
namespace Go
def forceLast (ops : Array Oper) (s : Nat) : Array Oper := ops.modify s fun o => { o with after := ((List.range s).map fun j => (⟨j, .data⟩ : Edge)).toArray }
section
variable {P : Program} {ops : Array Oper} {md : Region.Mode} {C : World → Prop} {s : Nat}
theorem force_at {i : Nat} (h : i ≠ s) : (forceLast ops s)[i]? = ops[i]? := by
  unfold forceLast; rw [Array.getElem?_modify, if_neg (fun e => h e.symm)]
theorem force_dst (i : Nat) : ((forceLast ops s)[i]?).bind (·.dst) = (ops[i]?).bind (·.dst) := by
  by_cases h : i = s
  · subst h
    unfold forceLast
    rw [Array.getElem?_modify, if_pos rfl]
    cases ops[i]? <;> rfl
  · rw [force_at h]
theorem force_yielded (t : Array Value) : yielded (forceLast ops s) t = yielded ops t := by
  funext j
  unfold yielded
  rw [force_dst]
theorem force_qOp {i : Nat} (h : i ≠ s) {K : Act → Prop} {a : Act} : qOp P (forceLast ops s) C i K a = qOp P ops C i K a := by
  unfold qOp
  rw [force_at h]
  simp only [force_yielded]
theorem force_quiet {Q : Act → Prop} : ∀ (l : List Oper) (a : Act), wpQuiet P (forceLast ops s) C Q l a = wpQuiet P ops C Q l a
  | [], _ => rfl
  | o :: l, a => by
    have e : wpQuiet P (forceLast ops s) C Q l = wpQuiet P ops C Q l := funext (force_quiet l)
    unfold wpQuiet
    rw [force_yielded, e]
theorem force_ready {i : Nat} {listed : Array Bool} (h : i ≠ s) : i ∈ Region.ready md (forceLast ops s) listed ↔ i ∈ Region.ready md ops listed := by
  rw [mem_ready, mem_ready, force_at h]
theorem force_ready_s {listed : Array Bool} : s ∈ Region.ready md (forceLast ops s) listed ↔ listed.getD s true = false ∧ s < ops.size ∧ ∀ j, j < s → listed.getD j false = true := by
  rw [mem_ready]
  constructor
  · rintro ⟨h1, o, ho, h2⟩
    refine ⟨h1, ?_, fun j hj => ?_⟩
    · have := (Array.getElem?_eq_some_iff.1 ho).1
      simpa [forceLast] using this
    · unfold forceLast at ho
      rw [Array.getElem?_modify, if_pos rfl] at ho
      obtain ⟨o', ho', rfl⟩ := Option.map_eq_some_iff.1 ho
      exact h2 ⟨j, .data⟩ (by simp [hj]) rfl
  · rintro ⟨h1, h2, h3⟩
    refine ⟨h1, { ops[s] with after := ((List.range s).map fun j => (⟨j, .data⟩ : Edge)).toArray }, ?_, fun e he _ => ?_⟩
    · unfold forceLast
      rw [Array.getElem?_modify, if_pos rfl, Array.getElem?_eq_getElem h2]; rfl
    · simp at he
      obtain ⟨j, hj, rfl⟩ := he
      exact h3 j hj
/-- What only takes a value apart, or hands it on. -/
def loneOp (o : Oper) : Bool := o.guard.isNone && match o.op with | .extract .. | .move .. => true | _ => false
/-- The writer waits for all but these. -/
def coverX (md : Region.Mode) (ops : Array Oper) (E : List Nat) : Nat → List Nat → Bool
  | 0, _ => true
  | i + 1, S => if E.contains i then coverX md ops E i S else S.contains i && coverX md ops E i (S ++ depsAt md ops i)
theorem cover_x {listed : Array Bool} {E : List Nat} (hc : ClosedL md ops listed) : ∀ (m : Nat) (S : List Nat), coverX md ops E m S = true → (∀ s ∈ S, listed.getD s false = true) → ∀ i, i < m → i ∉ E → listed.getD i false = true
  | 0, _, _, _, _, h, _ => by omega
  | m + 1, S, h, hS, i, hi, hE => by
    unfold coverX at h
    by_cases e : i = m
    · subst e
      rw [if_neg (by simpa using hE)] at h
      simp only [Bool.and_eq_true, List.contains_iff_mem] at h
      exact hS _ h.1
    · split at h
      · exact cover_x hc m _ h hS i (by omega) hE
      · simp only [Bool.and_eq_true, List.contains_iff_mem] at h
        refine cover_x hc m _ h.2 (fun s hs => ?_) i (by omega) hE
        rcases List.mem_append.1 hs with hs | hs
        · exact hS s hs
        · exact hc m (hS m h.1) s hs
/-- What stands listed, where the j-th comes up. -/
def lone0 (s : Nat) (E : List Nat) (j : Nat) : Array Bool := ((List.range (s + 1)).map fun i => decide (i < s) && (!(E.contains i) || decide (i < j))).toArray
def loneB (md : Region.Mode) (ops : Array Oper) (s : Nat) (E : List Nat) : Bool :=
  ((depsAt md ops s).all fun d => decide (d < s)) && E.all fun j => decide (j < s) && (match ops[j]? with | some o => loneOp o | none => false) && Region.free md ops (lone0 s E j) j && (depsAt md ops j).all fun d => decide (d < j)
theorem lone_yields {o : Oper} {v : Value} {a : Act} {w : World} (hl : loneOp o = true) (hw : C w) (hy : YieldsIn P ops C o v a) : Yields P ops o v a := by
  unfold loneOp at hl
  simp only [Bool.and_eq_true, Option.isNone_iff_eq_none] at hl
  obtain ⟨hg, hl⟩ := hl
  have hwant : Region.wanted o (yielded ops a.tmps) = true := by simp [Region.wanted, hg]
  rcases hy with ⟨_, h⟩ | ⟨h, _⟩
  · refine .inl ⟨hwant, fun w' => ?_⟩
    have h := h w hw
    unfold Oper.quietAt at h
    split at hl
    · rename_i x i ho
      simp only [execOp, ho, Instr.extract] at h ⊢
      generalize a.eval x = q at h ⊢
      cases q
      case tuple vs =>
        simp only at h ⊢
        cases hv : vs[i]? with
        | none => rw [hv] at h; simp [Oper.quietUpon] at h
        | some u => rw [hv] at h; simp [Oper.quietUpon] at h ⊢; exact h
      all_goals simp [Oper.quietUpon] at h
    · rename_i x ho
      simp only [execOp, ho] at h ⊢
      simp [Oper.quietUpon] at h ⊢
      exact h
    · cases hl
  · rw [hwant] at h; cases h
theorem least_of {p : Nat → Prop} : ∀ n, p n → ∃ k, p k ∧ k ≤ n ∧ ∀ i, i < k → ¬ p i := by
  intro n
  induction n using Nat.strongRecOn with
  | ind n ih =>
    intro h
    by_cases c : ∃ i, i < n ∧ p i
    · obtain ⟨i, hi, hp⟩ := c
      obtain ⟨k, h1, h2, h3⟩ := ih i hi hp
      exact ⟨k, h1, by omega, h3⟩
    · exact ⟨n, h, Nat.le_refl _, fun i hi hp => c ⟨i, hi, hp⟩⟩
theorem wpAny_of_toX {Q : Act → Prop} {Q' : Exit → Act → World → Prop} {stop : Array Bool} {E : List Nat} (hsel : Region.noSelect ops = true) (hsz : ops.size = s + 1) (hE : loneB md ops s E = true)
    (hcov : coverX md ops E s (depsAt md ops s) = true) (hP : E = [] ∨ ∀ c a d v w, Q' (.panic c) (a.put d v) w → Q' (.panic c) a w)
    (hst : stop.size = s + 1 ∧ stop.getD s true = false ∧ ∀ j, j < s → stop.getD j false = true)
    (hQ : ∀ a w, C w → Q a → wpOp P ops Q' s (fun a' w' => Q' .normal a' w') a w) : ∀ (fuel : Nat) (listed : Array Bool) (a : Act) (w : World), listed.size = s + 1 → ClosedL md ops listed → listed.getD s true = false → C w →
    wpAnyToP P md (forceLast ops s) C s stop Q fuel listed a → wpAny P md ops Q' (fuel + 1) listed a w
  | 0, li, a, w, _, _, _, hw, h => by
    obtain ⟨e0, h⟩ := h
    subst e0
    have key : ∀ i ∈ Region.ready md ops li, i = s := fun i hi => by
      rcases Nat.lt_trichotomy i s with h1 | h1 | h1
      · have h2 := hst.2.2 i h1
        have h3 := (mem_ready.1 hi).1
        rw [show li.getD i true = true by
          have : i < li.size := by omega
          simp [this] at h2 ⊢; exact h2] at h3
        cases h3
      · exact h1
      · obtain ⟨_, o, ho, _⟩ := mem_ready.1 hi
        have := (Array.getElem?_eq_some_iff.1 ho).1
        omega
    have hs : s ∈ Region.ready md ops li := by
      refine mem_ready.2 ⟨hst.2.1, ops[s]'(by omega), Array.getElem?_eq_getElem (by omega), fun e he hb => ?_⟩
      have hd : e.on ∈ depsAt md ops s := (mem_deps (Array.getElem?_eq_getElem (by omega))).2 ⟨e, he, hb, rfl⟩
      rcases Nat.lt_or_ge e.on s with h1 | h1
      · exact hst.2.2 _ h1
      · exfalso
        unfold loneB at hE
        rw [Bool.and_eq_true, List.all_eq_true] at hE
        have := hE.1 _ hd
        simp at this
        omega
    refine ⟨fun h0 => (by rw [h0] at hs; cases hs), fun i hi => ?_⟩
    have ei := key i hi
    rw [ei]
    refine wpOp_mono (fun a' w' h' => ⟨?_, h'⟩) (hQ a w hw h)
    apply List.eq_nil_iff_forall_not_mem.2
    intro j hj
    have h1 := (mem_ready.1 hj).1
    obtain ⟨_, o, ho, _⟩ := mem_ready.1 hj
    have hjs := (Array.getElem?_eq_some_iff.1 ho).1
    by_cases e : j = s
    · subst e
      have : j < li.size := by omega
      simp [this] at h1
    · rw [getD_set_ne true (fun e' => e e'.symm)] at h1
      have h2 := hst.2.2 j (by omega)
      have : j < li.size := by omega
      simp [this] at h1 h2
      rw [h1] at h2; cases h2
  | fuel + 1, listed, a, w, hls, hcl, hsl, hw, h => by
    by_cases hsr : s ∈ Region.ready md ops listed
    · -- all that is left is lone
      obtain ⟨hne, hall⟩ := h
      have hcv : ∀ i, i < s → i ∉ E → listed.getD i false = true := cover_x hcl s _ hcov (ready_deps hsr)
      have hpend : ∃ j, j < s ∧ listed.getD j true = false := by
        obtain ⟨i, hi⟩ := List.exists_mem_of_ne_nil _ hne
        obtain ⟨h1, _⟩ := hall i hi
        exact ⟨i, h1, (mem_ready.1 hi).1⟩
      obtain ⟨j0, hj0⟩ := hpend
      obtain ⟨j, ⟨hjs, hjp⟩, _, hmin⟩ := least_of (p := fun j => j < s ∧ listed.getD j true = false) j0 hj0
      have hjE : j ∈ E := by
        apply Classical.byContradiction
        intro hn
        have h1 := hcv j hjs hn
        have : j < listed.size := by omega
        simp [this] at h1 hjp
        rw [h1] at hjp; cases hjp
      unfold loneB at hE
      have hEj := List.all_eq_true.1 (Bool.and_eq_true _ _ ▸ hE).2 j hjE
      simp only [Bool.and_eq_true, decide_eq_true_eq, List.all_eq_true] at hEj
      obtain ⟨⟨⟨_, hlone⟩, hfree⟩, hdeps⟩ := hEj
      have hoj : ops[j]? = some (ops[j]'(by omega)) := Array.getElem?_eq_getElem (by omega)
      rw [hoj] at hlone
      simp only at hlone
      have hrj : j ∈ Region.ready md ops listed := by
        refine mem_ready.2 ⟨hjp, _, hoj, fun e he hb => ?_⟩
        have hlt := hdeps e.on ((mem_deps hoj).2 ⟨e, he, hb, rfl⟩)
        have hn := hmin e.on hlt
        have : e.on < listed.size := by omega
        have h2 : ¬ (e.on < s ∧ listed.getD e.on true = false) := hn
        simp [this] at h2 ⊢
        exact h2 (by omega)
      obtain ⟨_, hq⟩ := hall j ((force_ready (by omega)).2 hrj)
      rw [force_qOp (by omega)] at hq
      obtain ⟨v, hy, hK⟩ := yieldsIn_of_qOp hoj hq
      have hY := lone_yields hlone hw hy
      have ih := wpAny_of_toX hsel hsz (by unfold loneB; exact hE) hcov hP hst hQ fuel (listed.setIfInBounds j true) (a.put (ops[j]'(by omega)).dst v) w (by simpa using hls) (hcl.set hrj) (by rw [getD_set_ne true (by omega)]; exact hsl) hw hK
      refine wpAny_first hoj (Region.noSelect_spec hsel) (fun c a w => by rcases hP with hP | hP; (rw [hP] at hjE; cases hjE); exact hP c a _ v w) (fuel + 1) listed a w (fun k ok hk hkj hun hno => ?_) hrj hY ih
      refine Region.free_spec hoj hfree k ok hk hkj ?_ hno
      have hks := (Array.getElem?_eq_some_iff.1 hk).1
      have hk1 : k < s + 1 := by omega
      have e0 : (lone0 s E j).getD k true = (decide (k < s) && (!(E.contains k) || decide (k < j))) := by
        unfold lone0
        simp [hk1]
      rw [e0]
      by_cases hk2 : k < s
      · have hkE : k ∈ E := by
          apply Classical.byContradiction
          intro hn
          have h1 := hcv k hk2 hn
          have : k < listed.size := by omega
          simp [this] at h1 hun
          rw [h1] at hun; cases hun
        have hkj2 : ¬ k < j := fun h => hmin k h ⟨hk2, hun⟩
        simp [hkE, hkj2]
      · simp [hk2]
    · obtain ⟨hne, hall⟩ := h
      have hnr : ∀ i ∈ Region.ready md ops listed, i ≠ s := fun i hi e => hsr (e ▸ hi)
      refine ⟨fun h0 => ?_, fun i hi => ?_⟩
      · exfalso
        obtain ⟨i, hi⟩ := List.exists_mem_of_ne_nil _ hne
        obtain ⟨h1, _⟩ := hall i hi
        have := (force_ready (by omega)).1 hi
        rw [h0] at this; cases this
      · obtain ⟨_, hq⟩ := hall i ((force_ready (hnr i hi)).2 hi)
        rw [force_qOp (hnr i hi)] at hq
        exact wpOp_of_qOp hw (fun a' w' hw' h' => wpAny_of_toX hsel hsz hE hcov hP hst hQ fuel _ a' w' (by simpa using hls) (hcl.set hi) (by rw [getD_set_ne true (hnr i hi)]; exact hsl) hw' h') hq
theorem listedTo_size : ∀ (n k : Nat) (l : Array Bool), (listedTo n k l).size = l.size
  | 0, _, _ => rfl
  | n + 1, k, l => by rw [listedTo, listedTo_size n]; simp
theorem listedTo_get : ∀ (n k : Nat) (l : Array Bool) (d : Bool) (j : Nat), k + n ≤ l.size → (listedTo n k l).getD j d = if k ≤ j ∧ j < k + n then true else l.getD j d
  | 0, k, l, d, j, _ => by rw [listedTo, if_neg (by omega)]
  | n + 1, k, l, d, j, h => by
    rw [listedTo, listedTo_get n (k + 1) _ d j (by simp; omega)]
    by_cases c : k + 1 ≤ j ∧ j < k + 1 + n
    · rw [if_pos c, if_pos (by omega)]
    · rw [if_neg c]
      by_cases e : k = j
      · subst e
        rw [if_pos (by omega)]
        have : k < l.size := by omega
        simp [this]
      · rw [if_neg (by omega), getD_set_ne d e]
/-- All that reads, in the order of the text; then the writer, the last of the text. -/
def lastB (ops : Array Oper) (s : Nat) (E : List Nat) : Bool :=
  loneB .any ops s E && coverX .any ops E s (depsAt .any ops s) && lexTo .any (forceLast ops s) s 0 (Array.replicate (s + 1) false)
theorem wp_region_last {id : Nat} {Q : Exit → Act → World → Prop} {a : Act} {w : World} {l : List Oper} (s : Nat) (E : List Nat) (hm : P.follows .mixedOrders = true) (hs : Region.noSelect l.toArray = true) (hs2 : Region.noSelect (forceLast l.toArray s) = true) (hlen : l.length = s + 1)
    (hB : lastB l.toArray s E = true) (hP : E = [] ∨ ∀ c a d v w, Q (.panic c) (a.put d v) w → Q (.panic c) a w) (hC : C { w with drawn := w.drawn + 1 })
    (h : wpQuiet P l.toArray C (fun a' => ∀ w', C w' → wpOp P l.toArray Q s (fun a'' w'' => Q .normal a'' w'') a' w') (l.take s) a) : (Code.region id l.toArray true).wp P Q a w := by
  unfold lastB at hB
  simp only [Bool.and_eq_true] at hB
  obtain ⟨⟨hE, hcov⟩, hlex⟩ := hB
  refine wp_region_any hm ?_
  have hlm : (l.take s).length = s := by rw [List.length_take]; omega
  have hsz : l.toArray.size = s + 1 := by simpa using hlen
  rw [← force_quiet (s := s)] at h
  have h2 := wpAnyToP_lex (C := C) (md := .any) hs2 (l.take s) 0 s (Array.replicate (s + 1) false) a (fun j hj => by
      rw [hlm] at hj
      rw [Nat.zero_add, force_at (by omega)]
      simp [List.getElem?_take, hj]) (by omega)
    (fun j hj => by
      rcases Nat.lt_or_ge j (s + 1) with h' | h'
      · simp [h'] at hj
      · simp [h'] at hj)
    (by rw [hlm]; exact hlex) h
  rw [hlm] at h2
  have h3 := wpAny_of_toX (md := .any) (C := C) (Q' := Q) hs hsz hE hcov hP (by
      refine ⟨by rw [listedTo_size]; simp, ?_, fun j hj => ?_⟩
      · rw [listedTo_get _ _ _ _ _ (by simp), if_neg (by omega)]; simp
      · rw [listedTo_get _ _ _ _ _ (by simp), if_pos (by omega)]) (fun a' w' hw' hq => hq w' hw') s (Array.replicate (s + 1) false) a _ (by simp) (fun j hj => by
      rcases Nat.lt_or_ge j (s + 1) with h' | h'
      · simp [h'] at hj
      · simp [h'] at hj) (by simp) hC h2
  rw [hsz]
  exact h3
end
end Go
namespace Go
def forceFrom (ops : Array Oper) (s : Nat) : Array Oper := ops.mapIdx fun i o => if s ≤ i then { o with after := o.after ++ ((List.range s).map fun j => (⟨j, .data⟩ : Edge)).toArray } else o
section
variable {P : Program} {ops : Array Oper} {md : Region.Mode} {C : World → Prop} {s : Nat}
theorem forceF_at {i : Nat} (h : i < s) : (forceFrom ops s)[i]? = ops[i]? := by
  unfold forceFrom
  rw [Array.getElem?_mapIdx]
  cases ops[i]? with
  | none => rfl
  | some o => simp; omega
theorem forceF_dst (i : Nat) : ((forceFrom ops s)[i]?).bind (·.dst) = (ops[i]?).bind (·.dst) := by
  unfold forceFrom
  rw [Array.getElem?_mapIdx]
  cases ops[i]? with
  | none => rfl
  | some o => simp only [Option.map_some, Option.bind_some]; split <;> rfl
theorem forceF_yielded (t : Array Value) : yielded (forceFrom ops s) t = yielded ops t := by
  funext j
  unfold yielded
  rw [forceF_dst]
theorem forceF_qOp {i : Nat} (h : i < s) {K : Act → Prop} {a : Act} : qOp P (forceFrom ops s) C i K a = qOp P ops C i K a := by
  unfold qOp
  rw [forceF_at h]
  simp only [forceF_yielded]
theorem forceF_quiet {Q : Act → Prop} : ∀ (l : List Oper) (a : Act), wpQuiet P (forceFrom ops s) C Q l a = wpQuiet P ops C Q l a
  | [], _ => rfl
  | o :: l, a => by
    have e : wpQuiet P (forceFrom ops s) C Q l = wpQuiet P ops C Q l := funext (forceF_quiet l)
    unfold wpQuiet
    rw [forceF_yielded, e]
theorem forceF_ready {i : Nat} {listed : Array Bool} (h : i < s) : i ∈ Region.ready md (forceFrom ops s) listed ↔ i ∈ Region.ready md ops listed := by
  rw [mem_ready, mem_ready, forceF_at h]
/-- What stands listed, where the j-th comes up. -/
def lone0F (n s : Nat) (E : List Nat) (j : Nat) : Array Bool := ((List.range n).map fun i => decide (i < s) && (!(E.contains i) || decide (i < j))).toArray
def loneBF (md : Region.Mode) (ops : Array Oper) (s : Nat) (E : List Nat) : Bool :=
  (E.all fun j => decide (j < s) && (match ops[j]? with | some o => loneOp o | none => false) && Region.free md ops (lone0F ops.size s E j) j && (depsAt md ops j).all fun d => decide (d < j)) &&
  (List.range ops.size).all fun j => decide (j < s) || !((depsAt md ops j).all fun d => decide (d < s)) || coverX md ops E s (depsAt md ops j)
theorem wpAny_of_toF {Q : Act → Prop} {Q' : Exit → Act → World → Prop} {stop : Array Bool} {E : List Nat} {k : Nat} (hsel : Region.noSelect ops = true) (hsz : s ≤ ops.size) (hE : loneBF md ops s E = true)
    (hP : E = [] ∨ ∀ c a d v w, Q' (.panic c) (a.put d v) w → Q' (.panic c) a w)
    (hQ : ∀ a w, C w → Q a → wpAny P md ops Q' k stop a w) : ∀ (fuel : Nat) (listed : Array Bool) (a : Act) (w : World), listed.size = ops.size → ClosedL md ops listed → (∀ i, listed.getD i false = true → i < s) → C w →
    wpAnyToP P md (forceFrom ops s) C s stop Q fuel listed a → wpAny P md ops Q' (fuel + k) listed a w
  | 0, li, a, w, _, _, _, hw, h => by
    obtain ⟨e0, h⟩ := h
    subst e0
    rw [Nat.zero_add]
    exact hQ a w hw h
  | fuel + 1, listed, a, w, hls, hcl, hlo, hw, h => by
    rw [Nat.add_right_comm]
    unfold loneBF at hE
    have hE1 := (Bool.and_eq_true _ _ ▸ hE).1
    have hE2 := (Bool.and_eq_true _ _ ▸ hE).2
    by_cases hsr : ∃ i, i ∈ Region.ready md ops listed ∧ s ≤ i
    · obtain ⟨i1, hi1, hsi⟩ := hsr
      obtain ⟨hne, hall⟩ := h
      have hi1l : i1 < ops.size := by
        obtain ⟨_, o, ho, _⟩ := mem_ready.1 hi1
        exact (Array.getElem?_eq_some_iff.1 ho).1
      have hcov : coverX md ops E s (depsAt md ops i1) = true := by
        have := List.all_eq_true.1 hE2 i1 (List.mem_range.2 hi1l)
        simp only [Bool.or_eq_true, decide_eq_true_eq, Bool.not_eq_true'] at this
        rcases this with (h1 | h1) | h1
        · omega
        · exfalso
          have : ((depsAt md ops i1).all fun d => decide (d < s)) = true := List.all_eq_true.2 fun d hd => by simpa using hlo d (ready_deps hi1 d hd)
          rw [this] at h1; cases h1
        · exact h1
      have hcv : ∀ i, i < s → i ∉ E → listed.getD i false = true := cover_x hcl s _ hcov (ready_deps hi1)
      have hpend : ∃ j, j < s ∧ listed.getD j true = false := by
        obtain ⟨i, hi⟩ := List.exists_mem_of_ne_nil _ hne
        obtain ⟨h1, _⟩ := hall i hi
        exact ⟨i, h1, (mem_ready.1 hi).1⟩
      obtain ⟨j0, hj0⟩ := hpend
      obtain ⟨j, ⟨hjs, hjp⟩, _, hmin⟩ := least_of (p := fun j => j < s ∧ listed.getD j true = false) j0 hj0
      have hjE : j ∈ E := by
        apply Classical.byContradiction
        intro hn
        have h1 := hcv j hjs hn
        have : j < listed.size := by omega
        simp [this] at h1 hjp
        rw [h1] at hjp; cases hjp
      have hEj := List.all_eq_true.1 hE1 j hjE
      simp only [Bool.and_eq_true, decide_eq_true_eq, List.all_eq_true] at hEj
      obtain ⟨⟨⟨_, hlone⟩, hfree⟩, hdeps⟩ := hEj
      have hoj : ops[j]? = some (ops[j]'(by omega)) := Array.getElem?_eq_getElem (by omega)
      rw [hoj] at hlone
      simp only at hlone
      have hrj : j ∈ Region.ready md ops listed := by
        refine mem_ready.2 ⟨hjp, _, hoj, fun e he hb => ?_⟩
        have hlt := hdeps e.on ((mem_deps hoj).2 ⟨e, he, hb, rfl⟩)
        have hn := hmin e.on hlt
        have : e.on < listed.size := by omega
        have h2 : ¬ (e.on < s ∧ listed.getD e.on true = false) := hn
        simp [this] at h2 ⊢
        exact h2 (by omega)
      obtain ⟨_, hq⟩ := hall j ((forceF_ready hjs).2 hrj)
      rw [forceF_qOp hjs] at hq
      obtain ⟨v, hy, hK⟩ := yieldsIn_of_qOp hoj hq
      have hY := lone_yields hlone hw hy
      have ih := wpAny_of_toF hsel hsz (by unfold loneBF; exact hE) hP hQ fuel (listed.setIfInBounds j true) (a.put (ops[j]'(by omega)).dst v) w (by simpa using hls) (hcl.set hrj) (fun i hi => by
        rcases getD_of_set hi with rfl | hi
        · exact hjs
        · exact hlo i hi) hw hK
      refine wpAny_first hoj (Region.noSelect_spec hsel) (fun c a w => by rcases hP with hP | hP; (rw [hP] at hjE; cases hjE); exact hP c a _ v w) (fuel + k) listed a w (fun q ok hk hkj hun hno => ?_) hrj hY ih
      refine Region.free_spec hoj hfree q ok hk hkj ?_ hno
      have hks := (Array.getElem?_eq_some_iff.1 hk).1
      have e0 : (lone0F ops.size s E j).getD q true = (decide (q < s) && (!(E.contains q) || decide (q < j))) := by
        unfold lone0F
        simp [hks]
      rw [e0]
      by_cases hk2 : q < s
      · have hkE : q ∈ E := by
          apply Classical.byContradiction
          intro hn
          have h1 := hcv q hk2 hn
          have : q < listed.size := by omega
          simp [this] at h1 hun
          rw [h1] at hun; cases hun
        have hkj2 : ¬ q < j := fun h => hmin q h ⟨hk2, hun⟩
        simp [hkE, hkj2]
      · simp [hk2]
    · obtain ⟨hne, hall⟩ := h
      have hnr : ∀ i ∈ Region.ready md ops listed, i < s := fun i hi => by
        rcases Nat.lt_or_ge i s with h1 | h1
        · exact h1
        · exact absurd ⟨i, hi, h1⟩ hsr
      refine ⟨fun h0 => ?_, fun i hi => ?_⟩
      · exfalso
        obtain ⟨i, hi⟩ := List.exists_mem_of_ne_nil _ hne
        obtain ⟨h1, _⟩ := hall i hi
        have := (forceF_ready h1).1 hi
        rw [h0] at this; cases this
      · obtain ⟨_, hq⟩ := hall i ((forceF_ready (hnr i hi)).2 hi)
        rw [forceF_qOp (hnr i hi)] at hq
        exact wpOp_of_qOp hw (fun a' w' hw' h' => wpAny_of_toF hsel hsz (by unfold loneBF; exact hE) hP hQ fuel _ a' w' (by simpa using hls) (hcl.set hi) (fun q hq => by
          rcases getD_of_set hq with rfl | hq
          · exact hnr q hi
          · exact hlo q hq) hw' h') hq
def fromB (ops : Array Oper) (s : Nat) (E : List Nat) : Bool := loneBF .any ops s E && lexTo .any (forceFrom ops s) s 0 (Array.replicate ops.size false)
/-- All that reads, in the order of the text; what comes behind is left. -/
theorem wp_region_from {id : Nat} {Q : Exit → Act → World → Prop} {a : Act} {w : World} {l : List Oper} (s left : Nat) (E : List Nat) (hm : P.follows .mixedOrders = true) (hs : Region.noSelect l.toArray = true) (hs2 : Region.noSelect (forceFrom l.toArray s) = true) (hlen : l.length = s + left)
    (hB : fromB l.toArray s E = true) (hP : E = [] ∨ ∀ c a d v w, Q (.panic c) (a.put d v) w → Q (.panic c) a w) (hC : C { w with drawn := w.drawn + 1 })
    (h : wpQuiet P l.toArray C (fun a' => ∀ w', C w' → wpAny P .any l.toArray Q left (listedTo s 0 (Array.replicate (s + left) false)) a' w') (l.take s) a) : (Code.region id l.toArray true).wp P Q a w := by
  unfold fromB at hB
  simp only [Bool.and_eq_true] at hB
  obtain ⟨hE, hlex⟩ := hB
  refine wp_region_any hm ?_
  have hlm : (l.take s).length = s := by rw [List.length_take]; omega
  have hsz : l.toArray.size = s + left := by simpa using hlen
  rw [hsz] at hlex
  rw [← forceF_quiet (s := s)] at h
  have hcl0 : ∀ md (ops : Array Oper), ClosedL md ops (Array.replicate (s + left) false) := fun md ops j hj => by
    rcases Nat.lt_or_ge j (s + left) with h' | h'
    · simp [h'] at hj
    · simp [h'] at hj
  have h2 := wpAnyToP_lex (C := C) (md := .any) hs2 (l.take s) 0 s (Array.replicate (s + left) false) a (fun j hj => by
      rw [hlm] at hj
      rw [Nat.zero_add, forceF_at hj]
      simp [List.getElem?_take, hj]) (by omega) (hcl0 _ _) (by rw [hlm]; exact hlex) h
  rw [hlm] at h2
  have h3 := wpAny_of_toF (md := .any) (C := C) (Q' := Q) (k := left) hs (by omega) hE hP (fun a' w' hw' hq => hq w' hw') s (Array.replicate (s + left) false) a _ (by rw [hsz]; simp) (hcl0 _ _) (fun i hi => by
    rcases Nat.lt_or_ge i (s + left) with h' | h'
    · simp [h'] at hi
    · simp [h'] at hi) hC h2
  rw [hsz]
  exact h3
end
end Go
