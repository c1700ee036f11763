/-
  A region that draws its order and begins with what only reads: one walk up to an operation that waits for all of these (a call). Plain laws. No condition.
-/
import Derived.Sort.BigQuietIn
import Derived.OwnWalkIn
import Derived.Test.YtdeejiiegmddaaaPast
namespace Go
section
variable {F : Fence} {n : Nat} {P : Program} {ops : Array Oper} {md : Region.Mode} {C : World → Prop}
/-- What an operation waits for. -/
def depsAt (md : Region.Mode) (ops : Array Oper) (j : Nat) : List Nat := match ops[j]? with
  | none => []
  | some o => (o.after.toList.filter (Region.binds md)).map (·.on)
/-- Whoever waits for all of S waits for all ahead of i. -/
def coverFrom (md : Region.Mode) (ops : Array Oper) : Nat → List Nat → Bool
  | 0, _ => true
  | i + 1, S => S.contains i && coverFrom md ops i (S ++ depsAt md ops i)
def lexTo (md : Region.Mode) (ops : Array Oper) : Nat → Nat → Array Bool → Bool
  | 0, m, listed => (Region.ready md ops listed).all fun j => coverFrom md ops m (depsAt md ops j)
  | left + 1, k, listed => (Region.ready md ops listed).contains k && Region.free md ops listed k && lexTo md ops left (k + 1) (listed.setIfInBounds k true)
def listedTo : Nat → Nat → Array Bool → Array Bool
  | 0, _, listed => listed
  | left + 1, k, listed => listedTo left (k + 1) (listed.setIfInBounds k true)
def ClosedL (md : Region.Mode) (ops : Array Oper) (listed : Array Bool) : Prop := ∀ j, listed.getD j false = true → ∀ e ∈ depsAt md ops j, listed.getD e false = true
theorem mem_deps {j : Nat} {o : Oper} (ho : ops[j]? = some o) {d : Nat} : d ∈ depsAt md ops j ↔ ∃ e ∈ o.after, Region.binds md e = true ∧ e.on = d := by
  unfold depsAt
  simp only [ho, List.mem_map, List.mem_filter, Array.mem_toList_iff]
  exact ⟨fun ⟨e, ⟨h1, h2⟩, h3⟩ => ⟨e, h1, h2, h3⟩, fun ⟨e, h1, h2, h3⟩ => ⟨e, ⟨h1, h2⟩, h3⟩⟩
theorem cover_all {listed : Array Bool} (hc : ClosedL md ops listed) : ∀ (m : Nat) (S : List Nat), coverFrom md ops m S = true → (∀ s ∈ S, listed.getD s false = true) → ∀ i, i < m → listed.getD i false = true
  | 0, _, _, _, _, h => by omega
  | m + 1, S, h, hS, i, hi => by
    simp only [coverFrom, Bool.and_eq_true, List.contains_iff_mem] at h
    by_cases e : i = m
    · subst e; exact hS _ h.1
    · refine cover_all hc m _ h.2 (fun s hs => ?_) i (by omega)
      rcases List.mem_append.1 hs with hs | hs
      · exact hS s hs
      · exact hc m (hS m h.1) s hs
theorem getD_of_set {listed : Array Bool} {i j : Nat} (h : (listed.setIfInBounds i true).getD j false = true) : j = i ∨ listed.getD j false = true := by
  by_cases e : i = j
  · exact .inl e.symm
  · rw [getD_set_ne false e] at h; exact .inr h
theorem ready_deps {j : Nat} {listed : Array Bool} (h : j ∈ Region.ready md ops listed) : ∀ d ∈ depsAt md ops j, listed.getD d false = true := by
  obtain ⟨_, o, ho, hall⟩ := mem_ready.1 h
  intro d hd
  obtain ⟨e, he, hb, rfl⟩ := (mem_deps ho).1 hd
  exact hall e he hb
theorem ClosedL.set {listed : Array Bool} (hc : ClosedL md ops listed) {i : Nat} (h : i ∈ Region.ready md ops listed) : ClosedL md ops (listed.setIfInBounds i true) := by
  intro j hj d hd
  rcases getD_of_set hj with rfl | hj
  · exact getD_set_true (ready_deps h d hd)
  · exact getD_set_true (hc j hj d hd)
/-- Whatever order is picked from here on, up to 'stop'. -/
def wpAnyTo (F : Fence) (n : Nat) (P : Program) (md : Region.Mode) (ops : Array Oper) (C : World → Prop) (m : Nat) (stop : Array Bool) (Q : Act → Prop) : Nat → Array Bool → Act → Prop
  | 0, listed, a => listed = stop ∧ Q a
  | fuel + 1, listed, a => Region.ready md ops listed ≠ [] ∧ ∀ i ∈ Region.ready md ops listed, i < m ∧ qOpIn F n P ops C i (wpAnyTo F n P md ops C m stop Q fuel (listed.setIfInBounds i true)) a
theorem wpAnyIn_of_to {Q : Act → Prop} {Q' : Exit → Act → World → Prop} {m k : Nat} {stop : Array Bool} (hro : F.round = none) (hQ : ∀ a w, C w → Q a → wpAnyIn F n P md ops Q' k stop a w) : ∀ (fuel : Nat) (listed : Array Bool) (a : Act) (w : World), C w →
    wpAnyTo F n P md ops C m stop Q fuel listed a → wpAnyIn F n P md ops Q' (fuel + k) listed a w
  | 0, _, _, _, hw, h => by
    obtain ⟨rfl, h⟩ := h
    rw [Nat.zero_add]
    exact hQ _ _ hw h
  | fuel + 1, _, _, _, hw, h => by
    rw [Nat.add_right_comm]
    exact ⟨fun h0 => absurd h0 h.1, fun i hi => wpOpIn_of_qOpIn hro hw (fun a' w' hw' => wpAnyIn_of_to hro hQ fuel _ a' w' hw') (h.2 i hi).2⟩
theorem wpAnyTo_first {Q : Act → Prop} {m : Nat} {stop : Array Bool} {i : Nat} {oi : Oper} {v : Value} (hi : ops[i]? = some oi) (him : i < m) (hsel : ∀ (j : Nat) (o : Oper) cs b, ops[j]? = some o → o.op ≠ .select cs b)
    (hstop : ∀ j ∈ Region.ready md ops stop, coverFrom md ops m (depsAt md ops j) = true) :
    ∀ (fuel : Nat) (listed : Array Bool) (a : Act), ClosedL md ops listed →
      (∀ j oj, ops[j]? = some oj → j ≠ i → listed.getD j true = false → (∀ e ∈ oj.after, Region.binds md e = true → e.on ≠ i) → oi.apart ops oj = true) →
      i ∈ Region.ready md ops listed → YieldsQuiet F n P ops C oi v a →
      wpAnyTo F n P md ops C m stop Q fuel (listed.setIfInBounds i true) (a.put oi.dst v) → wpAnyTo F n P md ops C m stop Q (fuel + 1) listed a := by
  intro fuel
  induction fuel with
  | zero =>
    intro listed a hcl _ hr hy H
    refine ⟨fun h => (by rw [h] at hr; cases hr), fun j hj => ?_⟩
    by_cases hji : j = i
    · subst hji; exact ⟨him, hy.qOpIn hi H⟩
    · have hj2 := ready_mono hj hji
      rw [H.1] at hj2
      have h1 := cover_all hcl m _ (hstop j hj2) (ready_deps hj) i him
      have h2 := (mem_ready.1 hr).1
      rcases Nat.lt_or_ge i listed.size with h' | h'
      · simp [h'] at h1 h2; rw [h1] at h2; cases h2
      · simp [Array.getElem?_eq_none h'] at h1
  | succ fuel ih =>
    intro listed a hcl hfree hr hy H
    refine ⟨fun h => (by rw [h] at hr; cases hr), fun j hj => ?_⟩
    by_cases hji : j = i
    · subst hji; exact ⟨him, hy.qOpIn hi H⟩
    · obtain ⟨hjm, h1⟩ := H.2 j (ready_mono hj hji)
      refine ⟨hjm, ?_⟩
      obtain ⟨hjun, oj, hoj, hall⟩ := mem_ready.1 hj
      have hnot : ∀ e ∈ oj.after, Region.binds md e = true → e.on ≠ i := fun e he hb heq => by
        have h1 := hall e he hb
        have h0 := (mem_ready.1 hr).1
        rw [heq] at h1
        rcases Nat.lt_or_ge i listed.size with h' | h'
        · simp [h'] at h0 h1; rw [h0] at h1; cases h1
        · simp [Array.getElem?_eq_none h'] at h1
      have h2 := qOpIn_put hoj (hfree j oj hoj hji hjun hnot) (fun cs b => hsel i oi cs b hi) (fun cs b => hsel j oj cs b hoj) hy h1
      refine qOpIn_mono (fun a' h3 => ih (listed.setIfInBounds j true) a' (hcl.set hj) (fun k ok hk hki hun hno => ?_) (ready_mono hr (Ne.symm hji)) h3.1 ?_) h2
      · refine hfree k ok hk hki ?_ hno
        by_cases hjk : j = k
        · subst hjk; exact hjun
        · rw [getD_set_ne true hjk] at hun; exact hun
      · rw [Array.setIfInBounds_comm _ _ hji]
        exact h3.2
theorem wpAnyTo_lex {Q : Act → Prop} (hs : Region.noSelect ops = true) : ∀ (l : List Oper) (k m : Nat) (listed : Array Bool) (a : Act), (∀ j, j < l.length → l[j]? = ops[k + j]?) → k + l.length = m → ClosedL md ops listed →
    lexTo md ops l.length k listed = true → wpQuietIn F n P ops C Q l a → wpAnyTo F n P md ops C m (listedTo l.length k listed) Q l.length listed a
  | [], _, _, _, _, _, _, _, _, h => ⟨rfl, h⟩
  | o :: l, k, m, listed, a, hl, hkm, hcl, hB, h => by
    have h0 : ops[k]? = some o := by simpa using (hl 0 (by simp)).symm
    simp only [List.length_cons, lexTo, Bool.and_eq_true] at hB
    obtain ⟨⟨hr, hf⟩, hB'⟩ := hB
    have hr' : k ∈ Region.ready md ops listed := by simpa using hr
    simp only [List.length_cons] at hkm
    have hst : qOpIn F n P ops C k (wpQuietIn F n P ops C Q l) a := by unfold qOpIn; simp only [h0]; exact h
    obtain ⟨v, hy, hK⟩ := yieldsQuiet_of_qOpIn h0 hst
    have hend : ∀ (left k : Nat) (listed : Array Bool), lexTo md ops left k listed = true → ∀ j ∈ Region.ready md ops (listedTo left k listed), coverFrom md ops (k + left) (depsAt md ops j) = true := by
      intro left
      induction left with
      | zero => intro k listed h j hj; simp only [lexTo, List.all_eq_true] at h; exact h j hj
      | succ left ih =>
        intro k listed h j hj
        simp only [lexTo, Bool.and_eq_true] at h
        have := ih (k + 1) _ h.2 j hj
        rwa [show k + (left + 1) = k + 1 + left by omega]
    refine wpAnyTo_first h0 (by omega) (Region.noSelect_spec hs) (fun j hj => ?_) l.length listed a hcl (Region.free_spec h0 hf) hr' hy
      (wpAnyTo_lex hs l (k + 1) m _ _ (fun j hj => by have := hl (j + 1) (by simp; omega); simpa [Nat.add_assoc, Nat.add_comm 1 j] using this) (by omega) (hcl.set hr') hB' hK)
    have := hend l.length (k + 1) _ hB' j hj
    rwa [show k + 1 + l.length = m by omega] at this
/-- One walk of what only reads, up to the operation that waits for all of it. -/
theorem wpIn_region_to {id : Nat} {Q : Exit → Act → World → Prop} {a : Act} {w : World} {l : List Oper} (m left : Nat) (hro : F.round = none) (hm : P.follows .mixedOrders = true) (hs : Region.noSelect l.toArray = true) (hlen : l.length = m + left)
    (hB : lexTo .any l.toArray m 0 (Array.replicate (m + left) false) = true) (hC : C { w with drawn := w.drawn + 1 })
    (h : wpQuietIn F n P l.toArray C (fun a' => ∀ w', C w' → wpAnyIn F n P .any l.toArray Q left (listedTo m 0 (Array.replicate (m + left) false)) a' w') (l.take m) a) : (Code.region id l.toArray true).wpIn F n P Q a w := by
  refine wpIn_region_any hm ?_
  have hlm : (l.take m).length = m := by rw [List.length_take]; omega
  have h2 := wpAnyTo_lex (F := F) (n := n) (C := C) (md := .any) hs (l.take m) 0 m (Array.replicate (m + left) false) a (fun j hj => by rw [hlm] at hj; simp [List.getElem?_take, hj]) (by omega)
    (fun j hj => by
      rcases Nat.lt_or_ge j (m + left) with h' | h'
      · simp [h'] at hj
      · simp [h'] at hj)
    (by rw [hlm]; exact hB) h
  rw [hlm] at h2
  have h3 := wpAnyIn_of_to (k := left) (Q' := Q) hro (fun a' w' hw' hq => hq w' hw') m _ a _ hC h2
  rw [← hlen] at h3
  simpa using h3
end
end Go
