/-
  XRegTo's law outside a fence. Plain laws. No condition.
-/
import Derived.Test.YtdeejiiegmddaaaRegTo
import Derived.BigQuiet
namespace Go
section
variable {P : Program} {ops : Array Oper} {md : Region.Mode} {C : World → Prop}
/-- Whatever order is picked from here on, up to 'stop'. -/
def wpAnyToP (P : Program) (md : Region.Mode) (ops : Array Oper) (C : World → Prop) (m : Nat) (stop : Array Bool) (Q : Act → Prop) : Nat → Array Bool → Act → Prop
  | 0, listed, a => listed = stop ∧ Q a
  | fuel + 1, listed, a => Region.ready md ops listed ≠ [] ∧ ∀ i ∈ Region.ready md ops listed, i < m ∧ qOp P ops C i (wpAnyToP P md ops C m stop Q fuel (listed.setIfInBounds i true)) a
theorem wpAny_of_toP {Q : Act → Prop} {Q' : Exit → Act → World → Prop} {m k : Nat} {stop : Array Bool} (hQ : ∀ a w, C w → Q a → wpAny P md ops Q' k stop a w) : ∀ (fuel : Nat) (listed : Array Bool) (a : Act) (w : World), C w →
    wpAnyToP P md ops C m stop Q fuel listed a → wpAny P md ops Q' (fuel + k) listed a w
  | 0, _, _, _, hw, h => by
    obtain ⟨rfl, h⟩ := h
    rw [Nat.zero_add]
    exact hQ _ _ hw h
  | fuel + 1, _, _, _, hw, h => by
    rw [Nat.add_right_comm]
    exact ⟨fun h0 => absurd h0 h.1, fun i hi => wpOp_of_qOp hw (fun a' w' hw' => wpAny_of_toP hQ fuel _ a' w' hw') (h.2 i hi).2⟩
theorem wpAnyToP_first {Q : Act → Prop} {m : Nat} {stop : Array Bool} {i : Nat} {oi : Oper} {v : Value} (hi : ops[i]? = some oi) (him : i < m) (hsel : ∀ (j : Nat) (o : Oper) cs b, ops[j]? = some o → o.op ≠ .select cs b)
    (hstop : ∀ j ∈ Region.ready md ops stop, coverFrom md ops m (depsAt md ops j) = true) :
    ∀ (fuel : Nat) (listed : Array Bool) (a : Act), ClosedL md ops listed →
      (∀ j oj, ops[j]? = some oj → j ≠ i → listed.getD j true = false → (∀ e ∈ oj.after, Region.binds md e = true → e.on ≠ i) → oi.apart ops oj = true) →
      i ∈ Region.ready md ops listed → YieldsIn P ops C oi v a →
      wpAnyToP P md ops C m stop Q fuel (listed.setIfInBounds i true) (a.put oi.dst v) → wpAnyToP P md ops C m stop Q (fuel + 1) listed a := by
  intro fuel
  induction fuel with
  | zero =>
    intro listed a hcl _ hr hy H
    refine ⟨fun h => (by rw [h] at hr; cases hr), fun j hj => ?_⟩
    by_cases hji : j = i
    · subst hji; exact ⟨him, hy.qOp hi H⟩
    · have hj2 := ready_mono hj hji
      rw [H.1] at hj2
      have h1 := cover_all hcl m _ (hstop j hj2) (ready_deps hj) i him
      have h2 := (mem_ready.1 hr).1
      rcases Nat.lt_or_ge i listed.size with h' | h'
      · simp [h'] at h1 h2; rw [h1] at h2; cases h2
      · simp [Array.getElem?_eq_none h'] at h1
  | succ fuel ih =>
    intro listed a hcl hfree hr hy H
    refine ⟨fun h => (by rw [h] at hr; cases hr), fun j hj => ?_⟩
    by_cases hji : j = i
    · subst hji; exact ⟨him, hy.qOp hi H⟩
    · obtain ⟨hjm, h1⟩ := H.2 j (ready_mono hj hji)
      refine ⟨hjm, ?_⟩
      obtain ⟨hjun, oj, hoj, hall⟩ := mem_ready.1 hj
      have hnot : ∀ e ∈ oj.after, Region.binds md e = true → e.on ≠ i := fun e he hb heq => by
        have h1 := hall e he hb
        have h0 := (mem_ready.1 hr).1
        rw [heq] at h1
        rcases Nat.lt_or_ge i listed.size with h' | h'
        · simp [h'] at h0 h1; rw [h0] at h1; cases h1
        · simp [Array.getElem?_eq_none h'] at h1
      have h2 := qOp_put hoj (hfree j oj hoj hji hjun hnot) (fun cs b => hsel i oi cs b hi) (fun cs b => hsel j oj cs b hoj) hy h1
      refine qOp_mono (fun a' h3 => ih (listed.setIfInBounds j true) a' (hcl.set hj) (fun k ok hk hki hun hno => ?_) (ready_mono hr (Ne.symm hji)) h3.1 ?_) h2
      · refine hfree k ok hk hki ?_ hno
        by_cases hjk : j = k
        · subst hjk; exact hjun
        · rw [getD_set_ne true hjk] at hun; exact hun
      · rw [Array.setIfInBounds_comm _ _ hji]
        exact h3.2
theorem wpAnyToP_lex {Q : Act → Prop} (hs : Region.noSelect ops = true) : ∀ (l : List Oper) (k m : Nat) (listed : Array Bool) (a : Act), (∀ j, j < l.length → l[j]? = ops[k + j]?) → k + l.length = m → ClosedL md ops listed →
    lexTo md ops l.length k listed = true → wpQuiet P ops C Q l a → wpAnyToP P md ops C m (listedTo l.length k listed) Q l.length listed a
  | [], _, _, _, _, _, _, _, _, h => ⟨rfl, h⟩
  | o :: l, k, m, listed, a, hl, hkm, hcl, hB, h => by
    have h0 : ops[k]? = some o := by simpa using (hl 0 (by simp)).symm
    simp only [List.length_cons, lexTo, Bool.and_eq_true] at hB
    obtain ⟨⟨hr, hf⟩, hB'⟩ := hB
    have hr' : k ∈ Region.ready md ops listed := by simpa using hr
    simp only [List.length_cons] at hkm
    have hst : qOp P ops C k (wpQuiet P ops C Q l) a := by unfold qOp; simp only [h0]; exact h
    obtain ⟨v, hy, hK⟩ := yieldsIn_of_qOp h0 hst
    have hend : ∀ (left k : Nat) (listed : Array Bool), lexTo md ops left k listed = true → ∀ j ∈ Region.ready md ops (listedTo left k listed), coverFrom md ops (k + left) (depsAt md ops j) = true := by
      intro left
      induction left with
      | zero => intro k listed h j hj; simp only [lexTo, List.all_eq_true] at h; exact h j hj
      | succ left ih =>
        intro k listed h j hj
        simp only [lexTo, Bool.and_eq_true] at h
        have := ih (k + 1) _ h.2 j hj
        rwa [show k + (left + 1) = k + 1 + left by omega]
    refine wpAnyToP_first h0 (by omega) (Region.noSelect_spec hs) (fun j hj => ?_) l.length listed a hcl (Region.free_spec h0 hf) hr' hy
      (wpAnyToP_lex hs l (k + 1) m _ _ (fun j hj => by have := hl (j + 1) (by simp; omega); simpa [Nat.add_assoc, Nat.add_comm 1 j] using this) (by omega) (hcl.set hr') hB' hK)
    have := hend l.length (k + 1) _ hB' j hj
    rwa [show k + 1 + l.length = m by omega] at this
/-- One walk of what only reads, up to the operation that waits for all of it. -/
theorem wp_region_to {id : Nat} {Q : Exit → Act → World → Prop} {a : Act} {w : World} {l : List Oper} (m left : Nat) (hm : P.follows .mixedOrders = true) (hs : Region.noSelect l.toArray = true) (hlen : l.length = m + left)
    (hB : lexTo .any l.toArray m 0 (Array.replicate (m + left) false) = true) (hC : C { w with drawn := w.drawn + 1 })
    (h : wpQuiet P l.toArray C (fun a' => ∀ w', C w' → wpAny P .any l.toArray Q left (listedTo m 0 (Array.replicate (m + left) false)) a' w') (l.take m) a) : (Code.region id l.toArray true).wp P Q a w := by
  refine wp_region_any hm ?_
  have hlm : (l.take m).length = m := by rw [List.length_take]; omega
  have h2 := wpAnyToP_lex (C := C) (md := .any) hs (l.take m) 0 m (Array.replicate (m + left) false) a (fun j hj => by rw [hlm] at hj; simp [List.getElem?_take, hj]) (by omega)
    (fun j hj => by
      rcases Nat.lt_or_ge j (m + left) with h' | h'
      · simp [h'] at hj
      · simp [h'] at hj)
    (by rw [hlm]; exact hB) h
  rw [hlm] at h2
  have h3 := wpAny_of_toP (k := left) (Q' := Q) (fun a' w' hw' hq => hq w' hw') m _ a _ hC h2
  rw [← hlen] at h3
  simpa using h3
end
end Go
