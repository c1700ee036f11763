/-
  XRegPl's law from the middle of a region on: a contiguous row of operations that only read and call what is pure, in the order of the text, where the others that may come up are listed already. Plain laws. No condition.
-/
import Derived.Test.YtookaodcdglhfaaDoorRegPl
namespace Go
section
variable {P : Program} {ops : Array Oper} {md : Region.Mode} {C : World → Prop} {k0 : Nat}
/-- Whoever waits for all of S waits for all from k0 on, ahead of i. -/
def coverMid (md : Region.Mode) (ops : Array Oper) (k0 : Nat) : Nat → List Nat → Bool
  | 0, _ => true
  | i + 1, S => decide (i < k0) || (S.contains i && coverMid md ops k0 i (S ++ depsAt md ops i))
def lexMid (md : Region.Mode) (ops : Array Oper) (k0 : Nat) : Nat → Nat → Array Bool → Bool
  | 0, m, listed => (Region.ready md ops listed).all fun j => coverMid md ops k0 m (depsAt md ops j)
  | left + 1, k, listed => (Region.ready md ops listed).contains k && Region.free md ops listed k && lexMid md ops k0 left (k + 1) (listed.setIfInBounds k true)
theorem cover_mid {listed : Array Bool} (hc : ClosedL md ops listed) : ∀ (m : Nat) (S : List Nat), coverMid md ops k0 m S = true → (∀ s ∈ S, listed.getD s false = true) → ∀ i, k0 ≤ i → i < m → listed.getD i false = true
  | 0, _, _, _, _, _, h => by omega
  | m + 1, S, h, hS, i, h0, hi => by
    simp only [coverMid, Bool.or_eq_true, decide_eq_true_eq, Bool.and_eq_true, List.contains_iff_mem] at h
    rcases h with h | h
    · omega
    · by_cases e : i = m
      · subst e; exact hS _ h.1
      · refine cover_mid hc m _ h.2 (fun s hs => ?_) i h0 (by omega)
        rcases List.mem_append.1 hs with hs | hs
        · exact hS s hs
        · exact hc m (hS m h.1) s hs
def closedB (md : Region.Mode) (ops : Array Oper) (listed : Array Bool) : Bool := (List.range listed.size).all fun j => !(listed.getD j false) || (depsAt md ops j).all fun d => listed.getD d false
theorem closedB_spec {listed : Array Bool} (h : closedB md ops listed = true) : ClosedL md ops listed := fun j hj e he => by
  simp only [closedB, List.all_eq_true, List.mem_range, Bool.or_eq_true, Bool.not_eq_true'] at h
  have hlt : j < listed.size := by
    rcases Nat.lt_or_ge j listed.size with h' | h'
    · exact h'
    · simp [Array.getElem?_eq_none h'] at hj
  rcases h j hlt with h1 | h1
  · rw [hj] at h1; cases h1
  · exact h1 e he
/-- Whatever order is picked from here on, up to 'stop'. -/
def wpAnyToM (P : Program) (md : Region.Mode) (ops : Array Oper) (C : World → Prop) (m : Nat) (stop : Array Bool) (Q : Act → Prop) : Nat → Array Bool → Act → Prop
  | 0, listed, a => listed = stop ∧ Q a
  | fuel + 1, listed, a => Region.ready md ops listed ≠ [] ∧ ∀ i ∈ Region.ready md ops listed, i < m ∧ qOp P ops C i (wpAnyToM P md ops C m stop Q fuel (listed.setIfInBounds i true)) a
theorem wpAny_of_toM {Q : Act → Prop} {Q' : Exit → Act → World → Prop} {m k : Nat} {stop : Array Bool} (hQ : ∀ a w, C w → Q a → wpAny P md ops Q' k stop a w) : ∀ (fuel : Nat) (listed : Array Bool) (a : Act) (w : World), C w →
    wpAnyToM P md ops C m stop Q fuel listed a → wpAny P md ops Q' (fuel + k) listed a w
  | 0, _, _, _, hw, h => by
    obtain ⟨rfl, h⟩ := h
    rw [Nat.zero_add]
    exact hQ _ _ hw h
  | fuel + 1, _, _, _, hw, h => by
    rw [Nat.add_right_comm]
    exact ⟨fun h0 => absurd h0 h.1, fun i hi => wpOp_of_qOp hw (fun a' w' hw' => wpAny_of_toM hQ fuel _ a' w' hw') (h.2 i hi).2⟩
theorem wpAnyToM_first {Q : Act → Prop} {m : Nat} {stop : Array Bool} {i : Nat} {oi : Oper} {v : Value} (hi : ops[i]? = some oi) (h0i : k0 ≤ i) (him : i < m) (hsel : ∀ (j : Nat) (o : Oper) cs b, ops[j]? = some o → o.op ≠ .select cs b)
    (hstop : ∀ j ∈ Region.ready md ops stop, coverMid md ops k0 m (depsAt md ops j) = true) :
    ∀ (fuel : Nat) (listed : Array Bool) (a : Act), ClosedL md ops listed →
      (∀ j oj, ops[j]? = some oj → j ≠ i → listed.getD j true = false → (∀ e ∈ oj.after, Region.binds md e = true → e.on ≠ i) → oi.apart ops oj = true) →
      i ∈ Region.ready md ops listed → YieldsIn P ops C oi v a →
      wpAnyToM P md ops C m stop Q fuel (listed.setIfInBounds i true) (a.put oi.dst v) → wpAnyToM P md ops C m stop Q (fuel + 1) listed a := by
  intro fuel
  induction fuel with
  | zero =>
    intro listed a hcl _ hr hy H
    refine ⟨fun h => (by rw [h] at hr; cases hr), fun j hj => ?_⟩
    by_cases hji : j = i
    · subst hji; exact ⟨him, hy.qOp hi H⟩
    · have hj2 := ready_mono hj hji
      rw [H.1] at hj2
      have h1 := cover_mid hcl m _ (hstop j hj2) (ready_deps hj) i h0i him
      have h2 := (mem_ready.1 hr).1
      rcases Nat.lt_or_ge i listed.size with h' | h'
      · simp [h'] at h1 h2; rw [h1] at h2; cases h2
      · simp [Array.getElem?_eq_none h'] at h1
  | succ fuel ih =>
    intro listed a hcl hfree hr hy H
    refine ⟨fun h => (by rw [h] at hr; cases hr), fun j hj => ?_⟩
    by_cases hji : j = i
    · subst hji; exact ⟨him, hy.qOp hi H⟩
    · obtain ⟨hjm, h1⟩ := H.2 j (ready_mono hj hji)
      refine ⟨hjm, ?_⟩
      obtain ⟨hjun, oj, hoj, hall⟩ := mem_ready.1 hj
      have hnot : ∀ e ∈ oj.after, Region.binds md e = true → e.on ≠ i := fun e he hb heq => by
        have h1 := hall e he hb
        have h0 := (mem_ready.1 hr).1
        rw [heq] at h1
        rcases Nat.lt_or_ge i listed.size with h' | h'
        · simp [h'] at h0 h1; rw [h0] at h1; cases h1
        · simp [Array.getElem?_eq_none h'] at h1
      have h2 := qOp_put hoj (hfree j oj hoj hji hjun hnot) (fun cs b => hsel i oi cs b hi) (fun cs b => hsel j oj cs b hoj) hy h1
      refine qOp_mono (fun a' h3 => ih (listed.setIfInBounds j true) a' (hcl.set hj) (fun k ok hk hki hun hno => ?_) (ready_mono hr (Ne.symm hji)) h3.1 ?_) h2
      · refine hfree k ok hk hki ?_ hno
        by_cases hjk : j = k
        · subst hjk; exact hjun
        · rw [getD_set_ne true hjk] at hun; exact hun
      · rw [Array.setIfInBounds_comm _ _ hji]
        exact h3.2
theorem wpAnyToM_lex {Q : Act → Prop} (hs : Region.noSelect ops = true) : ∀ (l : List Oper) (k m : Nat) (listed : Array Bool) (a : Act), (∀ j, j < l.length → l[j]? = ops[k + j]?) → k0 ≤ k → k + l.length = m → ClosedL md ops listed →
    lexMid md ops k0 l.length k listed = true → wpQuiet P ops C Q l a → wpAnyToM P md ops C m (listedTo l.length k listed) Q l.length listed a
  | [], _, _, _, _, _, _, _, _, _, h => ⟨rfl, h⟩
  | o :: l, k, m, listed, a, hl, hk0, hkm, hcl, hB, h => by
    have h0 : ops[k]? = some o := by simpa using (hl 0 (by simp)).symm
    simp only [List.length_cons, lexMid, Bool.and_eq_true] at hB
    obtain ⟨⟨hr, hf⟩, hB'⟩ := hB
    have hr' : k ∈ Region.ready md ops listed := by simpa using hr
    simp only [List.length_cons] at hkm
    have hst : qOp P ops C k (wpQuiet P ops C Q l) a := by unfold qOp; simp only [h0]; exact h
    obtain ⟨v, hy, hK⟩ := yieldsIn_of_qOp h0 hst
    have hend : ∀ (left k : Nat) (listed : Array Bool), lexMid md ops k0 left k listed = true → ∀ j ∈ Region.ready md ops (listedTo left k listed), coverMid md ops k0 (k + left) (depsAt md ops j) = true := by
      intro left
      induction left with
      | zero => intro k listed h j hj; simp only [lexMid, List.all_eq_true] at h; exact h j hj
      | succ left ih =>
        intro k listed h j hj
        simp only [lexMid, Bool.and_eq_true] at h
        have := ih (k + 1) _ h.2 j hj
        rwa [show k + (left + 1) = k + 1 + left by omega]
    refine wpAnyToM_first (k0 := k0) h0 hk0 (by omega) (Region.noSelect_spec hs) (fun j hj => ?_) l.length listed a hcl (Region.free_spec h0 hf) hr' hy
      (wpAnyToM_lex hs l (k + 1) m _ _ (fun j hj => by have := hl (j + 1) (by simp; omega); simpa [Nat.add_assoc, Nat.add_comm 1 j] using this) (by omega) (by omega) (hcl.set hr') hB' hK)
    have := hend l.length (k + 1) _ hB' j hj
    rwa [show k + 1 + l.length = m by omega] at this
/-- One walk of what only reads, from operation k to the one ahead of k + c. -/
theorem wpAny_mid {Q : Exit → Act → World → Prop} {a : Act} {w : World} {listed : Array Bool} {fuel : Nat} (k c left : Nat) (hf : fuel = c + left) (hs : Region.noSelect ops = true) (hcl : closedB md ops listed = true)
    (hB : lexMid md ops k c k listed = true) (hC : C w) (hlen : ((ops.toList.drop k).take c).length = c)
    (h : wpQuiet P ops C (fun a' => ∀ w', C w' → wpAny P md ops Q left (listedTo c k listed) a' w') ((ops.toList.drop k).take c) a) : wpAny P md ops Q fuel listed a w := by
  subst hf
  have h2 := wpAnyToM_lex (C := C) (md := md) (k0 := k) hs ((ops.toList.drop k).take c) k (k + c) listed a (fun j hj => by rw [hlen] at hj; simp [List.getElem?_take, List.getElem?_drop, hj]) (Nat.le_refl _) (by rw [hlen]) (closedB_spec hcl) (by rw [hlen]; exact hB) h
  rw [hlen] at h2
  exact wpAny_of_toM (k := left) (Q' := Q) (fun a' w' hw' hq => hq w' hw') c _ a _ hC h2
end
end Go
