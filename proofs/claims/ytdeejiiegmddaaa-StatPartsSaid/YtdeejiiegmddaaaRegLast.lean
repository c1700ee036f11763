/-
  XRegPl's law where some operations that take a tuple apart may come later than the writer: the writer is the last of the region's text, what it does not wait for looks at no world. Plain laws. No condition.
-/
import Derived.Test.YtdeejiiegmddaaaRegPl
namespace Go
def forceLast (ops : Array Oper) (s : Nat) : Array Oper := ops.modify s fun o => { o with after := ((List.range s).map fun j => (⟨j, .data⟩ : Edge)).toArray }
section
variable {P : Program} {ops : Array Oper} {md : Region.Mode} {C : World → Prop} {s : Nat}
theorem force_at {i : Nat} (h : i ≠ s) : (forceLast ops s)[i]? = ops[i]? := by
  unfold forceLast; rw [Array.getElem?_modify, if_neg (fun e => h e.symm)]
theorem force_dst (i : Nat) : ((forceLast ops s)[i]?).bind (·.dst) = (ops[i]?).bind (·.dst) := by
  by_cases h : i = s
  · subst h
    unfold forceLast
    rw [Array.getElem?_modify, if_pos rfl]
    cases ops[i]? <;> rfl
  · rw [force_at h]
theorem force_yielded (t : Array Value) : yielded (forceLast ops s) t = yielded ops t := by
  funext j
  unfold yielded
  rw [force_dst]
theorem force_qOp {i : Nat} (h : i ≠ s) {K : Act → Prop} {a : Act} : qOp P (forceLast ops s) C i K a = qOp P ops C i K a := by
  unfold qOp
  rw [force_at h]
  simp only [force_yielded]
theorem force_quiet {Q : Act → Prop} : ∀ (l : List Oper) (a : Act), wpQuiet P (forceLast ops s) C Q l a = wpQuiet P ops C Q l a
  | [], _ => rfl
  | o :: l, a => by
    have e : wpQuiet P (forceLast ops s) C Q l = wpQuiet P ops C Q l := funext (force_quiet l)
    unfold wpQuiet
    rw [force_yielded, e]
theorem force_ready {i : Nat} {listed : Array Bool} (h : i ≠ s) : i ∈ Region.ready md (forceLast ops s) listed ↔ i ∈ Region.ready md ops listed := by
  rw [mem_ready, mem_ready, force_at h]
theorem force_ready_s {listed : Array Bool} : s ∈ Region.ready md (forceLast ops s) listed ↔ listed.getD s true = false ∧ s < ops.size ∧ ∀ j, j < s → listed.getD j false = true := by
  rw [mem_ready]
  constructor
  · rintro ⟨h1, o, ho, h2⟩
    refine ⟨h1, ?_, fun j hj => ?_⟩
    · have := (Array.getElem?_eq_some_iff.1 ho).1
      simpa [forceLast] using this
    · unfold forceLast at ho
      rw [Array.getElem?_modify, if_pos rfl] at ho
      obtain ⟨o', ho', rfl⟩ := Option.map_eq_some_iff.1 ho
      exact h2 ⟨j, .data⟩ (by simp [hj]) rfl
  · rintro ⟨h1, h2, h3⟩
    refine ⟨h1, { ops[s] with after := ((List.range s).map fun j => (⟨j, .data⟩ : Edge)).toArray }, ?_, fun e he _ => ?_⟩
    · unfold forceLast
      rw [Array.getElem?_modify, if_pos rfl, Array.getElem?_eq_getElem h2]; rfl
    · simp at he
      obtain ⟨j, hj, rfl⟩ := he
      exact h3 j hj
/-- What only takes a value apart, or hands it on. -/
def loneOp (o : Oper) : Bool := o.guard.isNone && match o.op with | .extract .. | .move .. => true | _ => false
/-- The writer waits for all but these. -/
def coverX (md : Region.Mode) (ops : Array Oper) (E : List Nat) : Nat → List Nat → Bool
  | 0, _ => true
  | i + 1, S => if E.contains i then coverX md ops E i S else S.contains i && coverX md ops E i (S ++ depsAt md ops i)
theorem cover_x {listed : Array Bool} {E : List Nat} (hc : ClosedL md ops listed) : ∀ (m : Nat) (S : List Nat), coverX md ops E m S = true → (∀ s ∈ S, listed.getD s false = true) → ∀ i, i < m → i ∉ E → listed.getD i false = true
  | 0, _, _, _, _, h, _ => by omega
  | m + 1, S, h, hS, i, hi, hE => by
    unfold coverX at h
    by_cases e : i = m
    · subst e
      rw [if_neg (by simpa using hE)] at h
      simp only [Bool.and_eq_true, List.contains_iff_mem] at h
      exact hS _ h.1
    · split at h
      · exact cover_x hc m _ h hS i (by omega) hE
      · simp only [Bool.and_eq_true, List.contains_iff_mem] at h
        refine cover_x hc m _ h.2 (fun s hs => ?_) i (by omega) hE
        rcases List.mem_append.1 hs with hs | hs
        · exact hS s hs
        · exact hc m (hS m h.1) s hs
/-- What stands listed, where the j-th comes up. -/
def lone0 (s : Nat) (E : List Nat) (j : Nat) : Array Bool := ((List.range (s + 1)).map fun i => decide (i < s) && (!(E.contains i) || decide (i < j))).toArray
def loneB (md : Region.Mode) (ops : Array Oper) (s : Nat) (E : List Nat) : Bool :=
  ((depsAt md ops s).all fun d => decide (d < s)) && E.all fun j => decide (j < s) && (match ops[j]? with | some o => loneOp o | none => false) && Region.free md ops (lone0 s E j) j && (depsAt md ops j).all fun d => decide (d < j)
theorem lone_yields {o : Oper} {v : Value} {a : Act} {w : World} (hl : loneOp o = true) (hw : C w) (hy : YieldsIn P ops C o v a) : Yields P ops o v a := by
  unfold loneOp at hl
  simp only [Bool.and_eq_true, Option.isNone_iff_eq_none] at hl
  obtain ⟨hg, hl⟩ := hl
  have hwant : Region.wanted o (yielded ops a.tmps) = true := by simp [Region.wanted, hg]
  rcases hy with ⟨_, h⟩ | ⟨h, _⟩
  · refine .inl ⟨hwant, fun w' => ?_⟩
    have h := h w hw
    unfold Oper.quietAt at h
    split at hl
    · rename_i x i ho
      simp only [execOp, ho, Instr.extract] at h ⊢
      generalize a.eval x = q at h ⊢
      cases q
      case tuple vs =>
        simp only at h ⊢
        cases hv : vs[i]? with
        | none => rw [hv] at h; simp [Oper.quietUpon] at h
        | some u => rw [hv] at h; simp [Oper.quietUpon] at h ⊢; exact h
      all_goals simp [Oper.quietUpon] at h
    · rename_i x ho
      simp only [execOp, ho] at h ⊢
      simp [Oper.quietUpon] at h ⊢
      exact h
    · cases hl
  · rw [hwant] at h; cases h
theorem least_of {p : Nat → Prop} : ∀ n, p n → ∃ k, p k ∧ k ≤ n ∧ ∀ i, i < k → ¬ p i := by
  intro n
  induction n using Nat.strongRecOn with
  | ind n ih =>
    intro h
    by_cases c : ∃ i, i < n ∧ p i
    · obtain ⟨i, hi, hp⟩ := c
      obtain ⟨k, h1, h2, h3⟩ := ih i hi hp
      exact ⟨k, h1, by omega, h3⟩
    · exact ⟨n, h, Nat.le_refl _, fun i hi hp => c ⟨i, hi, hp⟩⟩
theorem wpAny_of_toX {Q : Act → Prop} {Q' : Exit → Act → World → Prop} {stop : Array Bool} {E : List Nat} (hsel : Region.noSelect ops = true) (hsz : ops.size = s + 1) (hE : loneB md ops s E = true)
    (hcov : coverX md ops E s (depsAt md ops s) = true) (hP : E = [] ∨ ∀ c a d v w, Q' (.panic c) (a.put d v) w → Q' (.panic c) a w)
    (hst : stop.size = s + 1 ∧ stop.getD s true = false ∧ ∀ j, j < s → stop.getD j false = true)
    (hQ : ∀ a w, C w → Q a → wpOp P ops Q' s (fun a' w' => Q' .normal a' w') a w) : ∀ (fuel : Nat) (listed : Array Bool) (a : Act) (w : World), listed.size = s + 1 → ClosedL md ops listed → listed.getD s true = false → C w →
    wpAnyToP P md (forceLast ops s) C s stop Q fuel listed a → wpAny P md ops Q' (fuel + 1) listed a w
  | 0, li, a, w, _, _, _, hw, h => by
    obtain ⟨e0, h⟩ := h
    subst e0
    have key : ∀ i ∈ Region.ready md ops li, i = s := fun i hi => by
      rcases Nat.lt_trichotomy i s with h1 | h1 | h1
      · have h2 := hst.2.2 i h1
        have h3 := (mem_ready.1 hi).1
        rw [show li.getD i true = true by
          have : i < li.size := by omega
          simp [this] at h2 ⊢; exact h2] at h3
        cases h3
      · exact h1
      · obtain ⟨_, o, ho, _⟩ := mem_ready.1 hi
        have := (Array.getElem?_eq_some_iff.1 ho).1
        omega
    have hs : s ∈ Region.ready md ops li := by
      refine mem_ready.2 ⟨hst.2.1, ops[s]'(by omega), Array.getElem?_eq_getElem (by omega), fun e he hb => ?_⟩
      have hd : e.on ∈ depsAt md ops s := (mem_deps (Array.getElem?_eq_getElem (by omega))).2 ⟨e, he, hb, rfl⟩
      rcases Nat.lt_or_ge e.on s with h1 | h1
      · exact hst.2.2 _ h1
      · exfalso
        unfold loneB at hE
        rw [Bool.and_eq_true, List.all_eq_true] at hE
        have := hE.1 _ hd
        simp at this
        omega
    refine ⟨fun h0 => (by rw [h0] at hs; cases hs), fun i hi => ?_⟩
    have ei := key i hi
    rw [ei]
    refine wpOp_mono (fun a' w' h' => ⟨?_, h'⟩) (hQ a w hw h)
    apply List.eq_nil_iff_forall_not_mem.2
    intro j hj
    have h1 := (mem_ready.1 hj).1
    obtain ⟨_, o, ho, _⟩ := mem_ready.1 hj
    have hjs := (Array.getElem?_eq_some_iff.1 ho).1
    by_cases e : j = s
    · subst e
      have : j < li.size := by omega
      simp [this] at h1
    · rw [getD_set_ne true (fun e' => e e'.symm)] at h1
      have h2 := hst.2.2 j (by omega)
      have : j < li.size := by omega
      simp [this] at h1 h2
      rw [h1] at h2; cases h2
  | fuel + 1, listed, a, w, hls, hcl, hsl, hw, h => by
    by_cases hsr : s ∈ Region.ready md ops listed
    · -- all that is left is lone
      obtain ⟨hne, hall⟩ := h
      have hcv : ∀ i, i < s → i ∉ E → listed.getD i false = true := cover_x hcl s _ hcov (ready_deps hsr)
      have hpend : ∃ j, j < s ∧ listed.getD j true = false := by
        obtain ⟨i, hi⟩ := List.exists_mem_of_ne_nil _ hne
        obtain ⟨h1, _⟩ := hall i hi
        exact ⟨i, h1, (mem_ready.1 hi).1⟩
      obtain ⟨j0, hj0⟩ := hpend
      obtain ⟨j, ⟨hjs, hjp⟩, _, hmin⟩ := least_of (p := fun j => j < s ∧ listed.getD j true = false) j0 hj0
      have hjE : j ∈ E := by
        apply Classical.byContradiction
        intro hn
        have h1 := hcv j hjs hn
        have : j < listed.size := by omega
        simp [this] at h1 hjp
        rw [h1] at hjp; cases hjp
      unfold loneB at hE
      have hEj := List.all_eq_true.1 (Bool.and_eq_true _ _ ▸ hE).2 j hjE
      simp only [Bool.and_eq_true, decide_eq_true_eq, List.all_eq_true] at hEj
      obtain ⟨⟨⟨_, hlone⟩, hfree⟩, hdeps⟩ := hEj
      have hoj : ops[j]? = some (ops[j]'(by omega)) := Array.getElem?_eq_getElem (by omega)
      rw [hoj] at hlone
      simp only at hlone
      have hrj : j ∈ Region.ready md ops listed := by
        refine mem_ready.2 ⟨hjp, _, hoj, fun e he hb => ?_⟩
        have hlt := hdeps e.on ((mem_deps hoj).2 ⟨e, he, hb, rfl⟩)
        have hn := hmin e.on hlt
        have : e.on < listed.size := by omega
        have h2 : ¬ (e.on < s ∧ listed.getD e.on true = false) := hn
        simp [this] at h2 ⊢
        exact h2 (by omega)
      obtain ⟨_, hq⟩ := hall j ((force_ready (by omega)).2 hrj)
      rw [force_qOp (by omega)] at hq
      obtain ⟨v, hy, hK⟩ := yieldsIn_of_qOp hoj hq
      have hY := lone_yields hlone hw hy
      have ih := wpAny_of_toX hsel hsz (by unfold loneB; exact hE) hcov hP hst hQ fuel (listed.setIfInBounds j true) (a.put (ops[j]'(by omega)).dst v) w (by simpa using hls) (hcl.set hrj) (by rw [getD_set_ne true (by omega)]; exact hsl) hw hK
      refine wpAny_first hoj (Region.noSelect_spec hsel) (fun c a w => by rcases hP with hP | hP; (rw [hP] at hjE; cases hjE); exact hP c a _ v w) (fuel + 1) listed a w (fun k ok hk hkj hun hno => ?_) hrj hY ih
      refine Region.free_spec hoj hfree k ok hk hkj ?_ hno
      have hks := (Array.getElem?_eq_some_iff.1 hk).1
      have hk1 : k < s + 1 := by omega
      have e0 : (lone0 s E j).getD k true = (decide (k < s) && (!(E.contains k) || decide (k < j))) := by
        unfold lone0
        simp [hk1]
      rw [e0]
      by_cases hk2 : k < s
      · have hkE : k ∈ E := by
          apply Classical.byContradiction
          intro hn
          have h1 := hcv k hk2 hn
          have : k < listed.size := by omega
          simp [this] at h1 hun
          rw [h1] at hun; cases hun
        have hkj2 : ¬ k < j := fun h => hmin k h ⟨hk2, hun⟩
        simp [hkE, hkj2]
      · simp [hk2]
    · obtain ⟨hne, hall⟩ := h
      have hnr : ∀ i ∈ Region.ready md ops listed, i ≠ s := fun i hi e => hsr (e ▸ hi)
      refine ⟨fun h0 => ?_, fun i hi => ?_⟩
      · exfalso
        obtain ⟨i, hi⟩ := List.exists_mem_of_ne_nil _ hne
        obtain ⟨h1, _⟩ := hall i hi
        have := (force_ready (by omega)).1 hi
        rw [h0] at this; cases this
      · obtain ⟨_, hq⟩ := hall i ((force_ready (hnr i hi)).2 hi)
        rw [force_qOp (hnr i hi)] at hq
        exact wpOp_of_qOp hw (fun a' w' hw' h' => wpAny_of_toX hsel hsz hE hcov hP hst hQ fuel _ a' w' (by simpa using hls) (hcl.set hi) (by rw [getD_set_ne true (hnr i hi)]; exact hsl) hw' h') hq
theorem listedTo_size : ∀ (n k : Nat) (l : Array Bool), (listedTo n k l).size = l.size
  | 0, _, _ => rfl
  | n + 1, k, l => by rw [listedTo, listedTo_size n]; simp
theorem listedTo_get : ∀ (n k : Nat) (l : Array Bool) (d : Bool) (j : Nat), k + n ≤ l.size → (listedTo n k l).getD j d = if k ≤ j ∧ j < k + n then true else l.getD j d
  | 0, k, l, d, j, _ => by rw [listedTo, if_neg (by omega)]
  | n + 1, k, l, d, j, h => by
    rw [listedTo, listedTo_get n (k + 1) _ d j (by simp; omega)]
    by_cases c : k + 1 ≤ j ∧ j < k + 1 + n
    · rw [if_pos c, if_pos (by omega)]
    · rw [if_neg c]
      by_cases e : k = j
      · subst e
        rw [if_pos (by omega)]
        have : k < l.size := by omega
        simp [this]
      · rw [if_neg (by omega), getD_set_ne d e]
/-- All that reads, in the order of the text; then the writer, the last of the text. -/
def lastB (ops : Array Oper) (s : Nat) (E : List Nat) : Bool :=
  loneB .any ops s E && coverX .any ops E s (depsAt .any ops s) && lexTo .any (forceLast ops s) s 0 (Array.replicate (s + 1) false)
theorem wp_region_last {id : Nat} {Q : Exit → Act → World → Prop} {a : Act} {w : World} {l : List Oper} (s : Nat) (E : List Nat) (hm : P.follows .mixedOrders = true) (hs : Region.noSelect l.toArray = true) (hs2 : Region.noSelect (forceLast l.toArray s) = true) (hlen : l.length = s + 1)
    (hB : lastB l.toArray s E = true) (hP : E = [] ∨ ∀ c a d v w, Q (.panic c) (a.put d v) w → Q (.panic c) a w) (hC : C { w with drawn := w.drawn + 1 })
    (h : wpQuiet P l.toArray C (fun a' => ∀ w', C w' → wpOp P l.toArray Q s (fun a'' w'' => Q .normal a'' w'') a' w') (l.take s) a) : (Code.region id l.toArray true).wp P Q a w := by
  unfold lastB at hB
  simp only [Bool.and_eq_true] at hB
  obtain ⟨⟨hE, hcov⟩, hlex⟩ := hB
  refine wp_region_any hm ?_
  have hlm : (l.take s).length = s := by rw [List.length_take]; omega
  have hsz : l.toArray.size = s + 1 := by simpa using hlen
  rw [← force_quiet (s := s)] at h
  have h2 := wpAnyToP_lex (C := C) (md := .any) hs2 (l.take s) 0 s (Array.replicate (s + 1) false) a (fun j hj => by
      rw [hlm] at hj
      rw [Nat.zero_add, force_at (by omega)]
      simp [List.getElem?_take, hj]) (by omega)
    (fun j hj => by
      rcases Nat.lt_or_ge j (s + 1) with h' | h'
      · simp [h'] at hj
      · simp [h'] at hj)
    (by rw [hlm]; exact hlex) h
  rw [hlm] at h2
  have h3 := wpAny_of_toX (md := .any) (C := C) (Q' := Q) hs hsz hE hcov hP (by
      refine ⟨by rw [listedTo_size]; simp, ?_, fun j hj => ?_⟩
      · rw [listedTo_get _ _ _ _ _ (by simp), if_neg (by omega)]; simp
      · rw [listedTo_get _ _ _ _ _ (by simp), if_pos (by omega)]) (fun a' w' hw' hq => hq w' hw') s (Array.replicate (s + 1) false) a _ (by simp) (fun j hj => by
      rcases Nat.lt_or_ge j (s + 1) with h' | h'
      · simp [h'] at hj
      · simp [h'] at hj) (by simp) hC h2
  rw [hsz]
  exact h3
end
end Go
