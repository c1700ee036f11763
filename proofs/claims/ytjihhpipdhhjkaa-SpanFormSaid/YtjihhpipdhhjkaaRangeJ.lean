/-
  A loop over an iterator that makes blocks of its own ahead of its first round (M) and turns them between two rounds; it may be endless: then the caller's invariant must bound the rounds. A round may turn whatever else is new. Plain laws. No condition.
-/
import Derived.Test.YtjihhpipdhhjkaaRangeH
namespace Go
open Go.RowKit
/-- What a round may turn: the caller's blocks T, those of the loop (lo to hi), and what came since hi but for M. -/
def OT (T : Nat → Prop) (lo hi : Nat) (M : Nat → Prop) (k : Nat) : Prop := TT T lo hi k ∨ (hi ≤ k ∧ ¬ M k)
def Own2 (M : Nat → Prop) (lo : Nat) (w : World) : Prop := ∀ k, M k → lo ≤ k ∧ k < w.heap.size
def SeqJ {α : Type} (F : Fence) (n : Nat) (P : Program) (g : Nat) (lb : Array Value) (encs : α → Array Value) (T : Nat → Prop) (Pre S Sp : List α → Prop) (N : Nat) (w0 : World) : Prop :=
  ∀ (l : Nat) (J Jx : (Nat → Prop) → List α → World → Prop) (W : World), KS T w0 W →
    (∀ M M' s A B, (∀ k, M' k → W.heap.size ≤ k) → (∀ k, M' k → M k ∨ A.heap.size ≤ k) → J M s A → KS M A B → J M' s B) → (∀ M M' s A B, (∀ k, M' k → W.heap.size ≤ k) → (∀ k, M' k → M k ∨ A.heap.size ≤ k) → Jx M s A → KS M A B → Jx M' s B) →
    (∀ M s A, J M s A → s.length < N) →
    (∀ M pre x W1, Own2 M W.heap.size W1 → W.heap.size ≤ W1.heap.size → J M pre W1 → Pre (pre ++ [x]) → YieldAt F (n - 1) P l (encs x) W1 fun e W' =>
      (e = .returned (.bool true) ∧ J M (pre ++ [x]) W' ∧ KS (OT T w0.heap.size W.heap.size M) W1 W') ∨ (e = .returned (.bool false) ∧ Jx M (pre ++ [x]) W' ∧ KS (OT T w0.heap.size W.heap.size M) W1 W')) →
    (∀ M B, Own2 M W.heap.size B → Below W.heap.size W B → J M [] B) →
    CallsIn F n P g (#[.func (.yield l) #[] #[]] ++ lb) W fun e W' => (∃ v, e = .returned v) ∧ ((∃ M xs, (∀ k, M k → W.heap.size ≤ k) ∧ S xs ∧ J M xs W') ∨ (∃ M pre, (∀ k, M k → W.heap.size ≤ k) ∧ Sp pre ∧ Jx M pre W'))
/-- How the body of a round may be left. -/
def postJ {α : Type} (T : Nat → Prop) (I : (Nat → Prop) → List α → World → Prop) (Ix : Code → (Nat → Prop) → List α → World → Prop) (M : Nat → Prop) (lo : Nat) (xs : List α) (W : World) : Exit → Act → World → Prop
  | .normal, _, W' => KS (fun k => T k ∨ (lo ≤ k ∧ ¬ M k)) W W' ∧ I M xs W'
  | .ret, _, W' => KS (fun k => T k ∨ (lo ≤ k ∧ ¬ M k)) W W' ∧ Ix .ret M xs W'
  | .exit id, _, W' => KS (fun k => T k ∨ (lo ≤ k ∧ ¬ M k)) W W' ∧ Ix (.exit id) M xs W'
  | .goto t, _, W' => KS (fun k => T k ∨ (lo ≤ k ∧ ¬ M k)) W W' ∧ Ix (.goto t) M xs W'
  | .panic _, _, _ => False
  | .outgrown, _, _ => False
variable {F : Fence} {n : Nat} {P : Program}
theorem wpIn_rangeFunc_J {α : Type} {g : Operand} {ps : Array Tmp} {assign body : Code} {Q : Exit → Act → World → Prop} {a : Act} {w : World}
    (hro : F.round = none) (h1 : 1 ≤ n) {gf : Nat} {lb : Array Value} (hg : a.eval g = .func (.func gf) #[] lb) (hFg : F.fn gf) (eg : ∀ args w, (callFunc gf args).run P w = .ok (.enter gf args) w)
    {encs : α → Array Value} {T : Nat → Prop} {Pre S Sp : List α → Prop} {N : Nat} {w0 : World} (hseq : SeqJ F (n - 1) P gf lb encs T Pre S Sp N w0) (hT : ∀ k, T k → k < w.heap.size) (hb0 : KS T w0 w) (hps : ∀ x, (encs x).size = ps.size)
    (I : (Nat → Prop) → List α → World → Prop) (Ix : Code → (Nat → Prop) → List α → World → Prop)
    (hI : ∀ M M' s A B, (∀ k, M' k → w.heap.size + 2 ≤ k) → (∀ k, M' k → M k ∨ A.heap.size ≤ k) → I M s A → KS (fun k => M k ∨ k = w.heap.size ∨ k = w.heap.size + 1) A B → I M' s B)
    (hIx : ∀ c M M' s A B, (∀ k, M' k → w.heap.size + 2 ≤ k) → (∀ k, M' k → M k ∨ A.heap.size ≤ k) → Ix c M s A → KS (fun k => M k ∨ k = w.heap.size ∨ k = w.heap.size + 1) A B → Ix c M' s B)
    (hN : ∀ M s A, I M s A → s.length < N)
    (h0 : ∀ M B, Own2 M (w.heap.size + 2) B → Below w.heap.size w B → w.heap.size + 2 ≤ B.heap.size → I M [] B) (a₁ : α → Act)
    (hassign : ∀ (l : Nat) (x : α) (W : World) (K : Act → World → Prop), K (a₁ x) W →
      assign.wpIn (F.inRound l) (n - 1 - 1) P (Exit.then K (fun _ _ _ => False)) { tmps := (ps.zip (encs x)).foldl (fun t (p, v) => t.setIfInBounds p v) a.tmps, defers := [] } W)
    (hbody : ∀ (l : Nat) (M : Nat → Prop) (pre : List α) (x : α) (W : World), Own2 M (w.heap.size + 2) W → w.heap.size + 2 ≤ W.heap.size → I M pre W → Pre (pre ++ [x]) → body.wpIn (F.inRound l) (n - 1 - 1) P (postJ T I Ix M (w.heap.size + 2) (pre ++ [x]) W) (a₁ x) W)
    (hdone : ∀ (D : Nat) (M : Nat → Prop) (xs : List α) (W : World), D = w.heap.size → S xs → I M xs W → W.heap[D]? = some (.deferred (some [])) → Q .normal { a with defers := { target := .collected D, args := #[] } :: a.defers } W)
    (hstop : ∀ (D : Nat) (c : Code) (M : Nat → Prop) (pre : List α) (W : World), D = w.heap.size → Sp pre → Ix c M pre W → W.heap[D]? = some (.deferred (some [])) → c.wpIn F n P Q { a with defers := { target := .collected D, args := #[] } :: a.defers } W) :
    (Code.rangeFunc g ps assign body).wpIn F n P Q a w := by
  refine wpIn_rangeFunc ?_
  intro fn hfn
  rw [hro]
  obtain ⟨rec, hrec⟩ : ∃ rec : LoopState → Option Code → Loop, rec = fun st pe => { state := st, pending := pe, fn, tmps := a.tmps, params := ps, assign, body, defers := w.heap.size } := ⟨_, rfl⟩
  obtain ⟨D, hD⟩ : ∃ D, w.heap.size = D := ⟨_, rfl⟩
  obtain ⟨W1, hW1⟩ : ∃ W1, (w.alloc (.deferred (some []))).alloc (.loop (rec .ready none)) = W1 := ⟨_, rfl⟩
  have hL1 : W1.heap[D + 1]? = some (.loop (rec .ready none)) := by
    have := World.alloc_heap_new (w.alloc (.deferred (some []))) (.loop (rec .ready none))
    rwa [World.size_alloc, hW1, hD] at this
  have hK1 : W1.heap[D]? = some (.deferred (some [])) := by
    rw [← hW1, ← hD]; exact (Below.heap_alloc _ _ _ (by simp)).trans (World.alloc_heap_new w _)
  have hw1 : Below D w W1 := by rw [← hW1, ← hD]; exact ((Below.refl _ w).alloc (Nat.le_refl _) _).alloc (by simp) _
  have hs1 : W1.heap.size = D + 2 := by rw [← hW1, ← hD]; simp
  have hb1 : KS T w0 W1 := hb0.trans (KS.of_below (by rw [hD]; exact hw1))
  rw [hD] at hI hIx h0 hbody hdone hstop hT
  have nT : ∀ k, D ≤ k → ¬ T k := fun k hk ht => by have := hT k ht; omega
  refine ⟨D + 1, [{ target := .collected D, args := #[] }], W1, { target := .fn (.func gf) lb, args := #[.func (.yield (D + 1)) #[] #[]] }, W1, gf,
    #[.func (.yield (D + 1)) #[] #[]] ++ lb, W1, ?_, ?_, ?_, ?_, fun _ => h1, ?_⟩
  · rw [← hW1, hrec, ← hD]; exact run_enterLoop_outer _ _ _ _ _
  · simp only [resolve, hg]
    simp [go_sem]
  · intro f' hf'; simp [Target.leads] at hf'; subst hf'; exact hFg
  · simp [invoke, go_sem, eg]
  · have keep : ∀ {M : Nat → Prop} {A B : World} {k : Nat} {o : Obj}, (∀ k, M k → k < A.heap.size → W1.heap.size ≤ k) → KS M A B → k < D + 2 → A.heap[k]? = some o → B.heap[k]? = some o := fun hm hb hk h => (hb.block _ (Array.getElem?_eq_some_iff.1 h).1 (fun hh => by have := hm _ hh (Array.getElem?_eq_some_iff.1 h).1; omega)).trans h
    have hlo : w0.heap.size ≤ D := by rw [← hD]; exact hb0.size
    refine (hseq (D + 1)
      (fun M pre W => I M pre W ∧ W.heap[D + 1]? = some (.loop (rec .ready none)) ∧ W.heap[D]? = some (.deferred (some [])) ∧ ∀ k, M k → k < W.heap.size → W1.heap.size ≤ k)
      (fun M pre W => ∃ c, Ix c M pre W ∧ W.heap[D + 1]? = some (.loop (rec .done (some c))) ∧ W.heap[D]? = some (.deferred (some [])) ∧ ∀ k, M k → k < W.heap.size → W1.heap.size ≤ k)
      W1 hb1
      (fun M M' s A B hm hg hs hb => ⟨hI M M' s A B (fun k hk => by have := hm k hk; omega) hg hs.1 (hb.mono (fun _ h => .inl h)), keep hs.2.2.2 hb (by omega) hs.2.1, keep hs.2.2.2 hb (by omega) hs.2.2.1, fun k hk _ => hm k hk⟩)
      (fun M M' s A B hm hg hs hb => by
        obtain ⟨c, hc, hl, hk, hM⟩ := hs
        exact ⟨c, hIx c M M' s A B (fun k hk => by have := hm k hk; omega) hg hc (hb.mono (fun _ h => .inl h)), keep hM hb (by omega) hl, keep hM hb (by omega) hk, fun k hk _ => hm k hk⟩)
      (fun M s A h => hN M s A h.1)
      ?_ (fun M B hm hb => ⟨h0 M B (fun k hk => by have := hm k hk; omega) (hw1.trans (hb.mono (by omega))) (by have := hb.size; omega), (hb.block _ (by omega)).trans hL1, (hb.block _ (by omega)).trans hK1, fun k hk _ => (hm k hk).1⟩)).mono ?_
    · rintro M pre x W hm hsz ⟨hi, hl, hk, hM9⟩ hsp
      have hm2 : ∀ k, M k → D + 2 ≤ k := fun k hk => by have := hm k hk; omega
      have hlt : D + 1 < W.heap.size := by omega
      have hy := run_yield (P := P) (args := encs x) hl (by rw [hrec]; exact hps x)
      rw [hrec] at hy
      refine ⟨fn, _, assign, body, hy, roundIn_of_wpIn hfn (hassign _ x W _ ⟨_, run_beginRound hl (by rw [hrec]), ?_⟩)⟩
      obtain ⟨Wb, hWb⟩ : ∃ Wb, W.putObj (D + 1) (.loop { rec .ready none with state := .busy }) = Wb := ⟨_, rfl⟩
      have hl2 : Wb.heap[D + 1]? = some (.loop { rec .ready none with state := .busy }) := by rw [← hWb]; exact World.putObj_heap_same hlt
      have hk2 : Wb.heap[D]? = some (.deferred (some [])) := by rw [← hWb]; exact (World.putObj_heap_other (by omega)).trans hk
      have hsb : Wb.heap.size = W.heap.size := by rw [← hWb]; simp
      have hkI : KS (fun k => M k ∨ k = D ∨ k = D + 1) W Wb := by rw [← hWb]; exact (KS.refl _ _).putObj (.inr (.inr rfl)) _
      have hTD : OT T w0.heap.size W1.heap.size M (D + 1) := .inl (.inr ⟨by omega, by omega⟩)
      have hkb : KS (OT T w0.heap.size W1.heap.size M) W Wb := by rw [← hWb]; exact (KS.refl _ _).putObj hTD _
      have key := hbody (D + 1) M pre x Wb (fun k hk => by have := hm k hk; omega) (by omega) (hI _ _ _ _ _ hm2 (fun _ h => .inl h) hi hkI) hsp
      rw [hWb]
      refine wpIn_mono key ?_
      have fin : ∀ (jump : Option Code) (W3 : World), KS (fun k => T k ∨ (D + 2 ≤ k ∧ ¬ M k)) Wb W3 →
          (Instr.endRound (D + 1) jump).run P W3 = .ok (.bool jump.isNone) (W3.putObj (D + 1) (.loop (rec (if jump.isNone then .ready else .done) jump))) ∧
          KS (fun k => M k ∨ k = D ∨ k = D + 1) W3 (W3.putObj (D + 1) (.loop (rec (if jump.isNone then .ready else .done) jump))) ∧
          (W3.putObj (D + 1) (.loop (rec (if jump.isNone then .ready else .done) jump))).heap[D + 1]? = some (.loop (rec (if jump.isNone then .ready else .done) jump)) ∧
          (W3.putObj (D + 1) (.loop (rec (if jump.isNone then .ready else .done) jump))).heap[D]? = some (.deferred (some [])) ∧
          KS (OT T w0.heap.size W1.heap.size M) W (W3.putObj (D + 1) (.loop (rec (if jump.isNone then .ready else .done) jump))) := fun jump W3 hk3 => by
        have hszb : D + 1 < Wb.heap.size := (Array.getElem?_eq_some_iff.1 hl2).1
        have hl3 : W3.heap[D + 1]? = _ := (hk3.block (D + 1) hszb (by rintro (h | h); exact nT _ (by omega) h; omega)).trans hl2
        have hd3 : W3.heap[D]? = _ := (hk3.block D (by omega) (by rintro (h | h); exact nT _ (by omega) h; omega)).trans hk2
        have hlt3 := (Array.getElem?_eq_some_iff.1 hl3).1
        have := run_endRound (P := P) jump hl3
        rw [hrec] at this ⊢
        refine ⟨this, (KS.refl _ _).putObj (.inr (.inr rfl)) _, World.putObj_heap_same hlt3, (World.putObj_heap_other (by omega)).trans hd3, (hkb.trans (hk3.mono (fun k h => ?_))).putObj hTD _⟩
        rcases h with h | h
        · exact .inl (.inl h)
        · exact .inr ⟨by omega, h.2⟩
      rintro e a3 W3 hp
      cases e with
      | normal =>
        obtain ⟨hk3, hi3⟩ := hp
        obtain ⟨hr, hbl, hl4, hk4, hkk⟩ := fin none W3 hk3
        exact ⟨_, _, hr, .inl ⟨rfl, ⟨hI _ _ _ _ _ hm2 (fun _ h => .inl h) hi3 hbl, hl4, hk4, fun k h _ => (hm k h).1⟩, hkk⟩⟩
      | ret =>
        obtain ⟨hk3, hi3⟩ := hp
        obtain ⟨hr, hbl, hl4, hk4, hkk⟩ := fin (some .ret) W3 hk3
        exact ⟨_, _, hr, .inr ⟨rfl, ⟨.ret, hIx _ _ _ _ _ _ hm2 (fun _ h => .inl h) hi3 hbl, hl4, hk4, fun k h _ => (hm k h).1⟩, hkk⟩⟩
      | exit id =>
        obtain ⟨hk3, hi3⟩ := hp
        obtain ⟨hr, hbl, hl4, hk4, hkk⟩ := fin (some (.exit id)) W3 hk3
        exact ⟨_, _, hr, .inr ⟨rfl, ⟨.exit id, hIx _ _ _ _ _ _ hm2 (fun _ h => .inl h) hi3 hbl, hl4, hk4, fun k h _ => (hm k h).1⟩, hkk⟩⟩
      | goto t =>
        obtain ⟨hk3, hi3⟩ := hp
        obtain ⟨hr, hbl, hl4, hk4, hkk⟩ := fin (some (.goto t)) W3 hk3
        exact ⟨_, _, hr, .inr ⟨rfl, ⟨.goto t, hIx _ _ _ _ _ _ hm2 (fun _ h => .inl h) hi3 hbl, hl4, hk4, fun k h _ => (hm k h).1⟩, hkk⟩⟩
      | panic ch => exact hp.elim
      | outgrown => exact hp.elim
    · rintro e W2 ⟨⟨v, rfl⟩, (⟨M, xs, hm, hS, hi, hl, hk, hM9⟩ | ⟨M, pre, hm, hSp, c, hi, hl, hk, hM9⟩)⟩
      · exact ⟨none, _, by have := run_endLoop (P := P) hl (by rw [hrec]; simp); rw [hrec] at this; exact this, hdone D _ xs _ rfl hS (hI _ _ _ _ _ (fun k hk => by have := hm k hk; omega) (fun _ h => .inl h) hi ((KS.refl _ _).putObj (.inr (.inr rfl)) _)) ((World.putObj_heap_other (by omega)).trans hk)⟩
      · exact ⟨some c, _, by have := run_endLoop (P := P) hl (by rw [hrec]; simp); rw [hrec] at this; exact this, hstop D c _ pre _ rfl hSp (hIx _ _ _ _ _ _ (fun k hk => by have := hm k hk; omega) (fun _ h => .inl h) hi ((KS.refl _ _).putObj (.inr (.inr rfl)) _)) ((World.putObj_heap_other (by omega)).trans hk)⟩
end Go
