/-
  A loop over an iterator of which it is known what it hands on: XRangeD's law, with that in the body's hands. Plain laws. No condition.
-/
import Derived.Test.YtifdogmlaengoaaRangeD
namespace Go
open Go.RowKit
/-- A function that iterates, and may be stopped: a round turns blocks of S alone; what it hands on is known. -/
def SeqE {α : Type} (F : Fence) (n : Nat) (P : Program) (g : Nat) (lb : Array Value) (encs : α → Array Value) (T : Nat → Prop) (S Sp : List α → Prop) (N : Nat) (w0 : World) : Prop :=
  ∀ (l : Nat) (J Jx : List α → World → Prop) (W : World), KS T w0 W →
    (∀ s A B, J s A → Below W.heap.size A B → J s B) → (∀ s A B, Jx s A → Below W.heap.size A B → Jx s B) →
    (∀ pre x W1, W.heap.size ≤ W1.heap.size → J pre W1 → pre.length < N → Sp (pre ++ [x]) → YieldAt F (n - 1) P l (encs x) W1 fun e W' =>
      (e = .returned (.bool true) ∧ J (pre ++ [x]) W' ∧ KS (TT T w0.heap.size W.heap.size) W1 W') ∨ (e = .returned (.bool false) ∧ Jx (pre ++ [x]) W' ∧ KS (TT T w0.heap.size W.heap.size) W1 W')) →
    J [] W →
    CallsIn F n P g (#[.func (.yield l) #[] #[]] ++ lb) W fun e W' => (∃ v, e = .returned v) ∧ ((∃ xs, S xs ∧ J xs W') ∨ (∃ pre, Sp pre ∧ Jx pre W'))
variable {F : Fence} {n : Nat} {P : Program}
theorem wpIn_rangeFunc_E {α : Type} {g : Operand} {ps : Array Tmp} {assign body : Code} {Q : Exit → Act → World → Prop} {a : Act} {w : World}
    (hro : F.round = none) (h1 : 1 ≤ n) {gf : Nat} {lb : Array Value} (hg : a.eval g = .func (.func gf) #[] lb) (hFg : F.fn gf) (eg : ∀ args w, (callFunc gf args).run P w = .ok (.enter gf args) w)
    {encs : α → Array Value} {T : Nat → Prop} {S Sp : List α → Prop} {N : Nat} {w0 : World} (hseq : SeqE F (n - 1) P gf lb encs T S Sp N w0) (hT : ∀ k, T k → k < w.heap.size) (hb0 : KS T w0 w) (hps : ∀ x, (encs x).size = ps.size)
    (I : List α → World → Prop) (Ix : Code → List α → World → Prop) (hI : ∀ s A B, I s A → Below w.heap.size A B → I s B) (hIx : ∀ c s A B, Ix c s A → Below w.heap.size A B → Ix c s B) (h0 : I [] w) (a₁ : α → Act)
    (hassign : ∀ (l : Nat) (x : α) (W : World) (K : Act → World → Prop), K (a₁ x) W →
      assign.wpIn (F.inRound l) (n - 1 - 1) P (Exit.then K (fun _ _ _ => False)) { tmps := (ps.zip (encs x)).foldl (fun t (p, v) => t.setIfInBounds p v) a.tmps, defers := [] } W)
    (hbody : ∀ (l : Nat) (pre : List α) (x : α) (W : World), w.heap.size ≤ W.heap.size → I pre W → pre.length < N → Sp (pre ++ [x]) → body.wpIn (F.inRound l) (n - 1 - 1) P (postC T I Ix (pre ++ [x]) W) (a₁ x) W)
    (hdone : ∀ (D : Nat) (xs : List α) (W : World), w.heap.size ≤ D → S xs → I xs W → W.heap[D]? = some (.deferred (some [])) → Q .normal { a with defers := { target := .collected D, args := #[] } :: a.defers } W)
    (hstop : ∀ (D : Nat) (c : Code) (pre : List α) (W : World), w.heap.size ≤ D → Sp pre → Ix c pre W → W.heap[D]? = some (.deferred (some [])) → c.wpIn F n P Q { a with defers := { target := .collected D, args := #[] } :: a.defers } W) :
    (Code.rangeFunc g ps assign body).wpIn F n P Q a w := by
  refine wpIn_rangeFunc ?_
  intro fn hfn
  rw [hro]
  obtain ⟨rec, hrec⟩ : ∃ rec : LoopState → Option Code → Loop, rec = fun st pe => { state := st, pending := pe, fn, tmps := a.tmps, params := ps, assign, body, defers := w.heap.size } := ⟨_, rfl⟩
  obtain ⟨D, hD⟩ : ∃ D, w.heap.size = D := ⟨_, rfl⟩
  obtain ⟨W1, hW1⟩ : ∃ W1, (w.alloc (.deferred (some []))).alloc (.loop (rec .ready none)) = W1 := ⟨_, rfl⟩
  have hL1 : W1.heap[D + 1]? = some (.loop (rec .ready none)) := by
    have := World.alloc_heap_new (w.alloc (.deferred (some []))) (.loop (rec .ready none))
    rwa [World.size_alloc, hW1, hD] at this
  have hK1 : W1.heap[D]? = some (.deferred (some [])) := by
    rw [← hW1, ← hD]; exact (Below.heap_alloc _ _ _ (by simp)).trans (World.alloc_heap_new w _)
  have hw1 : Below D w W1 := by rw [← hW1, ← hD]; exact ((Below.refl _ w).alloc (Nat.le_refl _) _).alloc (by simp) _
  have hs1 : W1.heap.size = D + 2 := by rw [← hW1, ← hD]; simp
  have hb1 : KS T w0 W1 := hb0.trans (KS.of_below (by rw [hD]; exact hw1))
  rw [hD] at hI hIx hbody hdone hstop hT
  have nT : ∀ k, D ≤ k → ¬ T k := fun k hk ht => by have := hT k ht; omega
  refine ⟨D + 1, [{ target := .collected D, args := #[] }], W1, { target := .fn (.func gf) lb, args := #[.func (.yield (D + 1)) #[] #[]] }, W1, gf,
    #[.func (.yield (D + 1)) #[] #[]] ++ lb, W1, ?_, ?_, ?_, ?_, fun _ => h1, ?_⟩
  · rw [← hW1, hrec, ← hD]; exact run_enterLoop_outer _ _ _ _ _
  · simp only [resolve, hg]
    simp [go_sem]
  · intro f' hf'; simp [Target.leads] at hf'; subst hf'; exact hFg
  · simp [invoke, go_sem, eg]
  · have keep : ∀ {A B : World} {k : Nat} {o : Obj}, Below W1.heap.size A B → k < D + 2 → A.heap[k]? = some o → B.heap[k]? = some o := fun hb hk h => (hb.block _ (by omega)).trans h
    refine (hseq (D + 1)
      (fun pre W => I pre W ∧ W.heap[D + 1]? = some (.loop (rec .ready none)) ∧ W.heap[D]? = some (.deferred (some [])))
      (fun pre W => ∃ c, Ix c pre W ∧ W.heap[D + 1]? = some (.loop (rec .done (some c))) ∧ W.heap[D]? = some (.deferred (some [])))
      W1 hb1
      (fun s A B hs hb => ⟨hI s A B hs.1 (hb.mono (by omega)), keep hb (by omega) hs.2.1, keep hb (by omega) hs.2.2⟩)
      (fun s A B hs hb => by
        obtain ⟨c, hc, hl, hk⟩ := hs
        exact ⟨c, hIx c s A B hc (hb.mono (by omega)), keep hb (by omega) hl, keep hb (by omega) hk⟩)
      ?_ ⟨hI _ _ _ h0 hw1, hL1, hK1⟩).mono ?_
    · rintro pre x W hsz ⟨hi, hl, hk⟩ hlen hsp
      have hlt : D + 1 < W.heap.size := by omega
      have hy := run_yield (P := P) (args := encs x) hl (by rw [hrec]; exact hps x)
      rw [hrec] at hy
      refine ⟨fn, _, assign, body, hy, roundIn_of_wpIn hfn (hassign _ x W _ ⟨_, run_beginRound hl (by rw [hrec]), ?_⟩)⟩
      obtain ⟨Wb, hWb⟩ : ∃ Wb, W.putObj (D + 1) (.loop { rec .ready none with state := .busy }) = Wb := ⟨_, rfl⟩
      have hl2 : Wb.heap[D + 1]? = some (.loop { rec .ready none with state := .busy }) := by rw [← hWb]; exact World.putObj_heap_same hlt
      have hk2 : Wb.heap[D]? = some (.deferred (some [])) := by rw [← hWb]; exact (World.putObj_heap_other (by omega)).trans hk
      have hbb : Below D W Wb := by rw [← hWb]; exact below_putObj (Below.refl _ _) (by omega) _
      have hlo : w0.heap.size ≤ D := by rw [← hD]; exact hb0.size
      have hTD : TT T w0.heap.size W1.heap.size (D + 1) := .inr ⟨by omega, by omega⟩
      have hkb : KS (TT T w0.heap.size W1.heap.size) W Wb := by rw [← hWb]; exact (KS.refl _ _).putObj hTD _
      have hsb : D ≤ Wb.heap.size := by have := hbb.size; omega
      have key := hbody (D + 1) pre x Wb hsb (hI _ _ _ hi hbb) hlen hsp
      rw [hWb]
      refine wpIn_mono key ?_
      have fin : ∀ (jump : Option Code) (W3 : World), KS T Wb W3 →
          (Instr.endRound (D + 1) jump).run P W3 = .ok (.bool jump.isNone) (W3.putObj (D + 1) (.loop (rec (if jump.isNone then .ready else .done) jump))) ∧
          Below D W3 (W3.putObj (D + 1) (.loop (rec (if jump.isNone then .ready else .done) jump))) ∧
          (W3.putObj (D + 1) (.loop (rec (if jump.isNone then .ready else .done) jump))).heap[D + 1]? = some (.loop (rec (if jump.isNone then .ready else .done) jump)) ∧
          (W3.putObj (D + 1) (.loop (rec (if jump.isNone then .ready else .done) jump))).heap[D]? = some (.deferred (some [])) ∧
          KS (TT T w0.heap.size W1.heap.size) W (W3.putObj (D + 1) (.loop (rec (if jump.isNone then .ready else .done) jump))) := fun jump W3 hk3 => by
        have hszb : D + 1 < Wb.heap.size := (Array.getElem?_eq_some_iff.1 hl2).1
        have hl3 : W3.heap[D + 1]? = _ := (hk3.block (D + 1) hszb (nT _ (by omega))).trans hl2
        have hd3 : W3.heap[D]? = _ := (hk3.block D (by omega) (nT _ (by omega))).trans hk2
        have hlt3 := (Array.getElem?_eq_some_iff.1 hl3).1
        have := run_endRound (P := P) jump hl3
        rw [hrec] at this ⊢
        refine ⟨this, below_putObj (Below.refl _ _) (by omega) _, World.putObj_heap_same hlt3, (World.putObj_heap_other (by omega)).trans hd3, (hkb.trans (hk3.mono (fun _ h => .inl h))).putObj hTD _⟩
      rintro e a3 W3 hp
      cases e with
      | normal =>
        obtain ⟨hk3, hi3⟩ := hp
        obtain ⟨hr, hbl, hl4, hk4, hkk⟩ := fin none W3 hk3
        exact ⟨_, _, hr, .inl ⟨rfl, ⟨hI _ _ _ hi3 hbl, hl4, hk4⟩, hkk⟩⟩
      | ret =>
        obtain ⟨hk3, hi3⟩ := hp
        obtain ⟨hr, hbl, hl4, hk4, hkk⟩ := fin (some .ret) W3 hk3
        exact ⟨_, _, hr, .inr ⟨rfl, ⟨.ret, hIx _ _ _ _ hi3 hbl, hl4, hk4⟩, hkk⟩⟩
      | exit id =>
        obtain ⟨hk3, hi3⟩ := hp
        obtain ⟨hr, hbl, hl4, hk4, hkk⟩ := fin (some (.exit id)) W3 hk3
        exact ⟨_, _, hr, .inr ⟨rfl, ⟨.exit id, hIx _ _ _ _ hi3 hbl, hl4, hk4⟩, hkk⟩⟩
      | goto t =>
        obtain ⟨hk3, hi3⟩ := hp
        obtain ⟨hr, hbl, hl4, hk4, hkk⟩ := fin (some (.goto t)) W3 hk3
        exact ⟨_, _, hr, .inr ⟨rfl, ⟨.goto t, hIx _ _ _ _ hi3 hbl, hl4, hk4⟩, hkk⟩⟩
      | panic ch => exact hp.elim
      | outgrown => exact hp.elim
    · rintro e W2 ⟨⟨v, rfl⟩, (⟨xs, hS, hi, hl, hk⟩ | ⟨pre, hSp, c, hi, hl, hk⟩)⟩
      · exact ⟨none, _, by have := run_endLoop (P := P) hl (by rw [hrec]; simp); rw [hrec] at this; exact this, hdone D xs _ (Nat.le_refl _) hS (hI _ _ _ hi (below_putObj (Below.refl _ _) (by omega) _)) ((World.putObj_heap_other (by omega)).trans hk)⟩
      · exact ⟨some c, _, by have := run_endLoop (P := P) hl (by rw [hrec]; simp); rw [hrec] at this; exact this, hstop D c pre _ (Nat.le_refl _) hSp (hIx c _ _ _ hi (below_putObj (Below.refl _ _) (by omega) _)) ((World.putObj_heap_other (by omega)).trans hk)⟩
end Go
