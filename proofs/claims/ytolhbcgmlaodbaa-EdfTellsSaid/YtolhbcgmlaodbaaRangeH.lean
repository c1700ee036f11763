/-
  A loop over an iterator that turns blocks of its own that were there ahead (M) between two rounds, and what these hold at the end: XRangeG's law. Plain laws. No condition.
-/
import Derived.RangeFuncBox
import Derived.RangeFuncNested
import Derived.Test.YtolhbcgmlaodbaaAppC
namespace Go
open Go.RowKit
/-- Blocks of S may have turned: no others. -/
structure KS (S : Nat → Prop) (A B : World) : Prop where
  os : B.os = A.os
  tape : B.tape = A.tape
  output : B.output = A.output
  size : A.heap.size ≤ B.heap.size
  block : ∀ k, k < A.heap.size → ¬ S k → B.heap[k]? = A.heap[k]?
section
variable {S : Nat → Prop} {A B C : World}
theorem KS.refl (S : Nat → Prop) (A : World) : KS S A A := ⟨rfl, rfl, rfl, Nat.le_refl _, fun _ _ _ => rfl⟩
theorem KS.trans (h : KS S A B) (k : KS S B C) : KS S A C :=
  ⟨k.os.trans h.os, k.tape.trans h.tape, k.output.trans h.output, Nat.le_trans h.size k.size, fun i h1 h2 => (k.block i (Nat.lt_of_lt_of_le h1 h.size) h2).trans (h.block i h1 h2)⟩
theorem KS.drew (h : KS S A B) : KS S A B.drew := ⟨h.os, h.tape, h.output, h.size, h.block⟩
theorem KS.setCell (h : KS S A B) {b : Nat} (hb : S b) (o : Nat) (u : Value) : KS S A (B.setCell ⟨b, o, none⟩ u) :=
  h.trans ⟨rfl, rfl, rfl, by simp [World.setCell], fun k _ hn => Below.heap_setCell B ⟨b, o, none⟩ u k (fun e => hn (by rw [e]; exact hb))⟩
theorem KS.of_below (h : Below A.heap.size A B) : KS S A B := ⟨h.os, h.tape, h.output, h.size, fun k hk _ => h.block k hk⟩
theorem KS.far (h : KS S A B) (k : Below A.heap.size B C) : KS S A C :=
  ⟨k.os.trans h.os, k.tape.trans h.tape, k.output.trans h.output, Nat.le_trans h.size k.size, fun i h1 h2 => (k.block i h1).trans (h.block i h1 h2)⟩
theorem KS.mono {S' : Nat → Prop} (h : KS S A B) (hS : ∀ k, S k → S' k) : KS S' A B := ⟨h.os, h.tape, h.output, h.size, fun k hk hn => h.block k hk (fun e => hn (hS k e))⟩
theorem KS.putObj (h : KS S A B) {l : Nat} (hl : S l) (o : Obj) : KS S A (B.putObj l o) :=
  h.trans ⟨rfl, rfl, rfl, by simp, fun k _ hn => World.putObj_heap_other (fun e => hn (by rw [e]; exact hl))⟩
/-- S, and the blocks from lo to hi. -/
def TT (S : Nat → Prop) (lo hi : Nat) (k : Nat) : Prop := S k ∨ (lo ≤ k ∧ k < hi)
theorem KS.on {lo hi : Nat} (h : KS S A B) (k : KS (TT S lo hi) B C) (hlo : A.heap.size ≤ lo) : KS S A C :=
  ⟨k.os.trans h.os, k.tape.trans h.tape, k.output.trans h.output, Nat.le_trans h.size k.size, fun i h1 h2 => (k.block i (Nat.lt_of_lt_of_le h1 h.size) (fun e => by rcases e with e | ⟨e, _⟩; exact h2 e; omega)).trans (h.block i h1 h2)⟩
/-- What lies below all of S. -/
theorem KS.under {n : Nat} (h : KS S A B) (hS : ∀ k, S k → n ≤ k) (hn : n ≤ A.heap.size) : Below n A B :=
  ⟨h.os, h.tape, h.output, h.size, fun k hk => h.block k (by omega) (fun hs => by have := hS k hs; omega)⟩
theorem KS.boxed {b : Nat} {t : TypeId} {v : Value} (h : KS S A B) (hb : ¬ S b) (hx : Boxed A b t v) : Boxed B b t v := (h.block b hx.lt hb).trans hx
theorem KS.cell {b o : Nat} {v : Value} (h : KS S A B) (hb : ¬ S b) (hc : A.cell? ⟨b, o, none⟩ = some v) : B.cell? ⟨b, o, none⟩ = some v := by
  have hlt : b < A.heap.size := by
    rcases Nat.lt_or_ge b A.heap.size with h | h
    · exact h
    · simp [World.cell?, Array.getElem?_eq_none h] at hc
  have he : B.heap[b]? = A.heap[b]? := h.block b hlt hb
  simpa [World.cell?, he] using hc
end
theorem below_putObj {B : Nat} {A W : World} (h : Below B A W) {l : Nat} (hl : B ≤ l) (o : Obj) : Below B A (W.putObj l o) :=
  h.trans ⟨rfl, rfl, rfl, by simp, fun k hk => World.putObj_heap_other (by omega)⟩
/-- A function that iterates, and may be stopped: a round turns blocks of S alone. -/
def SeqC {α : Type} (F : Fence) (n : Nat) (P : Program) (g : Nat) (lb : Array Value) (encs : α → Array Value) (T : Nat → Prop) (S Sp : List α → Prop) (N : Nat) (w0 : World) : Prop :=
  ∀ (l : Nat) (J Jx : List α → World → Prop) (W : World), KS T w0 W →
    (∀ s A B, J s A → Below W.heap.size A B → J s B) → (∀ s A B, Jx s A → Below W.heap.size A B → Jx s B) →
    (∀ pre x W1, W.heap.size ≤ W1.heap.size → J pre W1 → pre.length < N → YieldAt F (n - 1) P l (encs x) W1 fun e W' =>
      (e = .returned (.bool true) ∧ J (pre ++ [x]) W' ∧ KS (TT T w0.heap.size W.heap.size) W1 W') ∨ (e = .returned (.bool false) ∧ Jx (pre ++ [x]) W' ∧ KS (TT T w0.heap.size W.heap.size) W1 W')) →
    J [] W →
    CallsIn F n P g (#[.func (.yield l) #[] #[]] ++ lb) W fun e W' => (∃ v, e = .returned v) ∧ ((∃ xs, S xs ∧ J xs W') ∨ (∃ pre, Sp pre ∧ Jx pre W'))
/-- How the body of a round may be left. -/
def postC {α : Type} (T : Nat → Prop) (I : List α → World → Prop) (Ix : Code → List α → World → Prop) (xs : List α) (W : World) : Exit → Act → World → Prop
  | .normal, _, W' => KS T W W' ∧ I xs W'
  | .ret, _, W' => KS T W W' ∧ Ix .ret xs W'
  | .exit id, _, W' => KS T W W' ∧ Ix (.exit id) xs W'
  | .goto t, _, W' => KS T W W' ∧ Ix (.goto t) xs W'
  | .panic _, _, _ => False
  | .outgrown, _, _ => False
variable {F : Fence} {n : Nat} {P : Program}
theorem wpIn_rangeFunc_C {α : Type} {g : Operand} {ps : Array Tmp} {assign body : Code} {Q : Exit → Act → World → Prop} {a : Act} {w : World}
    (hro : F.round = none) (h1 : 1 ≤ n) {gf : Nat} {lb : Array Value} (hg : a.eval g = .func (.func gf) #[] lb) (hFg : F.fn gf) (eg : ∀ args w, (callFunc gf args).run P w = .ok (.enter gf args) w)
    {encs : α → Array Value} {T : Nat → Prop} {S Sp : List α → Prop} {N : Nat} {w0 : World} (hseq : SeqC F (n - 1) P gf lb encs T S Sp N w0) (hT : ∀ k, T k → k < w.heap.size) (hb0 : KS T w0 w) (hps : ∀ x, (encs x).size = ps.size)
    (I : List α → World → Prop) (Ix : Code → List α → World → Prop) (hI : ∀ s A B, I s A → Below w.heap.size A B → I s B) (hIx : ∀ c s A B, Ix c s A → Below w.heap.size A B → Ix c s B) (h0 : I [] w) (a₁ : α → Act)
    (hassign : ∀ (l : Nat) (x : α) (W : World) (K : Act → World → Prop), K (a₁ x) W →
      assign.wpIn (F.inRound l) (n - 1 - 1) P (Exit.then K (fun _ _ _ => False)) { tmps := (ps.zip (encs x)).foldl (fun t (p, v) => t.setIfInBounds p v) a.tmps, defers := [] } W)
    (hbody : ∀ (l : Nat) (pre : List α) (x : α) (W : World), w.heap.size ≤ W.heap.size → I pre W → pre.length < N → body.wpIn (F.inRound l) (n - 1 - 1) P (postC T I Ix (pre ++ [x]) W) (a₁ x) W)
    (hdone : ∀ (D : Nat) (xs : List α) (W : World), w.heap.size ≤ D → S xs → I xs W → W.heap[D]? = some (.deferred (some [])) → Q .normal { a with defers := { target := .collected D, args := #[] } :: a.defers } W)
    (hstop : ∀ (D : Nat) (c : Code) (pre : List α) (W : World), w.heap.size ≤ D → Sp pre → Ix c pre W → W.heap[D]? = some (.deferred (some [])) → c.wpIn F n P Q { a with defers := { target := .collected D, args := #[] } :: a.defers } W) :
    (Code.rangeFunc g ps assign body).wpIn F n P Q a w := by
  refine wpIn_rangeFunc ?_
  intro fn hfn
  rw [hro]
  obtain ⟨rec, hrec⟩ : ∃ rec : LoopState → Option Code → Loop, rec = fun st pe => { state := st, pending := pe, fn, tmps := a.tmps, params := ps, assign, body, defers := w.heap.size } := ⟨_, rfl⟩
  obtain ⟨D, hD⟩ : ∃ D, w.heap.size = D := ⟨_, rfl⟩
  obtain ⟨W1, hW1⟩ : ∃ W1, (w.alloc (.deferred (some []))).alloc (.loop (rec .ready none)) = W1 := ⟨_, rfl⟩
  have hL1 : W1.heap[D + 1]? = some (.loop (rec .ready none)) := by
    have := World.alloc_heap_new (w.alloc (.deferred (some []))) (.loop (rec .ready none))
    rwa [World.size_alloc, hW1, hD] at this
  have hK1 : W1.heap[D]? = some (.deferred (some [])) := by
    rw [← hW1, ← hD]; exact (Below.heap_alloc _ _ _ (by simp)).trans (World.alloc_heap_new w _)
  have hw1 : Below D w W1 := by rw [← hW1, ← hD]; exact ((Below.refl _ w).alloc (Nat.le_refl _) _).alloc (by simp) _
  have hs1 : W1.heap.size = D + 2 := by rw [← hW1, ← hD]; simp
  have hb1 : KS T w0 W1 := hb0.trans (KS.of_below (by rw [hD]; exact hw1))
  rw [hD] at hI hIx hbody hdone hstop hT
  have nT : ∀ k, D ≤ k → ¬ T k := fun k hk ht => by have := hT k ht; omega
  refine ⟨D + 1, [{ target := .collected D, args := #[] }], W1, { target := .fn (.func gf) lb, args := #[.func (.yield (D + 1)) #[] #[]] }, W1, gf,
    #[.func (.yield (D + 1)) #[] #[]] ++ lb, W1, ?_, ?_, ?_, ?_, fun _ => h1, ?_⟩
  · rw [← hW1, hrec, ← hD]; exact run_enterLoop_outer _ _ _ _ _
  · simp only [resolve, hg]
    simp [go_sem]
  · intro f' hf'; simp [Target.leads] at hf'; subst hf'; exact hFg
  · simp [invoke, go_sem, eg]
  · have keep : ∀ {A B : World} {k : Nat} {o : Obj}, Below W1.heap.size A B → k < D + 2 → A.heap[k]? = some o → B.heap[k]? = some o := fun hb hk h => (hb.block _ (by omega)).trans h
    refine (hseq (D + 1)
      (fun pre W => I pre W ∧ W.heap[D + 1]? = some (.loop (rec .ready none)) ∧ W.heap[D]? = some (.deferred (some [])))
      (fun pre W => ∃ c, Ix c pre W ∧ W.heap[D + 1]? = some (.loop (rec .done (some c))) ∧ W.heap[D]? = some (.deferred (some [])))
      W1 hb1
      (fun s A B hs hb => ⟨hI s A B hs.1 (hb.mono (by omega)), keep hb (by omega) hs.2.1, keep hb (by omega) hs.2.2⟩)
      (fun s A B hs hb => by
        obtain ⟨c, hc, hl, hk⟩ := hs
        exact ⟨c, hIx c s A B hc (hb.mono (by omega)), keep hb (by omega) hl, keep hb (by omega) hk⟩)
      ?_ ⟨hI _ _ _ h0 hw1, hL1, hK1⟩).mono ?_
    · rintro pre x W hsz ⟨hi, hl, hk⟩ hlen
      have hlt : D + 1 < W.heap.size := by omega
      have hy := run_yield (P := P) (args := encs x) hl (by rw [hrec]; exact hps x)
      rw [hrec] at hy
      refine ⟨fn, _, assign, body, hy, roundIn_of_wpIn hfn (hassign _ x W _ ⟨_, run_beginRound hl (by rw [hrec]), ?_⟩)⟩
      obtain ⟨Wb, hWb⟩ : ∃ Wb, W.putObj (D + 1) (.loop { rec .ready none with state := .busy }) = Wb := ⟨_, rfl⟩
      have hl2 : Wb.heap[D + 1]? = some (.loop { rec .ready none with state := .busy }) := by rw [← hWb]; exact World.putObj_heap_same hlt
      have hk2 : Wb.heap[D]? = some (.deferred (some [])) := by rw [← hWb]; exact (World.putObj_heap_other (by omega)).trans hk
      have hbb : Below D W Wb := by rw [← hWb]; exact below_putObj (Below.refl _ _) (by omega) _
      have hlo : w0.heap.size ≤ D := by rw [← hD]; exact hb0.size
      have hTD : TT T w0.heap.size W1.heap.size (D + 1) := .inr ⟨by omega, by omega⟩
      have hkb : KS (TT T w0.heap.size W1.heap.size) W Wb := by rw [← hWb]; exact (KS.refl _ _).putObj hTD _
      have hsb : D ≤ Wb.heap.size := by have := hbb.size; omega
      have key := hbody (D + 1) pre x Wb hsb (hI _ _ _ hi hbb) hlen
      rw [hWb]
      refine wpIn_mono key ?_
      have fin : ∀ (jump : Option Code) (W3 : World), KS T Wb W3 →
          (Instr.endRound (D + 1) jump).run P W3 = .ok (.bool jump.isNone) (W3.putObj (D + 1) (.loop (rec (if jump.isNone then .ready else .done) jump))) ∧
          Below D W3 (W3.putObj (D + 1) (.loop (rec (if jump.isNone then .ready else .done) jump))) ∧
          (W3.putObj (D + 1) (.loop (rec (if jump.isNone then .ready else .done) jump))).heap[D + 1]? = some (.loop (rec (if jump.isNone then .ready else .done) jump)) ∧
          (W3.putObj (D + 1) (.loop (rec (if jump.isNone then .ready else .done) jump))).heap[D]? = some (.deferred (some [])) ∧
          KS (TT T w0.heap.size W1.heap.size) W (W3.putObj (D + 1) (.loop (rec (if jump.isNone then .ready else .done) jump))) := fun jump W3 hk3 => by
        have hszb : D + 1 < Wb.heap.size := (Array.getElem?_eq_some_iff.1 hl2).1
        have hl3 : W3.heap[D + 1]? = _ := (hk3.block (D + 1) hszb (nT _ (by omega))).trans hl2
        have hd3 : W3.heap[D]? = _ := (hk3.block D (by omega) (nT _ (by omega))).trans hk2
        have hlt3 := (Array.getElem?_eq_some_iff.1 hl3).1
        have := run_endRound (P := P) jump hl3
        rw [hrec] at this ⊢
        refine ⟨this, below_putObj (Below.refl _ _) (by omega) _, World.putObj_heap_same hlt3, (World.putObj_heap_other (by omega)).trans hd3, (hkb.trans (hk3.mono (fun _ h => .inl h))).putObj hTD _⟩
      rintro e a3 W3 hp
      cases e with
      | normal =>
        obtain ⟨hk3, hi3⟩ := hp
        obtain ⟨hr, hbl, hl4, hk4, hkk⟩ := fin none W3 hk3
        exact ⟨_, _, hr, .inl ⟨rfl, ⟨hI _ _ _ hi3 hbl, hl4, hk4⟩, hkk⟩⟩
      | ret =>
        obtain ⟨hk3, hi3⟩ := hp
        obtain ⟨hr, hbl, hl4, hk4, hkk⟩ := fin (some .ret) W3 hk3
        exact ⟨_, _, hr, .inr ⟨rfl, ⟨.ret, hIx _ _ _ _ hi3 hbl, hl4, hk4⟩, hkk⟩⟩
      | exit id =>
        obtain ⟨hk3, hi3⟩ := hp
        obtain ⟨hr, hbl, hl4, hk4, hkk⟩ := fin (some (.exit id)) W3 hk3
        exact ⟨_, _, hr, .inr ⟨rfl, ⟨.exit id, hIx _ _ _ _ hi3 hbl, hl4, hk4⟩, hkk⟩⟩
      | goto t =>
        obtain ⟨hk3, hi3⟩ := hp
        obtain ⟨hr, hbl, hl4, hk4, hkk⟩ := fin (some (.goto t)) W3 hk3
        exact ⟨_, _, hr, .inr ⟨rfl, ⟨.goto t, hIx _ _ _ _ hi3 hbl, hl4, hk4⟩, hkk⟩⟩
      | panic ch => exact hp.elim
      | outgrown => exact hp.elim
    · rintro e W2 ⟨⟨v, rfl⟩, (⟨xs, hS, hi, hl, hk⟩ | ⟨pre, hSp, c, hi, hl, hk⟩)⟩
      · exact ⟨none, _, by have := run_endLoop (P := P) hl (by rw [hrec]; simp); rw [hrec] at this; exact this, hdone D xs _ (Nat.le_refl _) hS (hI _ _ _ hi (below_putObj (Below.refl _ _) (by omega) _)) ((World.putObj_heap_other (by omega)).trans hk)⟩
      · exact ⟨some c, _, by have := run_endLoop (P := P) hl (by rw [hrec]; simp); rw [hrec] at this; exact this, hstop D c pre _ (Nat.le_refl _) hSp (hIx c _ _ _ hi (below_putObj (Below.refl _ _) (by omega) _)) ((World.putObj_heap_other (by omega)).trans hk)⟩
end Go
namespace Go
open Go.RowKit
/-- A function that iterates, and may be stopped: a round turns blocks of S alone; what it hands on is known. -/
def SeqE {α : Type} (F : Fence) (n : Nat) (P : Program) (g : Nat) (lb : Array Value) (encs : α → Array Value) (T : Nat → Prop) (S Sp : List α → Prop) (N : Nat) (w0 : World) : Prop :=
  ∀ (l : Nat) (J Jx : List α → World → Prop) (W : World), KS T w0 W →
    (∀ s A B, J s A → Below W.heap.size A B → J s B) → (∀ s A B, Jx s A → Below W.heap.size A B → Jx s B) →
    (∀ pre x W1, W.heap.size ≤ W1.heap.size → J pre W1 → pre.length < N → Sp (pre ++ [x]) → YieldAt F (n - 1) P l (encs x) W1 fun e W' =>
      (e = .returned (.bool true) ∧ J (pre ++ [x]) W' ∧ KS (TT T w0.heap.size W.heap.size) W1 W') ∨ (e = .returned (.bool false) ∧ Jx (pre ++ [x]) W' ∧ KS (TT T w0.heap.size W.heap.size) W1 W')) →
    J [] W →
    CallsIn F n P g (#[.func (.yield l) #[] #[]] ++ lb) W fun e W' => (∃ v, e = .returned v) ∧ ((∃ xs, S xs ∧ J xs W') ∨ (∃ pre, Sp pre ∧ Jx pre W'))
variable {F : Fence} {n : Nat} {P : Program}
theorem wpIn_rangeFunc_E {α : Type} {g : Operand} {ps : Array Tmp} {assign body : Code} {Q : Exit → Act → World → Prop} {a : Act} {w : World}
    (hro : F.round = none) (h1 : 1 ≤ n) {gf : Nat} {lb : Array Value} (hg : a.eval g = .func (.func gf) #[] lb) (hFg : F.fn gf) (eg : ∀ args w, (callFunc gf args).run P w = .ok (.enter gf args) w)
    {encs : α → Array Value} {T : Nat → Prop} {S Sp : List α → Prop} {N : Nat} {w0 : World} (hseq : SeqE F (n - 1) P gf lb encs T S Sp N w0) (hT : ∀ k, T k → k < w.heap.size) (hb0 : KS T w0 w) (hps : ∀ x, (encs x).size = ps.size)
    (I : List α → World → Prop) (Ix : Code → List α → World → Prop) (hI : ∀ s A B, I s A → Below w.heap.size A B → I s B) (hIx : ∀ c s A B, Ix c s A → Below w.heap.size A B → Ix c s B) (h0 : I [] w) (a₁ : α → Act)
    (hassign : ∀ (l : Nat) (x : α) (W : World) (K : Act → World → Prop), K (a₁ x) W →
      assign.wpIn (F.inRound l) (n - 1 - 1) P (Exit.then K (fun _ _ _ => False)) { tmps := (ps.zip (encs x)).foldl (fun t (p, v) => t.setIfInBounds p v) a.tmps, defers := [] } W)
    (hbody : ∀ (l : Nat) (pre : List α) (x : α) (W : World), w.heap.size ≤ W.heap.size → I pre W → pre.length < N → Sp (pre ++ [x]) → body.wpIn (F.inRound l) (n - 1 - 1) P (postC T I Ix (pre ++ [x]) W) (a₁ x) W)
    (hdone : ∀ (D : Nat) (xs : List α) (W : World), w.heap.size ≤ D → S xs → I xs W → W.heap[D]? = some (.deferred (some [])) → Q .normal { a with defers := { target := .collected D, args := #[] } :: a.defers } W)
    (hstop : ∀ (D : Nat) (c : Code) (pre : List α) (W : World), w.heap.size ≤ D → Sp pre → Ix c pre W → W.heap[D]? = some (.deferred (some [])) → c.wpIn F n P Q { a with defers := { target := .collected D, args := #[] } :: a.defers } W) :
    (Code.rangeFunc g ps assign body).wpIn F n P Q a w := by
  refine wpIn_rangeFunc ?_
  intro fn hfn
  rw [hro]
  obtain ⟨rec, hrec⟩ : ∃ rec : LoopState → Option Code → Loop, rec = fun st pe => { state := st, pending := pe, fn, tmps := a.tmps, params := ps, assign, body, defers := w.heap.size } := ⟨_, rfl⟩
  obtain ⟨D, hD⟩ : ∃ D, w.heap.size = D := ⟨_, rfl⟩
  obtain ⟨W1, hW1⟩ : ∃ W1, (w.alloc (.deferred (some []))).alloc (.loop (rec .ready none)) = W1 := ⟨_, rfl⟩
  have hL1 : W1.heap[D + 1]? = some (.loop (rec .ready none)) := by
    have := World.alloc_heap_new (w.alloc (.deferred (some []))) (.loop (rec .ready none))
    rwa [World.size_alloc, hW1, hD] at this
  have hK1 : W1.heap[D]? = some (.deferred (some [])) := by
    rw [← hW1, ← hD]; exact (Below.heap_alloc _ _ _ (by simp)).trans (World.alloc_heap_new w _)
  have hw1 : Below D w W1 := by rw [← hW1, ← hD]; exact ((Below.refl _ w).alloc (Nat.le_refl _) _).alloc (by simp) _
  have hs1 : W1.heap.size = D + 2 := by rw [← hW1, ← hD]; simp
  have hb1 : KS T w0 W1 := hb0.trans (KS.of_below (by rw [hD]; exact hw1))
  rw [hD] at hI hIx hbody hdone hstop hT
  have nT : ∀ k, D ≤ k → ¬ T k := fun k hk ht => by have := hT k ht; omega
  refine ⟨D + 1, [{ target := .collected D, args := #[] }], W1, { target := .fn (.func gf) lb, args := #[.func (.yield (D + 1)) #[] #[]] }, W1, gf,
    #[.func (.yield (D + 1)) #[] #[]] ++ lb, W1, ?_, ?_, ?_, ?_, fun _ => h1, ?_⟩
  · rw [← hW1, hrec, ← hD]; exact run_enterLoop_outer _ _ _ _ _
  · simp only [resolve, hg]
    simp [go_sem]
  · intro f' hf'; simp [Target.leads] at hf'; subst hf'; exact hFg
  · simp [invoke, go_sem, eg]
  · have keep : ∀ {A B : World} {k : Nat} {o : Obj}, Below W1.heap.size A B → k < D + 2 → A.heap[k]? = some o → B.heap[k]? = some o := fun hb hk h => (hb.block _ (by omega)).trans h
    refine (hseq (D + 1)
      (fun pre W => I pre W ∧ W.heap[D + 1]? = some (.loop (rec .ready none)) ∧ W.heap[D]? = some (.deferred (some [])))
      (fun pre W => ∃ c, Ix c pre W ∧ W.heap[D + 1]? = some (.loop (rec .done (some c))) ∧ W.heap[D]? = some (.deferred (some [])))
      W1 hb1
      (fun s A B hs hb => ⟨hI s A B hs.1 (hb.mono (by omega)), keep hb (by omega) hs.2.1, keep hb (by omega) hs.2.2⟩)
      (fun s A B hs hb => by
        obtain ⟨c, hc, hl, hk⟩ := hs
        exact ⟨c, hIx c s A B hc (hb.mono (by omega)), keep hb (by omega) hl, keep hb (by omega) hk⟩)
      ?_ ⟨hI _ _ _ h0 hw1, hL1, hK1⟩).mono ?_
    · rintro pre x W hsz ⟨hi, hl, hk⟩ hlen hsp
      have hlt : D + 1 < W.heap.size := by omega
      have hy := run_yield (P := P) (args := encs x) hl (by rw [hrec]; exact hps x)
      rw [hrec] at hy
      refine ⟨fn, _, assign, body, hy, roundIn_of_wpIn hfn (hassign _ x W _ ⟨_, run_beginRound hl (by rw [hrec]), ?_⟩)⟩
      obtain ⟨Wb, hWb⟩ : ∃ Wb, W.putObj (D + 1) (.loop { rec .ready none with state := .busy }) = Wb := ⟨_, rfl⟩
      have hl2 : Wb.heap[D + 1]? = some (.loop { rec .ready none with state := .busy }) := by rw [← hWb]; exact World.putObj_heap_same hlt
      have hk2 : Wb.heap[D]? = some (.deferred (some [])) := by rw [← hWb]; exact (World.putObj_heap_other (by omega)).trans hk
      have hbb : Below D W Wb := by rw [← hWb]; exact below_putObj (Below.refl _ _) (by omega) _
      have hlo : w0.heap.size ≤ D := by rw [← hD]; exact hb0.size
      have hTD : TT T w0.heap.size W1.heap.size (D + 1) := .inr ⟨by omega, by omega⟩
      have hkb : KS (TT T w0.heap.size W1.heap.size) W Wb := by rw [← hWb]; exact (KS.refl _ _).putObj hTD _
      have hsb : D ≤ Wb.heap.size := by have := hbb.size; omega
      have key := hbody (D + 1) pre x Wb hsb (hI _ _ _ hi hbb) hlen hsp
      rw [hWb]
      refine wpIn_mono key ?_
      have fin : ∀ (jump : Option Code) (W3 : World), KS T Wb W3 →
          (Instr.endRound (D + 1) jump).run P W3 = .ok (.bool jump.isNone) (W3.putObj (D + 1) (.loop (rec (if jump.isNone then .ready else .done) jump))) ∧
          Below D W3 (W3.putObj (D + 1) (.loop (rec (if jump.isNone then .ready else .done) jump))) ∧
          (W3.putObj (D + 1) (.loop (rec (if jump.isNone then .ready else .done) jump))).heap[D + 1]? = some (.loop (rec (if jump.isNone then .ready else .done) jump)) ∧
          (W3.putObj (D + 1) (.loop (rec (if jump.isNone then .ready else .done) jump))).heap[D]? = some (.deferred (some [])) ∧
          KS (TT T w0.heap.size W1.heap.size) W (W3.putObj (D + 1) (.loop (rec (if jump.isNone then .ready else .done) jump))) := fun jump W3 hk3 => by
        have hszb : D + 1 < Wb.heap.size := (Array.getElem?_eq_some_iff.1 hl2).1
        have hl3 : W3.heap[D + 1]? = _ := (hk3.block (D + 1) hszb (nT _ (by omega))).trans hl2
        have hd3 : W3.heap[D]? = _ := (hk3.block D (by omega) (nT _ (by omega))).trans hk2
        have hlt3 := (Array.getElem?_eq_some_iff.1 hl3).1
        have := run_endRound (P := P) jump hl3
        rw [hrec] at this ⊢
        refine ⟨this, below_putObj (Below.refl _ _) (by omega) _, World.putObj_heap_same hlt3, (World.putObj_heap_other (by omega)).trans hd3, (hkb.trans (hk3.mono (fun _ h => .inl h))).putObj hTD _⟩
      rintro e a3 W3 hp
      cases e with
      | normal =>
        obtain ⟨hk3, hi3⟩ := hp
        obtain ⟨hr, hbl, hl4, hk4, hkk⟩ := fin none W3 hk3
        exact ⟨_, _, hr, .inl ⟨rfl, ⟨hI _ _ _ hi3 hbl, hl4, hk4⟩, hkk⟩⟩
      | ret =>
        obtain ⟨hk3, hi3⟩ := hp
        obtain ⟨hr, hbl, hl4, hk4, hkk⟩ := fin (some .ret) W3 hk3
        exact ⟨_, _, hr, .inr ⟨rfl, ⟨.ret, hIx _ _ _ _ hi3 hbl, hl4, hk4⟩, hkk⟩⟩
      | exit id =>
        obtain ⟨hk3, hi3⟩ := hp
        obtain ⟨hr, hbl, hl4, hk4, hkk⟩ := fin (some (.exit id)) W3 hk3
        exact ⟨_, _, hr, .inr ⟨rfl, ⟨.exit id, hIx _ _ _ _ hi3 hbl, hl4, hk4⟩, hkk⟩⟩
      | goto t =>
        obtain ⟨hk3, hi3⟩ := hp
        obtain ⟨hr, hbl, hl4, hk4, hkk⟩ := fin (some (.goto t)) W3 hk3
        exact ⟨_, _, hr, .inr ⟨rfl, ⟨.goto t, hIx _ _ _ _ hi3 hbl, hl4, hk4⟩, hkk⟩⟩
      | panic ch => exact hp.elim
      | outgrown => exact hp.elim
    · rintro e W2 ⟨⟨v, rfl⟩, (⟨xs, hS, hi, hl, hk⟩ | ⟨pre, hSp, c, hi, hl, hk⟩)⟩
      · exact ⟨none, _, by have := run_endLoop (P := P) hl (by rw [hrec]; simp); rw [hrec] at this; exact this, hdone D xs _ (Nat.le_refl _) hS (hI _ _ _ hi (below_putObj (Below.refl _ _) (by omega) _)) ((World.putObj_heap_other (by omega)).trans hk)⟩
      · exact ⟨some c, _, by have := run_endLoop (P := P) hl (by rw [hrec]; simp); rw [hrec] at this; exact this, hstop D c pre _ (Nat.le_refl _) hSp (hIx c _ _ _ hi (below_putObj (Below.refl _ _) (by omega) _)) ((World.putObj_heap_other (by omega)).trans hk)⟩
end Go
namespace Go
open Go.RowKit
variable {F : Fence} {n : Nat} {P : Program}
theorem wpIn_rangeFunc_G {α : Type} {g : Operand} {ps : Array Tmp} {assign body : Code} {Q : Exit → Act → World → Prop} {a : Act} {w : World}
    (hro : F.round = none) (h1 : 1 ≤ n) {gf : Nat} {lb : Array Value} (hg : a.eval g = .func (.func gf) #[] lb) (hFg : F.fn gf) (eg : ∀ args w, (callFunc gf args).run P w = .ok (.enter gf args) w)
    {encs : α → Array Value} {T : Nat → Prop} {S Sp : List α → Prop} {N : Nat} {w0 : World} (hseq : SeqE F (n - 1) P gf lb encs T S Sp N w0) (hT : ∀ k, T k → k < w.heap.size) (hb0 : KS T w0 w) (hps : ∀ x, (encs x).size = ps.size)
    (I : List α → World → Prop) (Ix : Code → List α → World → Prop) (hI : ∀ s A B, I s A → Below w.heap.size A B → I s B) (hIx : ∀ c s A B, Ix c s A → Below w.heap.size A B → Ix c s B) (h0 : I [] w) (Ax : α → Act → World → Prop)
    (hAx : ∀ x a' A l o, (∃ r, A.heap[l]? = some (.loop r)) → Ax x a' A → Ax x a' (A.putObj l o))
    (hassign : ∀ (l : Nat) (x : α) (W : World) (K : Act → World → Prop), w.heap.size ≤ W.heap.size → (∀ a' W', Ax x a' W' → Below W.heap.size W W' → K a' W') →
      assign.wpIn (F.inRound l) (n - 1 - 1) P (Exit.then K (fun _ _ _ => False)) { tmps := (ps.zip (encs x)).foldl (fun t (p, v) => t.setIfInBounds p v) a.tmps, defers := [] } W)
    (hbody : ∀ (l : Nat) (pre : List α) (x : α) (a' : Act) (W : World), w.heap.size ≤ W.heap.size → I pre W → pre.length < N → Sp (pre ++ [x]) → Ax x a' W → body.wpIn (F.inRound l) (n - 1 - 1) P (postC T I Ix (pre ++ [x]) W) a' W)
    (hdone : ∀ (D : Nat) (xs : List α) (W : World), w.heap.size ≤ D → S xs → I xs W → W.heap[D]? = some (.deferred (some [])) → Q .normal { a with defers := { target := .collected D, args := #[] } :: a.defers } W)
    (hstop : ∀ (D : Nat) (c : Code) (pre : List α) (W : World), w.heap.size ≤ D → Sp pre → Ix c pre W → W.heap[D]? = some (.deferred (some [])) → c.wpIn F n P Q { a with defers := { target := .collected D, args := #[] } :: a.defers } W) :
    (Code.rangeFunc g ps assign body).wpIn F n P Q a w := by
  refine wpIn_rangeFunc ?_
  intro fn hfn
  rw [hro]
  obtain ⟨rec, hrec⟩ : ∃ rec : LoopState → Option Code → Loop, rec = fun st pe => { state := st, pending := pe, fn, tmps := a.tmps, params := ps, assign, body, defers := w.heap.size } := ⟨_, rfl⟩
  obtain ⟨D, hD⟩ : ∃ D, w.heap.size = D := ⟨_, rfl⟩
  obtain ⟨W1, hW1⟩ : ∃ W1, (w.alloc (.deferred (some []))).alloc (.loop (rec .ready none)) = W1 := ⟨_, rfl⟩
  have hL1 : W1.heap[D + 1]? = some (.loop (rec .ready none)) := by
    have := World.alloc_heap_new (w.alloc (.deferred (some []))) (.loop (rec .ready none))
    rwa [World.size_alloc, hW1, hD] at this
  have hK1 : W1.heap[D]? = some (.deferred (some [])) := by
    rw [← hW1, ← hD]; exact (Below.heap_alloc _ _ _ (by simp)).trans (World.alloc_heap_new w _)
  have hw1 : Below D w W1 := by rw [← hW1, ← hD]; exact ((Below.refl _ w).alloc (Nat.le_refl _) _).alloc (by simp) _
  have hs1 : W1.heap.size = D + 2 := by rw [← hW1, ← hD]; simp
  have hb1 : KS T w0 W1 := hb0.trans (KS.of_below (by rw [hD]; exact hw1))
  rw [hD] at hI hIx hbody hdone hstop hT
  have nT : ∀ k, D ≤ k → ¬ T k := fun k hk ht => by have := hT k ht; omega
  refine ⟨D + 1, [{ target := .collected D, args := #[] }], W1, { target := .fn (.func gf) lb, args := #[.func (.yield (D + 1)) #[] #[]] }, W1, gf,
    #[.func (.yield (D + 1)) #[] #[]] ++ lb, W1, ?_, ?_, ?_, ?_, fun _ => h1, ?_⟩
  · rw [← hW1, hrec, ← hD]; exact run_enterLoop_outer _ _ _ _ _
  · simp only [resolve, hg]
    simp [go_sem]
  · intro f' hf'; simp [Target.leads] at hf'; subst hf'; exact hFg
  · simp [invoke, go_sem, eg]
  · have keep : ∀ {A B : World} {k : Nat} {o : Obj}, Below W1.heap.size A B → k < D + 2 → A.heap[k]? = some o → B.heap[k]? = some o := fun hb hk h => (hb.block _ (by omega)).trans h
    refine (hseq (D + 1)
      (fun pre W => I pre W ∧ W.heap[D + 1]? = some (.loop (rec .ready none)) ∧ W.heap[D]? = some (.deferred (some [])))
      (fun pre W => ∃ c, Ix c pre W ∧ W.heap[D + 1]? = some (.loop (rec .done (some c))) ∧ W.heap[D]? = some (.deferred (some [])))
      W1 hb1
      (fun s A B hs hb => ⟨hI s A B hs.1 (hb.mono (by omega)), keep hb (by omega) hs.2.1, keep hb (by omega) hs.2.2⟩)
      (fun s A B hs hb => by
        obtain ⟨c, hc, hl, hk⟩ := hs
        exact ⟨c, hIx c s A B hc (hb.mono (by omega)), keep hb (by omega) hl, keep hb (by omega) hk⟩)
      ?_ ⟨hI _ _ _ h0 hw1, hL1, hK1⟩).mono ?_
    · rintro pre x W hsz ⟨hi, hl, hk⟩ hlen hsp
      have hlt : D + 1 < W.heap.size := by omega
      have hsw : w.heap.size ≤ W.heap.size := by omega
      have hy := run_yield (P := P) (args := encs x) hl (by rw [hrec]; exact hps x)
      rw [hrec] at hy
      refine ⟨fn, _, assign, body, hy, roundIn_of_wpIn hfn (hassign _ x W _ hsw fun a' Wa hax hba => ⟨_, run_beginRound ((hba.block _ hlt).trans hl) (by rw [hrec]), ?_⟩)⟩
      have hla : Wa.heap[D + 1]? = _ := (hba.block _ hlt).trans hl
      have hka : Wa.heap[D]? = some (.deferred (some [])) := (hba.block _ (by omega)).trans hk
      have hlta : D + 1 < Wa.heap.size := by have := hba.size; omega
      obtain ⟨Wb, hWb⟩ : ∃ Wb, Wa.putObj (D + 1) (.loop { rec .ready none with state := .busy }) = Wb := ⟨_, rfl⟩
      have hl2 : Wb.heap[D + 1]? = some (.loop { rec .ready none with state := .busy }) := by rw [← hWb]; exact World.putObj_heap_same hlta
      have hk2 : Wb.heap[D]? = some (.deferred (some [])) := by rw [← hWb]; exact (World.putObj_heap_other (by omega)).trans hka
      have hbb : Below D W Wb := by rw [← hWb]; exact below_putObj (hba.mono (by omega)) (by omega) _
      have hlo : w0.heap.size ≤ D := by rw [← hD]; exact hb0.size
      have hTD : TT T w0.heap.size W1.heap.size (D + 1) := .inr ⟨by omega, by omega⟩
      have hkb : KS (TT T w0.heap.size W1.heap.size) W Wb := by rw [← hWb]; exact (KS.of_below hba).putObj hTD _
      have hsb : D ≤ Wb.heap.size := by have := hbb.size; omega
      have hax2 : Ax x a' Wb := by rw [← hWb]; exact hAx _ _ _ _ _ ⟨_, hla⟩ hax
      have key := hbody (D + 1) pre x a' Wb hsb (hI _ _ _ hi hbb) hlen hsp hax2
      rw [hWb]
      refine wpIn_mono key ?_
      have fin : ∀ (jump : Option Code) (W3 : World), KS T Wb W3 →
          (Instr.endRound (D + 1) jump).run P W3 = .ok (.bool jump.isNone) (W3.putObj (D + 1) (.loop (rec (if jump.isNone then .ready else .done) jump))) ∧
          Below D W3 (W3.putObj (D + 1) (.loop (rec (if jump.isNone then .ready else .done) jump))) ∧
          (W3.putObj (D + 1) (.loop (rec (if jump.isNone then .ready else .done) jump))).heap[D + 1]? = some (.loop (rec (if jump.isNone then .ready else .done) jump)) ∧
          (W3.putObj (D + 1) (.loop (rec (if jump.isNone then .ready else .done) jump))).heap[D]? = some (.deferred (some [])) ∧
          KS (TT T w0.heap.size W1.heap.size) W (W3.putObj (D + 1) (.loop (rec (if jump.isNone then .ready else .done) jump))) := fun jump W3 hk3 => by
        have hszb : D + 1 < Wb.heap.size := (Array.getElem?_eq_some_iff.1 hl2).1
        have hl3 : W3.heap[D + 1]? = _ := (hk3.block (D + 1) hszb (nT _ (by omega))).trans hl2
        have hd3 : W3.heap[D]? = _ := (hk3.block D (by omega) (nT _ (by omega))).trans hk2
        have hlt3 := (Array.getElem?_eq_some_iff.1 hl3).1
        have := run_endRound (P := P) jump hl3
        rw [hrec] at this ⊢
        refine ⟨this, below_putObj (Below.refl _ _) (by omega) _, World.putObj_heap_same hlt3, (World.putObj_heap_other (by omega)).trans hd3, (hkb.trans (hk3.mono (fun _ h => .inl h))).putObj hTD _⟩
      rintro e a3 W3 hp
      cases e with
      | normal =>
        obtain ⟨hk3, hi3⟩ := hp
        obtain ⟨hr, hbl, hl4, hk4, hkk⟩ := fin none W3 hk3
        exact ⟨_, _, hr, .inl ⟨rfl, ⟨hI _ _ _ hi3 hbl, hl4, hk4⟩, hkk⟩⟩
      | ret =>
        obtain ⟨hk3, hi3⟩ := hp
        obtain ⟨hr, hbl, hl4, hk4, hkk⟩ := fin (some .ret) W3 hk3
        exact ⟨_, _, hr, .inr ⟨rfl, ⟨.ret, hIx _ _ _ _ hi3 hbl, hl4, hk4⟩, hkk⟩⟩
      | exit id =>
        obtain ⟨hk3, hi3⟩ := hp
        obtain ⟨hr, hbl, hl4, hk4, hkk⟩ := fin (some (.exit id)) W3 hk3
        exact ⟨_, _, hr, .inr ⟨rfl, ⟨.exit id, hIx _ _ _ _ hi3 hbl, hl4, hk4⟩, hkk⟩⟩
      | goto t =>
        obtain ⟨hk3, hi3⟩ := hp
        obtain ⟨hr, hbl, hl4, hk4, hkk⟩ := fin (some (.goto t)) W3 hk3
        exact ⟨_, _, hr, .inr ⟨rfl, ⟨.goto t, hIx _ _ _ _ hi3 hbl, hl4, hk4⟩, hkk⟩⟩
      | panic ch => exact hp.elim
      | outgrown => exact hp.elim
    · rintro e W2 ⟨⟨v, rfl⟩, (⟨xs, hS, hi, hl, hk⟩ | ⟨pre, hSp, c, hi, hl, hk⟩)⟩
      · exact ⟨none, _, by have := run_endLoop (P := P) hl (by rw [hrec]; simp); rw [hrec] at this; exact this, hdone D xs _ (Nat.le_refl _) hS (hI _ _ _ hi (below_putObj (Below.refl _ _) (by omega) _)) ((World.putObj_heap_other (by omega)).trans hk)⟩
      · exact ⟨some c, _, by have := run_endLoop (P := P) hl (by rw [hrec]; simp); rw [hrec] at this; exact this, hstop D c pre _ (Nat.le_refl _) hSp (hIx c _ _ _ hi (below_putObj (Below.refl _ _) (by omega) _)) ((World.putObj_heap_other (by omega)).trans hk)⟩
theorem wpIn_rangeFunc_G1 {α : Type} {g : Operand} {ps : Array Tmp} {assign body : Code} {Q : Exit → Act → World → Prop} {a : Act} {w : World}
    (hro : F.round = none) (h1 : 1 ≤ n) {gf : Nat} {lb : Array Value} (hg : a.eval g = .func (.func gf) #[] lb) (hFg : F.fn gf) (eg : ∀ args w, (callFunc gf args).run P w = .ok (.enter gf args) w)
    {encs : α → Array Value} {T : Nat → Prop} {S Sp : List α → Prop} {N : Nat} {w0 : World} (hseq : SeqE F (n - 1) P gf lb encs T S Sp N w0) (hT : ∀ k, T k → k < w.heap.size) (hb0 : KS T w0 w) (hps : ∀ x, (encs x).size = ps.size)
    (I : List α → World → Prop) (Ix : Code → List α → World → Prop) (hI : ∀ s A B, I s A → Below w.heap.size A B → I s B) (hIx : ∀ c s A B, Ix c s A → Below w.heap.size A B → Ix c s B) (h0 : I [] w) (t : TypeId) (cs : α → Array Value) (a₁ : α → Nat → Act)
    (hassign : ∀ (l : Nat) (x : α) (W : World) (c : Nat) (K : Act → World → Prop), w.heap.size ≤ W.heap.size → W.heap.size = c → (∀ W', Rec W' c t (cs x) → Below W.heap.size W W' → K (a₁ x c) W') →
      assign.wpIn (F.inRound l) (n - 1 - 1) P (Exit.then K (fun _ _ _ => False)) { tmps := (ps.zip (encs x)).foldl (fun t (p, v) => t.setIfInBounds p v) a.tmps, defers := [] } W)
    (hbody : ∀ (l : Nat) (pre : List α) (x : α) (c : Nat) (W : World), w.heap.size ≤ W.heap.size → I pre W → pre.length < N → Sp (pre ++ [x]) → w.heap.size ≤ c → Rec W c t (cs x) → body.wpIn (F.inRound l) (n - 1 - 1) P (postC T I Ix (pre ++ [x]) W) (a₁ x c) W)
    (hdone : ∀ (D : Nat) (xs : List α) (W : World), w.heap.size ≤ D → S xs → I xs W → W.heap[D]? = some (.deferred (some [])) → Q .normal { a with defers := { target := .collected D, args := #[] } :: a.defers } W)
    (hstop : ∀ (D : Nat) (c : Code) (pre : List α) (W : World), w.heap.size ≤ D → Sp pre → Ix c pre W → W.heap[D]? = some (.deferred (some [])) → c.wpIn F n P Q { a with defers := { target := .collected D, args := #[] } :: a.defers } W) :
    (Code.rangeFunc g ps assign body).wpIn F n P Q a w :=
  wpIn_rangeFunc_G hro h1 hg hFg eg hseq hT hb0 hps I Ix hI hIx h0 (fun x a' W => ∃ c, w.heap.size ≤ c ∧ a' = a₁ x c ∧ Rec W c t (cs x))
    (fun x a' A l o ⟨r, hr⟩ ⟨c, h1, h2, h3⟩ => ⟨c, h1, h2, (World.putObj_heap_other (fun e => by
      have h4 : A.heap[c]? = some (.cells (cs x) t (0, 0)) := h3
      subst e
      rw [hr] at h4
      cases h4)).trans h3⟩)
    (fun l x W K hs hK => hassign l x W _ K hs rfl fun W' hr hb => hK _ _ ⟨_, hs, rfl, hr⟩ hb)
    (fun l pre x a' W h1 h2 h3 h4 ⟨c, h5, h6, h7⟩ => by subst h6; exact hbody l pre x c W h1 h2 h3 h4 h5 h7) hdone hstop
end Go
namespace Go
open Go.RowKit
/-- A function that iterates, and may be stopped: by itself it turns blocks of M alone (and what is new), a round turns blocks of T. -/
def SeqH {α : Type} (F : Fence) (n : Nat) (P : Program) (g : Nat) (lb : Array Value) (encs : α → Array Value) (T M : Nat → Prop) (Pre : List α → Prop) (S Sp : List α → World → Prop) (N : Nat) (w0 : World) : Prop :=
  ∀ (l : Nat) (J Jx : List α → World → Prop) (W : World), KS T w0 W →
    (∀ s A B, J s A → KS M A B → J s B) → (∀ s A B, Jx s A → KS M A B → Jx s B) →
    (∀ pre x W1, W.heap.size ≤ W1.heap.size → J pre W1 → pre.length < N → Pre (pre ++ [x]) → YieldAt F (n - 1) P l (encs x) W1 fun e W' =>
      (e = .returned (.bool true) ∧ J (pre ++ [x]) W' ∧ KS (TT T w0.heap.size W.heap.size) W1 W') ∨ (e = .returned (.bool false) ∧ Jx (pre ++ [x]) W' ∧ KS (TT T w0.heap.size W.heap.size) W1 W')) →
    J [] W →
    CallsIn F n P g (#[.func (.yield l) #[] #[]] ++ lb) W fun e W' => (∃ v, e = .returned v) ∧ ((∃ xs, S xs W' ∧ J xs W') ∨ (∃ pre, Sp pre W' ∧ Jx pre W'))
variable {F : Fence} {n : Nat} {P : Program}
theorem yield_two' {e : Ending} {p q : Prop} (h : (e = .returned (.bool true) ∧ p) ∨ (e = .returned (.bool false) ∧ q)) : ∃ bb : Bool, e = .returned (.bool bb) ∧ ((bb = true ∧ p) ∨ (bb = false ∧ q)) := by
  rcases h with ⟨h, hp⟩ | ⟨h, hq⟩
  · exact ⟨true, h, .inl ⟨rfl, hp⟩⟩
  · exact ⟨false, h, .inr ⟨rfl, hq⟩⟩
theorem wpIn_rangeFunc_H {α : Type} {g : Operand} {ps : Array Tmp} {assign body : Code} {Q : Exit → Act → World → Prop} {a : Act} {w : World}
    (hro : F.round = none) (h1 : 1 ≤ n) {gf : Nat} {lb : Array Value} (hg : a.eval g = .func (.func gf) #[] lb) (hFg : F.fn gf) (eg : ∀ args w, (callFunc gf args).run P w = .ok (.enter gf args) w)
    {encs : α → Array Value} {T M : Nat → Prop} {Pre : List α → Prop} {S Sp : List α → World → Prop} {N : Nat} {w0 : World} (hseq : SeqH F (n - 1) P gf lb encs T M Pre S Sp N w0) (hM : ∀ k, M k → k < w.heap.size)
    (hS : ∀ xs A B, S xs A → KS (fun k => w.heap.size ≤ k) A B → S xs B) (hSp : ∀ xs A B, Sp xs A → KS (fun k => w.heap.size ≤ k) A B → Sp xs B) (hT : ∀ k, T k → k < w.heap.size) (hb0 : KS T w0 w) (hps : ∀ x, (encs x).size = ps.size)
    (I : List α → World → Prop) (Ix : Code → List α → World → Prop) (hI : ∀ s A B, I s A → KS (TT M w.heap.size (w.heap.size + 2)) A B → I s B) (hIx : ∀ c s A B, Ix c s A → KS (TT M w.heap.size (w.heap.size + 2)) A B → Ix c s B) (h0 : I [] w) (Ax : α → Act → World → Prop)
    (hAx : ∀ x a' A l o, (∃ r, A.heap[l]? = some (.loop r)) → Ax x a' A → Ax x a' (A.putObj l o))
    (hassign : ∀ (l : Nat) (x : α) (W : World) (K : Act → World → Prop), w.heap.size ≤ W.heap.size → (∀ a' W', Ax x a' W' → Below W.heap.size W W' → K a' W') →
      assign.wpIn (F.inRound l) (n - 1 - 1) P (Exit.then K (fun _ _ _ => False)) { tmps := (ps.zip (encs x)).foldl (fun t (p, v) => t.setIfInBounds p v) a.tmps, defers := [] } W)
    (hbody : ∀ (l : Nat) (pre : List α) (x : α) (a' : Act) (W : World), w.heap.size + 2 ≤ W.heap.size → I pre W → pre.length < N → Pre (pre ++ [x]) → Ax x a' W → body.wpIn (F.inRound l) (n - 1 - 1) P (postC T I Ix (pre ++ [x]) W) a' W)
    (hdone : ∀ (D : Nat) (xs : List α) (W : World), w.heap.size ≤ D → S xs W → I xs W → W.heap[D]? = some (.deferred (some [])) → Q .normal { a with defers := { target := .collected D, args := #[] } :: a.defers } W)
    (hstop : ∀ (D : Nat) (c : Code) (pre : List α) (W : World), w.heap.size ≤ D → Sp pre W → Ix c pre W → W.heap[D]? = some (.deferred (some [])) → c.wpIn F n P Q { a with defers := { target := .collected D, args := #[] } :: a.defers } W) :
    (Code.rangeFunc g ps assign body).wpIn F n P Q a w := by
  refine wpIn_rangeFunc ?_
  intro fn hfn
  rw [hro]
  obtain ⟨rec, hrec⟩ : ∃ rec : LoopState → Option Code → Loop, rec = fun st pe => { state := st, pending := pe, fn, tmps := a.tmps, params := ps, assign, body, defers := w.heap.size } := ⟨_, rfl⟩
  obtain ⟨D, hD⟩ : ∃ D, w.heap.size = D := ⟨_, rfl⟩
  obtain ⟨W1, hW1⟩ : ∃ W1, (w.alloc (.deferred (some []))).alloc (.loop (rec .ready none)) = W1 := ⟨_, rfl⟩
  have hL1 : W1.heap[D + 1]? = some (.loop (rec .ready none)) := by
    have := World.alloc_heap_new (w.alloc (.deferred (some []))) (.loop (rec .ready none))
    rwa [World.size_alloc, hW1, hD] at this
  have hK1 : W1.heap[D]? = some (.deferred (some [])) := by
    rw [← hW1, ← hD]; exact (Below.heap_alloc _ _ _ (by simp)).trans (World.alloc_heap_new w _)
  have hw1 : Below D w W1 := by rw [← hW1, ← hD]; exact ((Below.refl _ w).alloc (Nat.le_refl _) _).alloc (by simp) _
  have hs1 : W1.heap.size = D + 2 := by rw [← hW1, ← hD]; simp
  have hb1 : KS T w0 W1 := hb0.trans (KS.of_below (by rw [hD]; exact hw1))
  rw [hD] at hI hIx hbody hdone hstop hT hM hS hSp
  have nT : ∀ k, D ≤ k → ¬ T k := fun k hk ht => by have := hT k ht; omega
  refine ⟨D + 1, [{ target := .collected D, args := #[] }], W1, { target := .fn (.func gf) lb, args := #[.func (.yield (D + 1)) #[] #[]] }, W1, gf,
    #[.func (.yield (D + 1)) #[] #[]] ++ lb, W1, ?_, ?_, ?_, ?_, fun _ => h1, ?_⟩
  · rw [← hW1, hrec, ← hD]; exact run_enterLoop_outer _ _ _ _ _
  · simp only [resolve, hg]
    simp [go_sem]
  · intro f' hf'; simp [Target.leads] at hf'; subst hf'; exact hFg
  · simp [invoke, go_sem, eg]
  · have keep : ∀ {A B : World} {k : Nat} {o : Obj}, KS M A B → D ≤ k → A.heap[k]? = some o → B.heap[k]? = some o := fun hb hk h => (hb.block _ (Array.getElem?_eq_some_iff.1 h).1 (fun hm => by have := hM _ hm; omega)).trans h
    refine (hseq (D + 1)
      (fun pre W => I pre W ∧ W.heap[D + 1]? = some (.loop (rec .ready none)) ∧ W.heap[D]? = some (.deferred (some [])))
      (fun pre W => ∃ c, Ix c pre W ∧ W.heap[D + 1]? = some (.loop (rec .done (some c))) ∧ W.heap[D]? = some (.deferred (some [])))
      W1 hb1
      (fun s A B hs hb => ⟨hI s A B hs.1 (hb.mono (fun _ h => .inl h)), keep hb (by omega) hs.2.1, keep hb (by omega) hs.2.2⟩)
      (fun s A B hs hb => by
        obtain ⟨c, hc, hl, hk⟩ := hs
        exact ⟨c, hIx c s A B hc (hb.mono (fun _ h => .inl h)), keep hb (by omega) hl, keep hb (by omega) hk⟩)
      ?_ ⟨hI _ _ _ h0 (KS.of_below (by rw [hD]; exact hw1)), hL1, hK1⟩).mono ?_
    · rintro pre x W hsz ⟨hi, hl, hk⟩ hlen hsp
      have hlt : D + 1 < W.heap.size := by omega
      have hsw : w.heap.size ≤ W.heap.size := by omega
      have hy := run_yield (P := P) (args := encs x) hl (by rw [hrec]; exact hps x)
      rw [hrec] at hy
      refine ⟨fn, _, assign, body, hy, roundIn_of_wpIn hfn (hassign _ x W _ hsw fun a' Wa hax hba => ⟨_, run_beginRound ((hba.block _ hlt).trans hl) (by rw [hrec]), ?_⟩)⟩
      have hla : Wa.heap[D + 1]? = _ := (hba.block _ hlt).trans hl
      have hka : Wa.heap[D]? = some (.deferred (some [])) := (hba.block _ (by omega)).trans hk
      have hlta : D + 1 < Wa.heap.size := by have := hba.size; omega
      obtain ⟨Wb, hWb⟩ : ∃ Wb, Wa.putObj (D + 1) (.loop { rec .ready none with state := .busy }) = Wb := ⟨_, rfl⟩
      have hl2 : Wb.heap[D + 1]? = some (.loop { rec .ready none with state := .busy }) := by rw [← hWb]; exact World.putObj_heap_same hlta
      have hk2 : Wb.heap[D]? = some (.deferred (some [])) := by rw [← hWb]; exact (World.putObj_heap_other (by omega)).trans hka
      have hbb : Below D W Wb := by rw [← hWb]; exact below_putObj (hba.mono (by omega)) (by omega) _
      have hlo : w0.heap.size ≤ D := by rw [← hD]; exact hb0.size
      have hTD : TT T w0.heap.size W1.heap.size (D + 1) := .inr ⟨by omega, by omega⟩
      have hkb : KS (TT T w0.heap.size W1.heap.size) W Wb := by rw [← hWb]; exact (KS.of_below hba).putObj hTD _
      have hsb0 : Wb.heap.size = Wa.heap.size := by rw [← hWb]; simp
      have hsb : D + 2 ≤ Wb.heap.size := by have := hba.size; omega
      have hbm : KS (TT M D (D + 2)) W Wb := by rw [← hWb]; exact (KS.of_below hba).putObj (.inr ⟨by omega, by omega⟩) _
      have hax2 : Ax x a' Wb := by rw [← hWb]; exact hAx _ _ _ _ _ ⟨_, hla⟩ hax
      have key := hbody (D + 1) pre x a' Wb hsb (hI _ _ _ hi hbm) hlen hsp hax2
      rw [hWb]
      refine wpIn_mono key ?_
      have fin : ∀ (jump : Option Code) (W3 : World), KS T Wb W3 →
          (Instr.endRound (D + 1) jump).run P W3 = .ok (.bool jump.isNone) (W3.putObj (D + 1) (.loop (rec (if jump.isNone then .ready else .done) jump))) ∧
          KS (TT M D (D + 2)) W3 (W3.putObj (D + 1) (.loop (rec (if jump.isNone then .ready else .done) jump))) ∧
          (W3.putObj (D + 1) (.loop (rec (if jump.isNone then .ready else .done) jump))).heap[D + 1]? = some (.loop (rec (if jump.isNone then .ready else .done) jump)) ∧
          (W3.putObj (D + 1) (.loop (rec (if jump.isNone then .ready else .done) jump))).heap[D]? = some (.deferred (some [])) ∧
          KS (TT T w0.heap.size W1.heap.size) W (W3.putObj (D + 1) (.loop (rec (if jump.isNone then .ready else .done) jump))) := fun jump W3 hk3 => by
        have hszb : D + 1 < Wb.heap.size := (Array.getElem?_eq_some_iff.1 hl2).1
        have hl3 : W3.heap[D + 1]? = _ := (hk3.block (D + 1) hszb (nT _ (by omega))).trans hl2
        have hd3 : W3.heap[D]? = _ := (hk3.block D (by omega) (nT _ (by omega))).trans hk2
        have hlt3 := (Array.getElem?_eq_some_iff.1 hl3).1
        have := run_endRound (P := P) jump hl3
        rw [hrec] at this ⊢
        refine ⟨this, (KS.refl _ _).putObj (.inr ⟨by omega, by omega⟩) _, World.putObj_heap_same hlt3, (World.putObj_heap_other (by omega)).trans hd3, (hkb.trans (hk3.mono (fun _ h => .inl h))).putObj hTD _⟩
      rintro e a3 W3 hp
      cases e with
      | normal =>
        obtain ⟨hk3, hi3⟩ := hp
        obtain ⟨hr, hbl, hl4, hk4, hkk⟩ := fin none W3 hk3
        exact ⟨_, _, hr, .inl ⟨rfl, ⟨hI _ _ _ hi3 hbl, hl4, hk4⟩, hkk⟩⟩
      | ret =>
        obtain ⟨hk3, hi3⟩ := hp
        obtain ⟨hr, hbl, hl4, hk4, hkk⟩ := fin (some .ret) W3 hk3
        exact ⟨_, _, hr, .inr ⟨rfl, ⟨.ret, hIx _ _ _ _ hi3 hbl, hl4, hk4⟩, hkk⟩⟩
      | exit id =>
        obtain ⟨hk3, hi3⟩ := hp
        obtain ⟨hr, hbl, hl4, hk4, hkk⟩ := fin (some (.exit id)) W3 hk3
        exact ⟨_, _, hr, .inr ⟨rfl, ⟨.exit id, hIx _ _ _ _ hi3 hbl, hl4, hk4⟩, hkk⟩⟩
      | goto t =>
        obtain ⟨hk3, hi3⟩ := hp
        obtain ⟨hr, hbl, hl4, hk4, hkk⟩ := fin (some (.goto t)) W3 hk3
        exact ⟨_, _, hr, .inr ⟨rfl, ⟨.goto t, hIx _ _ _ _ hi3 hbl, hl4, hk4⟩, hkk⟩⟩
      | panic ch => exact hp.elim
      | outgrown => exact hp.elim
    · rintro e W2 ⟨⟨v, rfl⟩, (⟨xs, hSx, hi, hl, hk⟩ | ⟨pre, hSx, c, hi, hl, hk⟩)⟩
      · exact ⟨none, _, by have := run_endLoop (P := P) hl (by rw [hrec]; simp); rw [hrec] at this; exact this, hdone D xs _ (Nat.le_refl _) (hS _ _ _ hSx ((KS.refl _ _).putObj (by show D ≤ D + 1; omega) _)) (hI _ _ _ hi ((KS.refl _ _).putObj (.inr ⟨by omega, by omega⟩) _)) ((World.putObj_heap_other (by omega)).trans hk)⟩
      · exact ⟨some c, _, by have := run_endLoop (P := P) hl (by rw [hrec]; simp); rw [hrec] at this; exact this, hstop D c pre _ (Nat.le_refl _) (hSp _ _ _ hSx ((KS.refl _ _).putObj (by show D ≤ D + 1; omega) _)) (hIx c _ _ _ hi ((KS.refl _ _).putObj (.inr ⟨by omega, by omega⟩) _)) ((World.putObj_heap_other (by omega)).trans hk)⟩
theorem wpIn_rangeFunc_H1 {α : Type} {g : Operand} {ps : Array Tmp} {assign body : Code} {Q : Exit → Act → World → Prop} {a : Act} {w : World}
    (hro : F.round = none) (h1 : 1 ≤ n) {gf : Nat} {lb : Array Value} (hg : a.eval g = .func (.func gf) #[] lb) (hFg : F.fn gf) (eg : ∀ args w, (callFunc gf args).run P w = .ok (.enter gf args) w)
    {encs : α → Array Value} {T M : Nat → Prop} {Pre : List α → Prop} {S Sp : List α → World → Prop} {N : Nat} {w0 : World} (hseq : SeqH F (n - 1) P gf lb encs T M Pre S Sp N w0) (hM : ∀ k, M k → k < w.heap.size)
    (hS : ∀ xs A B, S xs A → KS (fun k => w.heap.size ≤ k) A B → S xs B) (hSp : ∀ xs A B, Sp xs A → KS (fun k => w.heap.size ≤ k) A B → Sp xs B) (hT : ∀ k, T k → k < w.heap.size) (hb0 : KS T w0 w) (hps : ∀ x, (encs x).size = ps.size)
    (I : List α → World → Prop) (Ix : Code → List α → World → Prop) (hI : ∀ s A B, I s A → KS (TT M w.heap.size (w.heap.size + 2)) A B → I s B) (hIx : ∀ c s A B, Ix c s A → KS (TT M w.heap.size (w.heap.size + 2)) A B → Ix c s B) (h0 : I [] w) (t : TypeId) (cs : α → Array Value) (a₁ : α → Nat → Act)
    (hassign : ∀ (l : Nat) (x : α) (W : World) (c : Nat) (K : Act → World → Prop), w.heap.size ≤ W.heap.size → W.heap.size = c → (∀ W', Rec W' c t (cs x) → Below W.heap.size W W' → K (a₁ x c) W') →
      assign.wpIn (F.inRound l) (n - 1 - 1) P (Exit.then K (fun _ _ _ => False)) { tmps := (ps.zip (encs x)).foldl (fun t (p, v) => t.setIfInBounds p v) a.tmps, defers := [] } W)
    (hbody : ∀ (l : Nat) (pre : List α) (x : α) (c : Nat) (W : World), w.heap.size + 2 ≤ W.heap.size → I pre W → pre.length < N → Pre (pre ++ [x]) → w.heap.size ≤ c → Rec W c t (cs x) → body.wpIn (F.inRound l) (n - 1 - 1) P (postC T I Ix (pre ++ [x]) W) (a₁ x c) W)
    (hdone : ∀ (D : Nat) (xs : List α) (W : World), w.heap.size ≤ D → S xs W → I xs W → W.heap[D]? = some (.deferred (some [])) → Q .normal { a with defers := { target := .collected D, args := #[] } :: a.defers } W)
    (hstop : ∀ (D : Nat) (c : Code) (pre : List α) (W : World), w.heap.size ≤ D → Sp pre W → Ix c pre W → W.heap[D]? = some (.deferred (some [])) → c.wpIn F n P Q { a with defers := { target := .collected D, args := #[] } :: a.defers } W) :
    (Code.rangeFunc g ps assign body).wpIn F n P Q a w :=
  wpIn_rangeFunc_H hro h1 hg hFg eg hseq hM hS hSp hT hb0 hps I Ix hI hIx h0 (fun x a' W => ∃ c, w.heap.size ≤ c ∧ a' = a₁ x c ∧ Rec W c t (cs x))
    (fun x a' A l o ⟨r, hr⟩ ⟨c, h1, h2, h3⟩ => ⟨c, h1, h2, (World.putObj_heap_other (fun e => by
      have h4 : A.heap[c]? = some (.cells (cs x) t (0, 0)) := h3
      subst e
      rw [hr] at h4
      cases h4)).trans h3⟩)
    (fun l x W K hs hK => hassign l x W _ K hs rfl fun W' hr hb => hK _ _ ⟨_, hs, rfl, hr⟩ hb)
    (fun l pre x a' W h1 h2 h3 h4 ⟨c, h5, h6, h7⟩ => by subst h6; exact hbody l pre x c W h1 h2 h3 h4 h5 h7) hdone hstop
end Go
