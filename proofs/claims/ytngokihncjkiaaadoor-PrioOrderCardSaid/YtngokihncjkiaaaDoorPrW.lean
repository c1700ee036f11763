/-
  Layer 39: the law's first look: a queue of levels of strings. No condition but the table of the library's.
-/
import Derived.Test.YtngokihncjkiaaaDoorPrT
import Derived.Test.YtngokihncjkiaaaDoorFifPKS
namespace Go.Proofs.YtngokihncjkiaaaDoor
open Go.RowKit
attribute [local go_sem] Oper.semAt_some
abbrev tP : TypeId := 61
/-- A level's queue: none, or one in memory. -/
def Lv (B : Nat) (w : World) (o : Option Nat) (F : Nat → Prop) (most tk : Int) (L : List (Int × Int)) : Prop :=
  match o with
  | some q => QA B w q F most tk L
  | none => L = [] ∧ tk = 0 ∧ ∀ k, ¬ F k
structure PA (B : Nat) (w : World) (b : Nat) (F : Nat → Prop) (most : Int) (rp : Nat → Option Nat) (tk : Nat → Int) (L : Nat → List (Int × Int)) (so : Nat) (n : Int) : Prop where
  big : B ≤ b
  rc : Rec w b tP (cellsP most rp so n)
  qs : ∃ Fs : Nat → Nat → Prop, (∀ i, i < 64 → Lv B w (rp i) (Fs i) (mostA most) (tk i) (L i)) ∧ (∀ i j, i < 64 → j < 64 → i ≠ j → ∀ k, Fs i k → ¬ Fs j k) ∧ (∀ i, i < 64 → ¬ Fs i b) ∧ ∀ k, F k ↔ k = b ∨ ∃ i, i < 64 ∧ Fs i k
section
variable {B : Nat} {w w' : World} {b : Nat} {F : Nat → Prop} {most : Int} {rp : Nat → Option Nat} {tk : Nat → Int} {L : Nat → List (Int × Int)} {so : Nat} {n : Int}
theorem Lv.kept {o : Option Nat} {X F : Nat → Prop} {m t : Int} {L : List (Int × Int)} (h : Lv B w o F m t L) (hk : Kept X w w') (hX : ∀ k, F k → ¬ X k) : Lv B w' o F m t L := by
  cases o with
  | none => exact h
  | some q => exact QA.kept h hk hX
theorem Lv.foot {o : Option Nat} {F : Nat → Prop} {m t : Int} {L : List (Int × Int)} (h : Lv B w o F m t L) (k : Nat) (hk : F k) : B ≤ k ∧ k < w.heap.size := by
  cases o with
  | none => exact absurd hk (h.2.2 k)
  | some q => exact QA.foot h k hk
theorem PA.is : IsO B (fun W F => PA B W b F most rp tk L so n) := by
  refine ⟨fun {W W' F X} h hk hX => ?_, fun {W F k} h hF => ?_⟩
  · obtain ⟨Fs, h1, h2, h3, h4⟩ := h.qs
    exact ⟨h.big, h.rc.kept hk (hX b ((h4 b).2 (.inl rfl))), Fs, fun i hi => (h1 i hi).kept hk (fun k hk => hX k ((h4 k).2 (.inr ⟨i, hi, hk⟩))), h2, h3, h4⟩
  · obtain ⟨Fs, h1, h2, h3, h4⟩ := h.qs
    rcases (h4 k).1 hF with rfl | ⟨i, hi, hk⟩
    · exact ⟨h.big, h.rc.lt⟩
    · exact (h1 i hi).foot k hk
theorem PA.far (h : PA B w b F most rp tk L so n) (hb : Below w.heap.size w w') : PA B w' b F most rp tk L so n := (PA.is).far h hb
theorem PA.self (h : PA B w b F most rp tk L so n) : F b := by
  obtain ⟨Fs, h1, h2, h3, h4⟩ := h.qs
  exact (h4 b).2 (.inl rfl)
/-- An act on the queue of one level. -/
theorem PA.act (h : PA B w b F most rp tk L so n) {i : Nat} (hi : i < 64) {q : Nat} (hq : rp i = some q) {fn : FuncId} {args : Array Value} {r : Value} {t' : Int} {L' : List (Int × Int)}
    (hc : ∀ F, QA B w q F (mostA most) (tk i) (L i) → Calls Tryd.prog fn args w (fun e w' => e = .returned r ∧ QR B q F (mostA most) t' L' w w')) :
    Calls Tryd.prog fn args w (fun e w' => e = .returned r ∧ After (fun W F => PA B W b F most rp (updN tk i t') (updN L i L') so n) F w w') := by
  obtain ⟨Fs, h1, h2, h3, h4⟩ := h.qs
  have hi1 := h1 i hi
  rw [hq] at hi1
  refine (hc (Fs i) hi1).mono ?_
  rintro _ w' ⟨rfl, F', g1, g2, g3⟩
  have hlt : ∀ j, j < 64 → ∀ k, Fs j k → k < w.heap.size := fun j hj k hk => ((h1 j hj).foot k hk).2
  refine ⟨rfl, fun k => k = b ∨ ∃ j, j < 64 ∧ updN Fs i F' j k, ⟨h.big, h.rc.kept g3 (h3 i hi), updN Fs i F', fun j hj => ?_, fun j l hj hl hne k hk hk' => ?_, fun j hj hb => ?_, fun k => Iff.rfl⟩, fun k hk => ?_, g3.mono (fun k _ hk => (h4 k).2 (.inr ⟨i, hi, hk⟩))⟩
  · by_cases e : j = i
    · subst e
      rw [hq, updN_same, updN_same, updN_same]; exact g1
    · rw [updN_ne _ _ e, updN_ne _ _ e, updN_ne _ _ e]
      exact (h1 j hj).kept g3 (fun k hk => h2 j i hj hi e k hk)
  · by_cases e : j = i
    · subst e
      rw [updN_same] at hk
      rw [updN_ne _ _ (Ne.symm hne)] at hk'
      rcases g2 k hk with g | g
      · exact h2 j l hj hl hne k g hk'
      · have := hlt l hl k hk'; omega
    · rw [updN_ne _ _ e] at hk
      by_cases e2 : l = i
      · subst e2
        rw [updN_same] at hk'
        rcases g2 k hk' with g | g
        · exact h2 j l hj hl hne k hk g
        · have := hlt j hj k hk; omega
      · rw [updN_ne _ _ e2] at hk'
        exact h2 j l hj hl hne k hk hk'
  · by_cases e : j = i
    · subst e
      rw [updN_same] at hb
      rcases g2 b hb with g | g
      · exact h3 j hj g
      · have := h.rc.lt; omega
    · rw [updN_ne _ _ e] at hb
      exact h3 j hj hb
  · rcases hk with rfl | ⟨j, hj, hk⟩
    · exact .inl h.self
    · by_cases e : j = i
      · subst e
        rw [updN_same] at hk
        exact (g2 k hk).imp (fun g => (h4 k).2 (.inr ⟨j, hj, g⟩)) id
      · rw [updN_ne _ _ e] at hk
        exact .inl ((h4 k).2 (.inr ⟨j, hj, hk⟩))
/-- A store into the object itself, not into its rows. -/
theorem PA.put (h : PA B w b F most rp tk L so n) (o : Nat) (u : Value) {so' : Nat} {n' : Int} (he : (cellsP most rp so n).setIfInBounds o u = cellsP most rp so' n') :
    PA B (w.setCell ⟨b, o, none⟩ u) b F most rp tk L so' n' ∧ Kept F w (w.setCell ⟨b, o, none⟩ u) := by
  obtain ⟨Fs, h1, h2, h3, h4⟩ := h.qs
  have hk : Kept (fun k => k = b) w (w.setCell ⟨b, o, none⟩ u) := (Kept.refl (fun k => k = b) w).setCell (p := ⟨b, o, none⟩) (.inr rfl) u
  refine ⟨⟨h.big, ?_, Fs, fun i hi => (h1 i hi).kept hk (fun k hk e => h3 i hi (by rw [← e]; exact hk)), h2, h3, h4⟩, hk.mono (fun k _ e => by rw [e]; exact h.self)⟩
  have := Rec.set h.rc o u
  rwa [he] at this
end

end Go.Proofs.YtngokihncjkiaaaDoor
namespace Go.Proofs.YtngokihncjkiaaaDoor
open Go.RowKit
attribute [local go_sem] Oper.semAt_some
section
variable {B : Nat} {w w' : World} {b : Nat} {F : Nat → Prop} {most : Int} {rp : Nat → Option Nat} {tk : Nat → Int} {L : Nat → List (Int × Int)} {so : Nat} {n : Int}
theorem PA.cell0 (h : PA B w b F most rp tk L so n) : w.cell? ⟨b, 0, none⟩ = some (.int .i64 most) := by rw [Rec.cell h.rc 0, cellsP_0]
theorem PA.row (h : PA B w b F most rp tk L so n) {i : Nat} (hi : i < 64) : w.cell? ⟨b, 1 + i, none⟩ = some (ptrO (rp i)) := by rw [Rec.cell h.rc (1 + i), cellsP_row _ _ _ _ hi]
theorem PA.sc (h : PA B w b F most rp tk L so n) : w.cell? ⟨b, 65, none⟩ = some (.int .u64 (so : Int)) := by rw [Rec.cell h.rc 65, cellsP_65]
theorem PA.cnt (h : PA B w b F most rp tk L so n) : w.cell? ⟨b, 66, none⟩ = some (.int .i64 n) := by rw [Rec.cell h.rc 66, cellsP_66]
theorem PA.setN (h : PA B w b F most rp tk L so n) (n' : Int) : PA B (w.setCell ⟨b, 66, none⟩ (.int .i64 n')) b F most rp tk L so n' ∧ Kept F w (w.setCell ⟨b, 66, none⟩ (.int .i64 n')) := h.put 66 _ (cellsP_set_n _ _ _ _ _)
theorem PA.setS (h : PA B w b F most rp tk L so n) (so' : Nat) : PA B (w.setCell ⟨b, 65, none⟩ (.int .u64 (so' : Int))) b F most rp tk L so' n ∧ Kept F w (w.setCell ⟨b, 65, none⟩ (.int .u64 (so' : Int))) := h.put 65 _ (cellsP_set_so _ _ _ _ _)
theorem PA.qa (h : PA B w b F most rp tk L so n) {i : Nat} (hi : i < 64) {q : Nat} (hq : rp i = Option.some q) : ∃ G, QA B w q G (mostA most) (tk i) (L i) := by
  obtain ⟨Fs, h1, _⟩ := h.qs
  have := h1 i hi
  rw [hq] at this
  exact ⟨_, this⟩
theorem PA.no (h : PA B w b F most rp tk L so n) {i : Nat} (hi : i < 64) (hq : rp i = Option.none) : L i = [] ∧ tk i = 0 := by
  obtain ⟨Fs, h1, _⟩ := h.qs
  have := h1 i hi
  rw [hq] at this
  exact ⟨this.1, this.2.1⟩
/-- A level has its queue from here on. -/
theorem PA.newrow (h : PA B w b F most rp tk L so n) {i : Nat} (hi : i < 64) (hq : rp i = Option.none) {q : Nat} {G : Nat → Prop} {s : Nat} (hs : w.heap.size ≤ s) (hb : Below w.heap.size w w') (hQ : QA B w' q G (mostA most) 0 []) (hG : ∀ k, G k → s ≤ k) :
    PA B (w'.setCell ⟨b, 1 + i, none⟩ (.pointer (Option.some ⟨q, 0, Option.none⟩))) b (fun k => F k ∨ G k) most (updN rp i (Option.some q)) tk L so n ∧ Kept F w (w'.setCell ⟨b, 1 + i, none⟩ (.pointer (Option.some ⟨q, 0, Option.none⟩))) := by
  have hself := h.self
  have hft : ∀ k, F k → k < w.heap.size := fun k hk => ((PA.is).foot h hk).2
  have hlt := h.rc.lt
  obtain ⟨Fs, h1, h2, h3, h4⟩ := h.qs
  have hKp : Kept (fun k => k = b) w' (w'.setCell ⟨b, 1 + i, none⟩ (.pointer (Option.some ⟨q, 0, Option.none⟩))) := (Kept.refl (fun k => k = b) w').setCell (p := ⟨b, 1 + i, none⟩) (.inr rfl) _
  have hin := h1 i hi
  rw [hq] at hin
  refine ⟨⟨h.big, ?_, updN Fs i G, fun j hj => ?_, fun j l hj hl hne k hk hk' => ?_, fun j hj hb' => ?_, fun k => ?_⟩, ((Kept.of_below hb F).trans (hKp.mono (fun k _ e => by rw [e]; exact hself)))⟩
  · have := Rec.set (h.rc.below hb (Nat.le_refl _)) (1 + i) (.pointer (Option.some ⟨q, 0, Option.none⟩))
    rwa [cellsP_set_row _ _ _ _ hi] at this
  · by_cases e : j = i
    · subst e
      rw [updN_same, updN_same, hin.1, hin.2.1]
      exact QA.kept hQ hKp (fun k hk e => by have := hG k hk; omega)
    · rw [updN_ne _ _ e, updN_ne _ _ e]
      exact (((h1 j hj).kept (Kept.of_below hb (fun _ => False)) (fun _ _ h => h))).kept hKp (fun k hk e => h3 j hj (by rw [← e]; exact hk))
  · by_cases e : j = i
    · subst e
      rw [updN_same] at hk
      rw [updN_ne _ _ (Ne.symm hne)] at hk'
      have := hG k hk
      have := ((h1 l hl).foot k hk').2
      omega
    · rw [updN_ne _ _ e] at hk
      by_cases e2 : l = i
      · subst e2
        rw [updN_same] at hk'
        have := hG k hk'
        have := ((h1 j hj).foot k hk).2
        omega
      · rw [updN_ne _ _ e2] at hk'
        exact h2 j l hj hl hne k hk hk'
  · by_cases e : j = i
    · subst e
      rw [updN_same] at hb'
      have := hG b hb'
      omega
    · rw [updN_ne _ _ e] at hb'
      exact h3 j hj hb'
  · constructor
    · rintro (hF | hg)
      · rcases (h4 k).1 hF with e | ⟨j, hj, hk⟩
        · exact .inl e
        · refine .inr ⟨j, hj, ?_⟩
          by_cases e : j = i
          · subst e; exact absurd hk (hin.2.2 k)
          · rw [updN_ne _ _ e]; exact hk
      · exact .inr ⟨i, hi, by rw [updN_same]; exact hg⟩
    · rintro (e | ⟨j, hj, hk⟩)
      · exact .inl ((h4 k).2 (.inl e))
      · by_cases e : j = i
        · subst e; rw [updN_same] at hk; exact .inr hk
        · rw [updN_ne _ _ e] at hk; exact .inl ((h4 k).2 (.inr ⟨j, hj, hk⟩))
end
set_option maxRecDepth 100000 in
theorem PNew_any (B : Nat) (most : Int) (w : World) (hB : B ≤ w.heap.size) :
    Calls Tryd.prog 6 #[.int .i64 most] w (fun e w' => ∃ b F, e = .returned (.pointer (some ⟨b, 0, none⟩)) ∧ PA B w' b F most (fun _ => none) (fun _ => 0) (fun _ => []) 0 0 ∧ (∀ k, F k → w.heap.size ≤ k) ∧ Below w.heap.size w w') := by
  have K := hid (show ∀ W, W = w.alloc (.cells (cellsP most (fun _ => none) 0 0) tP) → ∃ F, PA B W w.heap.size F most (fun _ => none) (fun _ => 0) (fun _ => []) 0 0 ∧ (∀ k, F k → w.heap.size ≤ k) ∧ Below w.heap.size w W from by
    rintro _ rfl
    exact ⟨fun k => k = w.heap.size, ⟨hB, Rec.new w _ _, fun _ _ => False, fun i hi => ⟨rfl, rfl, fun _ h => h⟩, fun _ _ _ _ _ _ h => h.elim, fun _ _ h => h, fun k => by simp⟩, fun k hk => by rw [hk]; exact Nat.le_refl _, (Below.refl _ _).alloc (Nat.le_refl _) _⟩)
  have hc : cellsP most (fun _ => none) 0 0 = (cellsP most (fun _ => none) 0 0) := rfl
  go_enter Tryd.func6, Tryd.ntmps6
  go_wp2
  go_ret
  obtain ⟨F, g1, g2, g3⟩ := K.out _ rfl
  first | exact ⟨_, rfl, F, g1, g2, g3⟩ | exact ⟨_, F, rfl, g1, g2, g3⟩
theorem Pis_in (b i : Nat) (hi : i < 64) (w : World) : Calls Tryd.prog 26 #[.pointer (some ⟨b, 0, none⟩), .int .i64 (i : Int)] w (Gives (.bool true) w) := by
  have h1 : (0 : Int) ≤ i := by omega
  have h2 : (i : Int) < 64 := by omega
  go_enter Tryd.func26, Tryd.ntmps26
  go_wp2
  go_ret
  exact Gives.refl rfl
theorem Pis_out (p : Option Addr) (i : Int) (hi : i < 0 ∨ 64 ≤ i) (w : World) : Calls Tryd.prog 26 #[.pointer p, .int .i64 i] w (Gives (.bool false) w) := by
  have hcase : decide (0 ≤ i) = false ∨ (decide (0 ≤ i) = true ∧ decide (i < 64) = false) := by
    rcases hi with h | h
    · exact .inl (by simp; omega)
    · exact .inr ⟨by simp; omega, by simp; omega⟩
  clear hi
  rcases hcase with h | ⟨h, h2⟩
  all_goals
    cases p
    all_goals
      go_enter Tryd.func26, Tryd.ntmps26
      go_wp2
      go_ret
      exact Gives.refl (by simp [*])
theorem Pis_nil (i : Int) (w : World) : Calls Tryd.prog 26 #[.pointer none, .int .i64 i] w (Gives (.bool false) w) := by
  go_enter Tryd.func26, Tryd.ntmps26
  go_wp2
  go_ret
  exact Gives.refl rfl
theorem PLen_any {B : Nat} {w : World} {b : Nat} {F : Nat → Prop} {most : Int} {rp : Nat → Option Nat} {tk : Nat → Int} {L : Nat → List (Int × Int)} {so : Nat} {n : Int} (h : PA B w b F most rp tk L so n) : Calls Tryd.prog 16 #[.pointer (some ⟨b, 0, none⟩)] w (Gives (.int .i64 n) w) := by
  have q := h.cnt
  have hl := h.rc.lt
  clear h
  go_enter Tryd.func16, Tryd.ntmps16
  go_wp2
  go_ret
  exact Gives.refl rfl
theorem PLevels_any {B : Nat} {w : World} {b : Nat} {F : Nat → Prop} {most : Int} {rp : Nat → Option Nat} {tk : Nat → Int} {L : Nat → List (Int × Int)} {so : Nat} {n : Int} (h : PA B w b F most rp tk L so n) : Calls Tryd.prog 17 #[.pointer (some ⟨b, 0, none⟩)] w (Gives (.int .u64 (so : Int)) w) := by
  have q := h.sc
  have hl := h.rc.lt
  clear h
  go_enter Tryd.func17, Tryd.ntmps17
  go_wp2
  go_ret
  exact Gives.refl rfl

end Go.Proofs.YtngokihncjkiaaaDoor
namespace Go.Proofs.YtngokihncjkiaaaDoor
open Go.RowKit
attribute [local go_sem] Oper.semAt_some
set_option maxRecDepth 100000 in
set_option maxHeartbeats 1000000 in
theorem Prow_any {B : Nat} {w : World} {b : Nat} {F : Nat → Prop} {most : Int} {rp : Nat → Option Nat} {tk : Nat → Int} {L : Nat → List (Int × Int)} {so : Nat} {n : Int} (h : PA B w b F most rp tk L so n) (hB : B ≤ w.heap.size) {i : Nat} (hi : i < 64) :
    Calls Tryd.prog 27 #[.pointer (some ⟨b, 0, none⟩), .int .i64 (i : Int)] w (fun e w' => ∃ q, e = .returned (.pointer (some ⟨q, 0, none⟩)) ∧ After (fun W F => PA B W b F most (updN rp i (some q)) tk L so n) F w w') := by
  have H := hid h
  have hl := h.rc.lt
  have c1 := h.row hi
  have c0 := h.cell0
  have hi1 : (i : Int) < 64 := by omega
  have hi0 : (0 : Int) ≤ i := by omega
  cases hq : rp i with
  | some q =>
    rw [hq] at c1
    have c1' : w.cell? ⟨b, 1 + i, none⟩ = some (.pointer (some ⟨q, 0, none⟩)) := c1
    have HR := hid (show updN rp i (some q) = rp by rw [← hq, updN_self])
    clear h c1 c0 hq
    go_enter Tryd.func27, Tryd.ntmps27
    go_wp2
    go_ret
    refine ⟨q, rfl, F, ?_, fun k hk => .inl hk, Kept.refl _ _⟩
    rw [HR.out]; exact H.out
  | none =>
    rw [hq] at c1
    have c1' : w.cell? ⟨b, 1 + i, none⟩ = some (.pointer none) := c1
    have HQ := hid hq
    have HN := hid (fun W (hW : Below w.heap.size w W) => QNew_any B most W (Nat.le_trans hB hW.size))
    have HC := hid (fun W (hW : Below w.heap.size w W) => show W.cell? ⟨b, 0, none⟩ = some (.int .i64 most) ∧ W.cell? ⟨b, 1 + i, none⟩ = some (.pointer none) ∧ W.frozen? ⟨b, 1 + i, none⟩ = false ∧ b < W.heap.size from ⟨below_cell hW (Nat.le_refl _) _ _ c0, below_cell hW (Nat.le_refl _) _ _ c1', Rec.frozen (h.rc.below hW (Nat.le_refl _)) (1 + i), (h.rc.below hW (Nat.le_refl _)).lt⟩)
    clear h c1 hq
    go_enter Tryd.func27, Tryd.ntmps27
    go_wp2_with fail
    clear c1'
    go_region_held3 (fun W => W.cell? ⟨b, 0, none⟩ = some (.int .i64 most)) (first | (simp [go_sem, *]; done)) (first | (go_at_call 46; refine (HN.out _ (Below.refl _ _).drew).mono ?_; rintro _ w3 ⟨q, G, rfl, hq, hg, hb3⟩; have HB3 := hid (show Below w.heap.size w w3 from (Below.refl _ w).drew.trans hb3); have HQA := hid hq; have HG := hid hg; obtain ⟨d0, d1, f1, lt1⟩ := HC.out _ HB3.out; clear hq hg hb3))
    rename_i hHeld
    clear hHeld d0 d1 f1 lt1 c0
    obtain ⟨g1, g2⟩ := H.out.newrow hi HQ.out (s := w.heap.size) (Nat.le_refl _) HB3.out HQA.out (fun k hk => HG.out k hk)
    obtain ⟨w4, ew4⟩ : ∃ W, W = w3.setCell ⟨b, 1 + i, none⟩ (.pointer (some ⟨q, 0, none⟩)) := ⟨_, rfl⟩
    rw [← ew4] at g1 g2 ⊢
    have c2 := g1.row hi
    rw [updN_same] at c2
    have c3 : w4.cell? ⟨b, 1 + i, none⟩ = some (.pointer (some ⟨q, 0, none⟩)) := c2
    have hl4 := g1.rc.lt
    have G1 := hid g1
    have G2 := hid g2
    clear g1 g2 c2 ew4
    go_wp2_with fail
    go_ret
    exact ⟨q, rfl, _, G1.out, fun k hk => hk.imp id (fun hg => HG.out k hg), G2.out⟩
set_option maxRecDepth 100000 in
set_option maxHeartbeats 1000000 in
theorem Pnote_any {B : Nat} {w : World} {b : Nat} {F : Nat → Prop} {most : Int} {rp : Nat → Option Nat} {tk : Nat → Int} {L : Nat → List (Int × Int)} {so : Nat} {n : Int} (h : PA B w b F most rp tk L so n) {i : Nat} (hi : i < 64) {q : Nat} (hq : rp i = some q) {f : Nat → Bool} (hso : IsSet so f) :
    Calls Tryd.prog 29 #[.pointer (some ⟨b, 0, none⟩), .int .i64 (i : Int)] w (fun e w' => (∃ v, e = .returned v) ∧ ∃ so', IsSet so' (updN f i (decide (L i ≠ []))) ∧ After (fun W F => PA B W b F most rp tk L so' n) F w w') := by
  obtain ⟨r, hr1, hr2, hr3⟩ := Without_any so i hso.1 hi w
  have hrs := Without_set hso hr1 hr2
  have H := hid h
  have c65 := h.sc
  have f65 := Rec.frozen h.rc 65
  have hl := h.rc.lt
  have hi1 : (i : Int) < 64 := by omega
  have hi0 : (0 : Int) ≤ i := by omega
  have HW := hid (fun W => hr3 W)
  have HI := hid (fun W => With_any r i hr1 hi W)
  have HS1 := hid hrs
  have HP := hid (fun x : Past => (h.far (w.below_past x)).setS r)
  have HPF := hid (fun x : Past => (show (w.past x).cell? ⟨b, 65, none⟩ = some (.int .u64 (so : Int)) ∧ (w.past x).frozen? ⟨b, 65, none⟩ = false ∧ b < (w.past x).heap.size from ⟨(h.far (w.below_past x)).sc, Rec.frozen (h.far (w.below_past x)).rc 65, (h.far (w.below_past x)).rc.lt⟩))
  have HQ := hid hq
  obtain ⟨l, el⟩ : ∃ l, (L i).length = l := ⟨_, rfl⟩
  have EL := hid el
  clear h hq hr1 hr2 hr3 hrs hso el
  go_enter Tryd.func29, Tryd.ntmps29
  go_wp2_with fail
  refine (HW.out w).mono ?_
  rintro _ _ ⟨rfl, x1, rfl⟩
  obtain ⟨g1, g2⟩ := HP.out x1
  obtain ⟨c65', f65', hl'⟩ := HPF.out x1
  obtain ⟨w2, ew2⟩ : ∃ W, W = (w.past x1).setCell ⟨b, 65, none⟩ (.int .u64 (r : Int)) := ⟨_, rfl⟩
  rw [← ew2] at g1 g2
  have EW2 := hid ew2
  have G1 := hid g1
  have HK2 := hid (show Kept F w w2 from (Kept.of_below (w.below_past x1) F).trans g2)
  clear ew2 g1 g2 c65 f65 hl HP HPF HW
  go_upto_region 1 with (fail)
  rw [← EW2.out]
  clear c65' f65' hl' EW2
  have c1 := G1.out.row hi
  rw [HQ.out] at c1
  have c1' : w2.cell? ⟨b, 1 + i, none⟩ = some (.pointer (some ⟨q, 0, none⟩)) := c1
  have hl2 := G1.out.rc.lt
  have HLN := hid (show Calls Tryd.prog 50 #[.pointer (some ⟨q, 0, none⟩)] w2 (Gives (.int .i64 (l : Int)) w2) from by
    obtain ⟨G, hG⟩ := G1.out.qa hi HQ.out
    have := QLen_any hG
    rwa [EL.out] at this)
  have HX := hid (fun x : Past => (show (w2.past x).cell? ⟨b, 65, none⟩ = some (.int .u64 (r : Int)) ∧ (w2.past x).frozen? ⟨b, 65, none⟩ = false ∧ b < (w2.past x).heap.size from ⟨(G1.out.far (w2.below_past x)).sc, Rec.frozen (G1.out.far (w2.below_past x)).rc 65, (G1.out.far (w2.below_past x)).rc.lt⟩))
  clear c1
  by_cases hz : 0 < l
  · have hz1 : (0 : Int) < l := by omega
    go_wp2_with (first | (go_at_call 50; refine HLN.out.mono ?_; rintro _ _ ⟨rfl, x2, rfl⟩; obtain ⟨z1, z2, z3⟩ := HX.out x2) | (go_at_call 51; refine (HI.out _).mono ?_; rintro _ _ ⟨rfl, x3, rfl⟩; obtain ⟨z1, z2, z3⟩ := HX.out (x2.and x3)))
    go_end0
    obtain ⟨g3, g4⟩ := G1.out.setS (r ||| 2 ^ i)
    refine ⟨⟨_, rfl⟩, r ||| 2 ^ i, ?_, F, ?_, fun k hk => .inl hk, ?_⟩
    · have := With_set HS1.out hi
      refine ⟨this.1, fun j hj => (this.2 j hj).trans ?_⟩
      have hne : L i ≠ [] := by intro e; rw [e] at EL; have := EL.out; simp at this; omega
      by_cases e : j = i
      · subst e; rw [updN_same]; simp [hne]
      · rw [updN_ne _ _ e]; simp [e]
    · exact g3.far (World.below_past _ _)
    · exact (HK2.out.trans g4).trans (Kept.of_below (World.below_past _ _) F)
  · obtain rfl : l = 0 := by omega
    go_wp2_with (first | (go_at_call 50; refine HLN.out.mono ?_; rintro _ _ ⟨rfl, x2, rfl⟩))
    go_end0
    refine ⟨⟨_, rfl⟩, r, ?_, F, G1.out.far (w2.below_past x2), fun k hk => .inl hk, HK2.out.trans (Kept.of_below (w2.below_past x2) F)⟩
    have hne : L i = [] := List.eq_nil_of_length_eq_zero EL.out
    refine ⟨HS1.out.1, fun j hj => (HS1.out.2 j hj).trans ?_⟩
    by_cases e : j = i
    · subst e; rw [updN_same]; simp [hne]
    · rw [updN_ne _ _ e]; simp [e]

end Go.Proofs.YtngokihncjkiaaaDoor
namespace Go.Proofs.YtngokihncjkiaaaDoor
open Go.RowKit
attribute [local go_sem] Oper.semAt_some
/-- A queue of levels, whole. -/
def PQ (B : Nat) (w : World) (b : Nat) (F : Nat → Prop) (most : Int) (tk : Nat → Int) (L : Nat → List (Int × Int)) : Prop :=
  ∃ rp so n, PA B w b F most rp tk L so n ∧ IsSet so (fun i => decide (L i ≠ [])) ∧ n = (tot L : Int)
section
variable {B : Nat} {w w' : World} {b : Nat} {F : Nat → Prop} {most : Int} {tk : Nat → Int} {L : Nat → List (Int × Int)}
theorem PQ.is : IsO B (fun W F => PQ B W b F most tk L) :=
  ⟨fun ⟨rp, so, n, h1, h2⟩ hk hX => ⟨rp, so, n, (PA.is).kept h1 hk hX, h2⟩, fun ⟨rp, so, n, h1, h2⟩ hF => (PA.is).foot h1 hF⟩
theorem PQ.far (h : PQ B w b F most tk L) (hb : Below w.heap.size w w') : PQ B w' b F most tk L := (PQ.is).far h hb
theorem set_upd {so : Nat} {i : Nat} {L' : List (Int × Int)} (h : IsSet so (updN (fun j => decide (L j ≠ [])) i (decide (updN L i L' i ≠ [])))) : IsSet so (fun j => decide (updN L i L' j ≠ [])) := by
  refine ⟨h.1, fun j hj => (h.2 j hj).trans ?_⟩
  by_cases e : j = i
  · subst e; rw [updN_same]
  · rw [updN_ne _ _ e]
    show decide (L j ≠ []) = decide (updN L i L' j ≠ [])
    rw [updN_ne _ _ e]
end
set_option maxRecDepth 100000 in
set_option maxHeartbeats 1000000 in
theorem PPush_any {B : Nat} {w : World} {b : Nat} {F : Nat → Prop} {most : Int} {tk : Nat → Int} {L : Nat → List (Int × Int)} (h : PQ B w b F most tk L) (hB : B ≤ w.heap.size) {i : Nat} (hi : i < 64) (ht : tk i ≤ 1000000) (hT : tot L ≤ 1000000) (hr : ((L i).length : Int) < mostA most) (v : Int) :
    Calls Tryd.prog 8 #[.pointer (some ⟨b, 0, none⟩), .int .i64 (i : Int), .int .i64 v] w (fun e w' => e = .returned (.int .i64 0) ∧ After (fun W F => PQ B W b F most (updN tk i (tk i + 1)) (updN L i (L i ++ [(tk i + 1, v)]))) F w w') := by
  obtain ⟨rp, so, n, hA, hS, hn⟩ := h
  have HIS := hid (Pis_in b i hi w)
  have HROW := hid (fun x : Past => Prow_any (hA.far (w.below_past x)) (Nat.le_trans hB (w.below_past x).size) hi)
  have HTOT := hid (tot_upd L hi (L i ++ [(tk i + 1, v)]))
  have HS := hid hS
  have HN := hid hn
  obtain ⟨t, et⟩ : ∃ t, tk i = t := ⟨_, rfl⟩
  have HT := hid et
  have hnb : n + 1 ≤ 2000000 ∧ 0 ≤ n := by omega
  have e1 : IntKind.i64.wrap (n + 1) = n + 1 := by rw [IntKind.wrap_i64]; omega
  clear hA hS hn hnb
  go_enter Tryd.func8, Tryd.ntmps8
  go_wp2_with fail
  refine HIS.out.mono ?_
  rintro _ _ ⟨rfl, x1, rfl⟩
  go_wp2_with fail
  refine (HROW.out x1).mono ?_
  rintro _ w2 ⟨q, rfl, F1, g1, g2, g3⟩
  have HK1 := hid (show Kept F w w2 from (Kept.of_below (w.below_past x1) F).trans g3)
  have HF1 := hid (show ∀ k, F1 k → F k ∨ w.heap.size ≤ k from fun k hk => (g2 k hk).imp id (fun g => Nat.le_trans (w.below_past x1).size g))
  have HPU := hid (show Calls Tryd.prog 28 #[.pointer (some ⟨q, 0, none⟩), .int .i64 v] w2 (fun e w' => e = .returned (.tuple #[.int .i64 (tk i + 1), .int .i64 0]) ∧ After (fun W F => PA B W b F most (updN rp i (some q)) (updN tk i (tk i + 1)) (updN L i (L i ++ [(tk i + 1, v)])) so n) F1 w2 w') from
    g1.act hi (updN_same _ _ _) (fun G hG => QPush_any hG (Nat.le_trans hB HK1.out.size) (by rw [et]; exact (by omega)) hr v))
  clear g1 g2 g3 HIS HROW
  go_wp2_with fail
  refine HPU.out.mono ?_
  rintro _ w3 ⟨rfl, F2, g1, g2, g3⟩
  obtain ⟨p1, p2⟩ := g1.setN (n + 1)
  have c66 := g1.cnt
  have f66 := Rec.frozen g1.rc 66
  have hl3 := g1.rc.lt
  obtain ⟨w4, ew4⟩ : ∃ W, W = w3.setCell ⟨b, 66, none⟩ (.int .i64 (n + 1)) := ⟨_, rfl⟩
  rw [← ew4] at p1 p2
  have HK2 := hid g3
  have HF2 := hid g2
  have HP1 := hid p1
  have HP2 := hid p2
  have EW4 := hid ew4
  clear g1 g2 g3 p1 p2 ew4 HPU
  go_wp2_with fail
  rw [← EW4.out]
  have HNO := Pnote_any HP1.out hi (updN_same _ _ _) HS.out
  refine HNO.mono ?_
  rintro _ w5 ⟨⟨v5, rfl⟩, so', hso', hAf⟩
  have HSO := hid hso'
  have HAF := hid hAf
  clear hso' hAf c66 f66 hl3
  go_wp2_with fail
  go_ret
  refine ⟨rfl, After.next (F1 := F2) (W1 := w4) (fun k hk => ?_) ?_ ?_⟩
  · rcases HF2.out k hk with e | e
    · exact HF1.out k e
    · exact .inr (Nat.le_trans HK1.out.size e)
  · refine (HK1.out.trans' HK2.out (fun k hk hF => ?_)).trans' HP2.out (fun k hk hF => ?_)
    · rcases HF1.out k hF with e | e
      · exact e
      · omega
    · rcases HF2.out k hF with e | e
      · rcases HF1.out k e with e | e
        · exact e
        · omega
      · have := HK1.out.size; omega
  · obtain ⟨F', a1, a2, a3⟩ := HAF.out
    refine ⟨F', ⟨_, so', n + 1, a1, set_upd HSO.out, ?_⟩, a2, a3⟩
    have h1 := HTOT.out
    have h2 := HN.out
    rw [List.length_append] at h1
    simp only [List.length_cons, List.length_nil] at h1
    omega

end Go.Proofs.YtngokihncjkiaaaDoor
namespace Go.Proofs.YtngokihncjkiaaaDoor
open Go.RowKit
attribute [local go_sem] Oper.semAt_some
set_option maxRecDepth 100000 in
set_option maxHeartbeats 1000000 in
/-- The level is full. -/
theorem PPushF_any {B : Nat} {w : World} {b : Nat} {F : Nat → Prop} {most : Int} {tk : Nat → Int} {L : Nat → List (Int × Int)} (h : PQ B w b F most tk L) (hB : B ≤ w.heap.size) {i : Nat} (hi : i < 64) (ht : tk i ≤ 1000000) (hr : mostA most ≤ ((L i).length : Int)) (v : Int) :
    Calls Tryd.prog 8 #[.pointer (some ⟨b, 0, none⟩), .int .i64 (i : Int), .int .i64 v] w (fun e w' => e = .returned (.int .i64 3) ∧ After (fun W F => PQ B W b F most tk L) F w w') := by
  obtain ⟨rp, so, n, hA, hS, hn⟩ := h
  have HIS := hid (Pis_in b i hi w)
  have HROW := hid (fun x : Past => Prow_any (hA.far (w.below_past x)) (Nat.le_trans hB (w.below_past x).size) hi)
  have HS := hid hS
  have HN := hid hn
  clear hA hS hn
  go_enter Tryd.func8, Tryd.ntmps8
  go_wp2_with fail
  refine HIS.out.mono ?_
  rintro _ _ ⟨rfl, x1, rfl⟩
  go_wp2_with fail
  refine (HROW.out x1).mono ?_
  rintro _ w2 ⟨q, rfl, F1, g1, g2, g3⟩
  have HK1 := hid (show Kept F w w2 from (Kept.of_below (w.below_past x1) F).trans g3)
  have HF1 := hid (show ∀ k, F1 k → F k ∨ w.heap.size ≤ k from fun k hk => (g2 k hk).imp id (fun g => Nat.le_trans (w.below_past x1).size g))
  have HPU := hid (show Calls Tryd.prog 28 #[.pointer (some ⟨q, 0, none⟩), .int .i64 v] w2 (fun e w' => e = .returned (.tuple #[.int .i64 0, .int .i64 3]) ∧ After (fun W F => PA B W b F most (updN rp i (some q)) (updN tk i (tk i)) (updN L i (L i)) so n) F1 w2 w') from
    g1.act hi (updN_same _ _ _) (fun G hG => QPushF_any hG (Nat.le_trans hB HK1.out.size) ht hr v))
  clear g1 g2 g3 HIS HROW
  go_wp2_with fail
  refine HPU.out.mono ?_
  rintro _ w3 ⟨rfl, hAf⟩
  have HAF := hid hAf
  clear hAf HPU
  go_wp2_with fail
  go_ret
  refine ⟨rfl, After.next HF1.out HK1.out ?_⟩
  obtain ⟨F', a1, a2, a3⟩ := HAF.out
  rw [updN_self, updN_self] at a1
  exact ⟨F', ⟨_, so, n, a1, HS.out, HN.out⟩, a2, a3⟩
/-- There is no such level. -/
theorem PPushN_any (p : Option Addr) (i : Int) (hi : i < 0 ∨ 64 ≤ i) (v : Int) (w : World) : Calls Tryd.prog 8 #[.pointer p, .int .i64 i, .int .i64 v] w (Gives (.int .i64 1) w) := by
  have HIS := hid (Pis_out p i hi w)
  go_enter Tryd.func8, Tryd.ntmps8
  go_wp2_with (go_at_call 26; refine HIS.out.mono ?_; rintro _ _ ⟨rfl, x1, rfl⟩)
  go_ret
  exact Gives.mk rfl (by (repeat (first | exact Below.refl _ _ | refine RowKit.Below.past ?_ _ | refine RowKit.Below.alloc' ?_ _ | refine RowKit.Below.drew' ?_ | refine RowKit.Below.drewN' ?_ _ | refine RowKit.Below.setCell' ?_ (by simp [go_sem]) _)))
theorem PPush_nil (i : Int) (v : Int) (w : World) : Calls Tryd.prog 8 #[.pointer none, .int .i64 i, .int .i64 v] w (Gives (.int .i64 1) w) := by
  have HIS := hid (Pis_nil i w)
  go_enter Tryd.func8, Tryd.ntmps8
  go_wp2_with (go_at_call 26; refine HIS.out.mono ?_; rintro _ _ ⟨rfl, x1, rfl⟩)
  go_ret
  exact Gives.mk rfl (by (repeat (first | exact Below.refl _ _ | refine RowKit.Below.past ?_ _ | refine RowKit.Below.alloc' ?_ _ | refine RowKit.Below.drew' ?_ | refine RowKit.Below.drewN' ?_ _ | refine RowKit.Below.setCell' ?_ (by simp [go_sem]) _)))
theorem PLen_nil (w : World) : Calls Tryd.prog 16 #[.pointer none] w (Gives (.int .i64 0) w) := by
  go_enter Tryd.func16, Tryd.ntmps16
  go_wp2
  go_ret
  exact Gives.refl rfl
theorem PLevels_nil (w : World) : Calls Tryd.prog 17 #[.pointer none] w (Gives (.int .u64 0) w) := by
  go_enter Tryd.func17, Tryd.ntmps17
  go_wp2
  go_ret
  exact Gives.refl rfl
set_option maxRecDepth 100000 in
set_option maxHeartbeats 1000000 in
/-- The first one is taken off the first level that has some. -/
theorem PPop_any {B : Nat} {w : World} {b : Nat} {F : Nat → Prop} {most : Int} {tk : Nat → Int} {L : Nat → List (Int × Int)} (h : PQ B w b F most tk L) (hB : B ≤ w.heap.size) (ht : ∀ i, i < 64 → tk i ≤ 1000000) (hT : tot L ≤ 1000000) (hZ : Tz w) (hp : 0 < tot L) :
    ∃ (i : Nat) (x : Int × Int) (R : List (Int × Int)), i < 64 ∧ L i = x :: R ∧ (∀ j, j < i → L j = []) ∧
    Calls Tryd.prog 11 #[.pointer (some ⟨b, 0, none⟩)] w (fun e w' => e = .returned (.tuple #[.int .i64 (i : Int), .int .i64 x.2, .bool true]) ∧ After (fun W F => PQ B W b F most tk (updN L i R)) F w w') := by
  obtain ⟨rp, so, n, hA, hS, hn⟩ := h
  have hne : ∃ j, j < 64 ∧ L j ≠ [] := by
    apply Classical.byContradiction
    intro hno
    have : ∀ j, j < 64 → L j = [] := fun j hj => Classical.byContradiction fun e => hno ⟨j, hj, e⟩
    rw [tot_zero this] at hp
    omega
  obtain ⟨i, hi, hfi, hfj, hso0, hfirst⟩ := first_of hS (by obtain ⟨j, hj, e⟩ := hne; exact ⟨j, hj, by simpa using e⟩)
  have hfi' : L i ≠ [] := by simpa using hfi
  cases hL : L i with
  | nil => exact absurd hL hfi'
  | cons x R =>
  refine ⟨i, x, R, hi, hL, fun j hj => by have := hfj j hj; simpa using this, ?_⟩
  obtain ⟨q, hq⟩ : ∃ q, rp i = some q := by
    cases hr : rp i with
    | some q => exact ⟨q, rfl⟩
    | none => exact absurd (hA.no hi hr).1 hfi'
  have HLN := hid (PLen_any hA)
  have HFI := hid (fun y : Past => hfirst (w.past y) (hZ.past y))
  have HA := hid (fun y : Past => hA.far (w.below_past y))
  have HX := hid (fun y : Past => (show (w.past y).cell? ⟨b, 65, none⟩ = some (.int .u64 (so : Int)) ∧ (w.past y).cell? ⟨b, 1 + i, none⟩ = some (.pointer (some ⟨q, 0, none⟩)) ∧ b < (w.past y).heap.size from ⟨(hA.far (w.below_past y)).sc, by have := (hA.far (w.below_past y)).row hi; rwa [hq] at this, (hA.far (w.below_past y)).rc.lt⟩))
  have HPP := hid (fun y : Past => (show Calls Tryd.prog 32 #[.pointer (some ⟨q, 0, none⟩)] (w.past y) (fun e w' => e = .returned (.tuple #[.int .i64 x.2, .bool true]) ∧ After (fun W F => PA B W b F most rp (updN tk i (tk i)) (updN L i R) so n) F (w.past y) w') from
    (hA.far (w.below_past y)).act hi hq (fun G hG => by rw [hL] at hG; exact QPop_any hG (Nat.le_trans hB (w.below_past y).size) (ht i hi))))
  have HTOT := hid (tot_upd L hi R)
  have HS := hid hS
  have HN := hid hn
  have HL := hid hL
  have HQ := hid hq
  have hn0 : ¬ n = 0 := by omega
  have hn1 : (n == 0) = false := by simp; omega
  have hnb : n ≤ 2000000 ∧ 1 ≤ n := by omega
  have e1 : IntKind.i64.wrap (n - 1) = n - 1 := by rw [IntKind.wrap_i64]; omega
  have hi1 : (i : Int) < 64 := by omega
  obtain ⟨v, ev⟩ : ∃ v, x.2 = v := ⟨_, rfl⟩
  rw [ev] at HPP
  rw [ev]
  clear hA hS hn hfi hfj hfi' hL hq ht hp hne hnb ev hfirst
  go_enter Tryd.func11, Tryd.ntmps11
  go_wp2_with fail
  refine HLN.out.mono ?_
  rintro _ _ ⟨rfl, x1, rfl⟩
  obtain ⟨z1, z2, z3⟩ := HX.out x1
  go_wp2_with fail
  refine (HFI.out x1).mono ?_
  rintro _ _ ⟨rfl, x2, rfl⟩
  obtain ⟨y1, y2, y3⟩ := HX.out (x1.and x2)
  clear z1 z2 z3
  go_wp2_with fail
  refine (HPP.out (x1.and x2)).mono ?_
  rintro _ w3 ⟨rfl, F2, g1, g2, g3⟩
  rw [updN_self] at g1
  obtain ⟨p1, p2⟩ := g1.setN (n - 1)
  have c66 := g1.cnt
  have f66 := Rec.frozen g1.rc 66
  have hl3 := g1.rc.lt
  obtain ⟨w4, ew4⟩ : ∃ W, W = w3.setCell ⟨b, 66, none⟩ (.int .i64 (n - 1)) := ⟨_, rfl⟩
  rw [← ew4] at p1 p2
  have HK2 := hid (show Kept F w w3 from (Kept.of_below (w.below_past _) F).trans g3)
  have HF2 := hid (show ∀ k, F2 k → F k ∨ w.heap.size ≤ k from fun k hk => (g2 k hk).imp id (fun g => Nat.le_trans (w.below_past _).size g))
  have HP1 := hid p1
  have HP2 := hid p2
  have EW4 := hid ew4
  clear g1 g2 g3 p1 p2 ew4 HPP y1 y2 y3 HX
  go_wp2_with fail
  rw [← EW4.out]
  have HNO := Pnote_any HP1.out hi HQ.out HS.out
  refine HNO.mono ?_
  rintro _ w5 ⟨⟨v5, rfl⟩, so', hso', hAf⟩
  have HSO := hid hso'
  have HAF := hid hAf
  clear hso' hAf c66 f66 hl3 HNO
  go_wp2_with fail
  refine bodyPost_ret (v := .tuple #[.int .i64 (i : Int), .int .i64 v, .bool true]) (by simp [results, Tryd.results11, go_sem]) rfl ?_
  refine ⟨rfl, After.next HF2.out (HK2.out.trans' HP2.out (fun k hk hF => ?_)) ?_⟩
  · rcases HF2.out k hF with e | e
    · exact e
    · omega
  · obtain ⟨F', a1, a2, a3⟩ := HAF.out
    refine ⟨F', ⟨_, so', n - 1, a1, set_upd HSO.out, ?_⟩, a2, a3⟩
    have h1 := HTOT.out
    have h2 := HN.out
    rw [HL.out] at h1
    simp only [List.length_cons] at h1
    omega

end Go.Proofs.YtngokihncjkiaaaDoor
namespace Go.Proofs.YtngokihncjkiaaaDoor
open Go.RowKit
attribute [local go_sem] Oper.semAt_some
section
variable {B : Nat} {w w' : World} {b : Nat} {F : Nat → Prop} {most : Int} {rp : Nat → Option Nat} {tk : Nat → Int} {L : Nat → List (Int × Int)} {so : Nat} {n : Int}
/-- An act on the queues of two levels. -/
theorem PA.act2 (h : PA B w b F most rp tk L so n) {i j : Nat} (hi : i < 64) (hj : j < 64) (hij : i ≠ j) {q p : Nat} (hq : rp i = some q) (hp : rp j = some p) {fn : FuncId} {args : Array Value} {r : Value} {t1 t2 : Int} {L1 L2 : List (Int × Int)}
    (hc : ∀ F1 F2, QA B w q F1 (mostA most) (tk i) (L i) → QA B w p F2 (mostA most) (tk j) (L j) → (∀ k, F1 k → ¬ F2 k) → Calls Tryd.prog fn args w (fun e w' => e = .returned r ∧ ∃ G1 G2, QA B w' q G1 (mostA most) t1 L1 ∧ QA B w' p G2 (mostA most) t2 L2 ∧ (∀ k, G1 k → ¬ G2 k) ∧ (∀ k, G1 k ∨ G2 k → (F1 k ∨ F2 k) ∨ w.heap.size ≤ k) ∧ Kept (fun k => F1 k ∨ F2 k) w w')) :
    Calls Tryd.prog fn args w (fun e w' => e = .returned r ∧ After (fun W F => PA B W b F most rp (updN (updN tk i t1) j t2) (updN (updN L i L1) j L2) so n) F w w') := by
  have hself := h.self
  have hbl := h.rc.lt
  obtain ⟨Fs, h1, h2, h3, h4⟩ := h.qs
  have hi1 := h1 i hi
  have hj1 := h1 j hj
  rw [hq] at hi1
  rw [hp] at hj1
  refine (hc (Fs i) (Fs j) hi1 hj1 (h2 i j hi hj hij)).mono ?_
  rintro _ w' ⟨rfl, G1, G2, g1, g2, g3, g4, g5⟩
  have hlt : ∀ l, l < 64 → ∀ k, Fs l k → k < w.heap.size := fun l hl k hk => ((h1 l hl).foot k hk).2
  have hX : ∀ l, l < 64 → l ≠ i → l ≠ j → ∀ k, Fs l k → ¬ (Fs i k ∨ Fs j k) := fun l hl h5 h6 k hk e => by
    rcases e with e | e
    · exact h2 l i hl hi h5 k hk e
    · exact h2 l j hl hj h6 k hk e
  have hXG : ∀ l, l < 64 → l ≠ i → l ≠ j → ∀ k, Fs l k → ¬ (G1 k ∨ G2 k) := fun l hl h5 h6 k hk e => by
    rcases g4 k e with e | e
    · exact hX l hl h5 h6 k hk e
    · have := hlt l hl k hk; omega
  have hi' : ∀ {α : Type} (f : Nat → α) (x y : α), updN (updN f i x) j y i = x := fun f x y => by rw [updN_ne _ _ hij, updN_same]
  have hj' : ∀ {α : Type} (f : Nat → α) (x y : α), updN (updN f i x) j y j = y := fun f x y => updN_same _ _ _
  have hl' : ∀ {α : Type} (f : Nat → α) (x y : α) (l : Nat), l ≠ i → l ≠ j → updN (updN f i x) j y l = f l := fun f x y l h5 h6 => by rw [updN_ne _ _ h6, updN_ne _ _ h5]
  have hb1 : ¬ (Fs i b ∨ Fs j b) := by
    rintro (e | e)
    · exact h3 i hi e
    · exact h3 j hj e
  have hcase : ∀ l, l = i ∨ l = j ∨ (l ≠ i ∧ l ≠ j) := fun l => by omega
  refine ⟨rfl, fun k => k = b ∨ ∃ l, l < 64 ∧ updN (updN Fs i G1) j G2 l k, ⟨h.big, h.rc.kept g5 hb1, updN (updN Fs i G1) j G2, fun l hl => ?_, fun l m hl hm hne k hk hk' => ?_, fun l hl hb => ?_, fun k => Iff.rfl⟩, fun k hk => ?_, g5.mono (fun k _ hk => (h4 k).2 (.inr (by rcases hk with hk | hk; exact ⟨i, hi, hk⟩; exact ⟨j, hj, hk⟩)))⟩
  · rcases hcase l with rfl | rfl | ⟨h5, h6⟩
    · rw [hq, hi', hi', hi']; exact g1
    · rw [hp, hj', hj', hj']; exact g2
    · rw [hl' _ _ _ l h5 h6, hl' _ _ _ l h5 h6, hl' _ _ _ l h5 h6]
      exact (h1 l hl).kept g5 (hX l hl h5 h6)
  · rcases hcase l with rfl | rfl | ⟨h5, h6⟩
    · rw [hi'] at hk
      rcases hcase m with rfl | rfl | ⟨h7, h8⟩
      · exact hne rfl
      · rw [hj'] at hk'
        exact g3 k hk hk'
      · rw [hl' _ _ _ m h7 h8] at hk'
        exact hXG m hm h7 h8 k hk' (.inl hk)
    · rw [hj'] at hk
      rcases hcase m with rfl | rfl | ⟨h7, h8⟩
      · rw [hi'] at hk'
        exact g3 k hk' hk
      · exact hne rfl
      · rw [hl' _ _ _ m h7 h8] at hk'
        exact hXG m hm h7 h8 k hk' (.inr hk)
    · rw [hl' _ _ _ l h5 h6] at hk
      rcases hcase m with rfl | rfl | ⟨h7, h8⟩
      · rw [hi'] at hk'
        exact hXG l hl h5 h6 k hk (.inl hk')
      · rw [hj'] at hk'
        exact hXG l hl h5 h6 k hk (.inr hk')
      · rw [hl' _ _ _ m h7 h8] at hk'
        exact h2 l m hl hm hne k hk hk'
  · rcases hcase l with rfl | rfl | ⟨h5, h6⟩
    · rw [hi'] at hb
      rcases g4 b (.inl hb) with e | e
      · exact hb1 e
      · omega
    · rw [hj'] at hb
      rcases g4 b (.inr hb) with e | e
      · exact hb1 e
      · omega
    · rw [hl' _ _ _ l h5 h6] at hb
      exact h3 l hl hb
  · rcases hk with rfl | ⟨l, hl, hk⟩
    · exact .inl hself
    · have key : ∀ k, G1 k ∨ G2 k → F k ∨ w.heap.size ≤ k := fun k hk => by
        rcases g4 k hk with (e | e) | e
        · exact .inl ((h4 k).2 (.inr ⟨i, hi, e⟩))
        · exact .inl ((h4 k).2 (.inr ⟨j, hj, e⟩))
        · exact .inr e
      rcases hcase l with rfl | rfl | ⟨h5, h6⟩
      · rw [hi'] at hk; exact key k (.inl hk)
      · rw [hj'] at hk; exact key k (.inr hk)
      · rw [hl' _ _ _ l h5 h6] at hk
        exact .inl ((h4 k).2 (.inr ⟨l, hl, hk⟩))
theorem PA.pour (h : PA B w b F most rp tk L so n) (hB : B ≤ w.heap.size) {i j : Nat} (hi : i < 64) (hj : j < 64) (hij : i ≠ j) {q p : Nat} (hq : rp i = some q) (hp : rp j = some p) (ht1 : tk i ≤ 1000000) (ht2 : tk j + 5000 ≤ 1000000) (hL1 : (L i).length ≤ 5000) (hL2 : (L j).length ≤ 5000) {K : Nat} (hK : pourN 4096 (mostA most) (L i) (L j) = K) :
    Calls Tryd.prog 33 #[.pointer (some ⟨q, 0, none⟩), .pointer (some ⟨p, 0, none⟩), .int .i64 4096] w (fun e w' => e = .returned (.int .i64 (K : Int)) ∧ After (fun W F => PA B W b F most rp (updN (updN tk i (tk i)) j (tk j + K)) (updN (updN L i ((L i).drop K)) j (L j ++ tkt (tk j) ((L i).take K))) so n) F w w') := by
  refine h.act2 hi hj hij hq hp (fun F1 F2 a1 a2 a3 => ?_)
  have hqk : QK B (fun k => F1 k ∨ F2 k) w w q p (mostA most) (mostA most) (tk i) (tk j) (L i) (L j) := ⟨hB, Kept.refl _ _, F1, F2, a1, a2, a3, fun k h => .inl (.inl h), fun k h => .inl (.inr h)⟩
  have := PourK_any hqk ht1 ht2 hL1 hL2 4096 (by unfold I64; omega)
  rw [hK] at this
  refine this.mono ?_
  rintro _ w' ⟨rfl, hw⟩
  obtain ⟨G1, G2, c1, c2, c3, c4, c5⟩ := hw.ex
  exact ⟨rfl, G1, G2, c1, c2, c3, fun k hk => hk.elim (c4 k) (c5 k), hw.kp⟩
end

end Go.Proofs.YtngokihncjkiaaaDoor
namespace Go.Proofs.YtngokihncjkiaaaDoor
open Go.RowKit
attribute [local go_sem] Oper.semAt_some
set_option maxRecDepth 100000 in
set_option maxHeartbeats 2000000 in
theorem PLift_any {B : Nat} {w : World} {b : Nat} {F : Nat → Prop} {most : Int} {tk : Nat → Int} {L : Nat → List (Int × Int)} (h : PQ B w b F most tk L) (hB : B ≤ w.heap.size) {i j : Nat} (hi : i < 64) (hj : j < 64) (hij : i ≠ j) (ht1 : tk i ≤ 1000000) (ht2 : tk j + 5000 ≤ 1000000) (hL1 : (L i).length ≤ 5000) (hL2 : (L j).length ≤ 5000) {K : Nat} (hK : pourN 4096 (mostA most) (L i) (L j) = K) :
    Calls Tryd.prog 13 #[.pointer (some ⟨b, 0, none⟩), .int .i64 (i : Int), .int .i64 (j : Int)] w (fun e w' => e = .returned (.int .i64 (K : Int)) ∧ After (fun W F => PQ B W b F most (updN (updN tk i (tk i)) j (tk j + K)) (updN (updN L i ((L i).drop K)) j (L j ++ tkt (tk j) ((L i).take K)))) F w w') := by
  obtain ⟨rp, so, n, hA, hS, hn⟩ := h
  have HIS := hid (fun (i : Nat) (hi : i < 64) (W : World) => Pis_in b i hi W)
  have HR0 := hid (fun x : Past => (Rl.refl F w).far (w.below_past x))
  have HA0 := hid (fun x : Past => hA.far (w.below_past x))
  have HIJ := hid hij
  have HS := hid hS
  have HN := hid hn
  have hle : K ≤ (L i).length := by rw [← hK]; unfold pourN; omega
  have HTOT := hid (show tot (updN (updN L i ((L i).drop K)) j (L j ++ tkt (tk j) ((L i).take K))) = tot L from by
    have t1 := tot_upd L hi ((L i).drop K)
    have t2 := tot_upd (updN L i ((L i).drop K)) hj (L j ++ tkt (tk j) ((L i).take K))
    rw [updN_ne _ _ (Ne.symm hij)] at t2
    rw [List.length_append, tkt_length, List.length_take] at t2
    rw [List.length_drop] at t1
    omega)
  have HB := hid hB
  clear hA hS hn hij hle
  go_enter Tryd.func13, Tryd.ntmps13
  go_wp2_with fail
  refine (HIS.out i hi _).mono ?_
  rintro _ _ ⟨rfl, x1, rfl⟩
  go_wp2_with fail
  refine (HIS.out j hj _).mono ?_
  rintro _ _ ⟨rfl, x2, rfl⟩
  go_wp2_with fail
  refine (Prow_any (HA0.out (x1.and x2)) (Nat.le_trans HB.out (w.below_past _).size) hi).mono ?_
  rintro _ w1 ⟨q, rfl, F1, a1, a2, a3⟩
  have HR1 := hid ((HR0.out (x1.and x2)).step a2 a3)
  have HA1 := hid a1
  clear a1 a2 a3 HR0 HA0 HIS
  go_wp2_with fail
  refine (Prow_any HA1.out (Nat.le_trans HB.out HR1.out.kp.size) hj).mono ?_
  rintro _ w2 ⟨p, rfl, F2, a1, a2, a3⟩
  have HR2 := hid (HR1.out.step a2 a3)
  have HA2 := hid a1
  clear a1 a2 a3
  have hq : updN (updN rp i (some q)) j (some p) i = some q := by rw [updN_ne _ _ HIJ.out, updN_same]
  have hp : updN (updN rp i (some q)) j (some p) j = some p := updN_same _ _ _
  have HPO := hid (HA2.out.pour (Nat.le_trans HB.out HR2.out.kp.size) hi hj HIJ.out hq hp ht1 ht2 hL1 hL2 hK)
  have HQ := hid hq
  have HP := hid hp
  clear hq hp HA1
  go_wp2_with fail
  refine HPO.out.mono ?_
  rintro _ w3 ⟨rfl, F3, a1, a2, a3⟩
  have HR3 := hid (HR2.out.step a2 a3)
  have HA3 := hid a1
  clear a1 a2 a3 HPO
  go_wp2_with fail
  refine (Pnote_any HA3.out hi HQ.out HS.out).mono ?_
  rintro _ w4 ⟨⟨v4, rfl⟩, so4, hs4, F4, a1, a2, a3⟩
  have HR4 := hid (HR3.out.step a2 a3)
  have HA4 := hid a1
  have HS4 := hid hs4
  clear a1 a2 a3 hs4
  go_wp2_with fail
  refine (Pnote_any HA4.out hj HP.out HS4.out).mono ?_
  rintro _ w5 ⟨⟨v5, rfl⟩, so5, hs5, F5, a1, a2, a3⟩
  have HR5 := hid (HR4.out.step a2 a3)
  have HA5 := hid a1
  have HS5 := hid hs5
  clear a1 a2 a3 hs5
  go_wp2_with fail
  go_ret
  refine ⟨rfl, HR5.out.after ⟨_, so5, n, HA5.out, ⟨HS5.out.1, fun k hk => (HS5.out.2 k hk).trans ?_⟩, by rw [HTOT.out]; exact HN.out⟩⟩
  by_cases e : k = j
  · subst e; rw [updN_same]
  · rw [updN_ne _ _ e]
    by_cases e2 : k = i
    · subst e2; rw [updN_same]
    · rw [updN_ne _ _ e2]
      show decide (L k ≠ []) = decide (updN (updN L i ((L i).drop K)) j (L j ++ tkt (tk j) ((L i).take K)) k ≠ [])
      rw [updN_ne _ _ e, updN_ne _ _ e2]
theorem PourSame_any (q : Nat) (n : Int) (w : World) : Calls Tryd.prog 33 #[.pointer (some ⟨q, 0, none⟩), .pointer (some ⟨q, 0, none⟩), .int .i64 n] w (Gives (.int .i64 0) w) := by
  obtain ⟨j, hj, hs⟩ := Option.map_eq_some_iff.1 info_q
  have he := run_eql_ptr_same (P := Tryd.prog) (w := w) ⟨q, 0, none⟩ und_q hj
  clear hj hs
  go_enter Tryd.func33, Tryd.ntmps33
  go_wp2
  go_ret
  exact Gives.refl rfl
set_option maxRecDepth 100000 in
set_option maxHeartbeats 2000000 in
/-- A level to itself. -/
theorem PLiftSame_any {B : Nat} {w : World} {b : Nat} {F : Nat → Prop} {most : Int} {tk : Nat → Int} {L : Nat → List (Int × Int)} (h : PQ B w b F most tk L) (hB : B ≤ w.heap.size) {i : Nat} (hi : i < 64) :
    Calls Tryd.prog 13 #[.pointer (some ⟨b, 0, none⟩), .int .i64 (i : Int), .int .i64 (i : Int)] w (fun e w' => e = .returned (.int .i64 0) ∧ After (fun W F => PQ B W b F most tk L) F w w') := by
  obtain ⟨rp, so, n, hA, hS, hn⟩ := h
  have HIS := hid (fun (W : World) => Pis_in b i hi W)
  have HR0 := hid (fun x : Past => (Rl.refl F w).far (w.below_past x))
  have HA0 := hid (fun x : Past => hA.far (w.below_past x))
  have HS := hid hS
  have HN := hid hn
  have HB := hid hB
  clear hA hS hn
  go_enter Tryd.func13, Tryd.ntmps13
  go_wp2_with fail
  refine (HIS.out _).mono ?_
  rintro _ _ ⟨rfl, x1, rfl⟩
  go_wp2_with fail
  refine (HIS.out _).mono ?_
  rintro _ _ ⟨rfl, x2, rfl⟩
  go_wp2_with fail
  refine (Prow_any (HA0.out (x1.and x2)) (Nat.le_trans HB.out (w.below_past _).size) hi).mono ?_
  rintro _ w1 ⟨q, rfl, F1, a1, a2, a3⟩
  have HR1 := hid ((HR0.out (x1.and x2)).step a2 a3)
  have HA1 := hid a1
  have c1 : w1.cell? ⟨b, 1 + i, none⟩ = some (.pointer (some ⟨q, 0, none⟩)) := by
    have := a1.row hi
    rwa [updN_same] at this
  have hl1 := a1.rc.lt
  clear a1 a2 a3 HR0 HA0 HIS
  have HRW := hid (show Calls Tryd.prog 27 #[.pointer (some ⟨b, 0, none⟩), .int .i64 (i : Int)] w1 (fun e w' => e = .returned (.pointer (some ⟨q, 0, none⟩)) ∧ w' = w1) from by
    have hi1 : (i : Int) < 64 := by omega
    have hi0 : (0 : Int) ≤ i := by omega
    go_enter Tryd.func27, Tryd.ntmps27
    go_wp2
    go_ret
    exact ⟨rfl, rfl⟩)
  clear c1 hl1
  go_wp2_with fail
  refine HRW.out.mono ?_
  rintro _ wz ⟨rfl, hz⟩
  rw [hz]
  clear hz wz
  go_wp2_with fail
  refine (PourSame_any q 4096 w1).mono ?_
  rintro _ _ ⟨rfl, x3, rfl⟩
  obtain ⟨w3, ew3⟩ : ∃ W, W = w1.past x3 := ⟨_, rfl⟩
  rw [← ew3]
  have hb3 : Below w1.heap.size w1 w3 := by rw [ew3]; exact w1.below_past x3
  have HR3 := hid (HR1.out.far hb3)
  have HA3 := hid (HA1.out.far hb3)
  clear ew3 hb3 HRW HR1 HA1
  go_wp2_with fail
  refine (Pnote_any HA3.out hi (updN_same _ _ _) HS.out).mono ?_
  rintro _ w4 ⟨⟨v4, rfl⟩, so4, hs4, F4, a1, a2, a3⟩
  have HR4 := hid (HR3.out.step a2 a3)
  have HA4 := hid a1
  have HS4 := hid hs4
  clear a1 a2 a3 hs4
  go_wp2_with fail
  refine (Pnote_any HA4.out hi (updN_same _ _ _) HS4.out).mono ?_
  rintro _ w5 ⟨⟨v5, rfl⟩, so5, hs5, F5, a1, a2, a3⟩
  have HR5 := hid (HR4.out.step a2 a3)
  have HA5 := hid a1
  have HS5 := hid hs5
  clear a1 a2 a3 hs5
  go_wp2_with fail
  go_ret
  refine ⟨rfl, HR5.out.after ⟨_, so5, n, HA5.out, ⟨HS5.out.1, fun k hk => (HS5.out.2 k hk).trans ?_⟩, HN.out⟩⟩
  by_cases e : k = i
  · subst e; rw [updN_same]
  · rw [updN_ne _ _ e, updN_ne _ _ e]
theorem PLiftN_any (b : Nat) (i j : Int) (h : (i < 0 ∨ 64 ≤ i) ∨ (j < 0 ∨ 64 ≤ j)) (w : World) : Calls Tryd.prog 13 #[.pointer (some ⟨b, 0, none⟩), .int .i64 i, .int .i64 j] w (Gives (.int .i64 0) w) := by
  by_cases h1 : i < 0 ∨ 64 ≤ i
  · have HIS := hid (Pis_out (some ⟨b, 0, none⟩) i h1 w)
    clear h h1
    go_enter Tryd.func13, Tryd.ntmps13
    go_wp2_with (go_at_call 26; refine HIS.out.mono ?_; rintro _ _ ⟨rfl, x1, rfl⟩)
    go_ret
    exact Gives.mk rfl (by (repeat (first | exact Below.refl _ _ | refine RowKit.Below.past ?_ _ | refine RowKit.Below.alloc' ?_ _ | refine RowKit.Below.drew' ?_ | refine RowKit.Below.drewN' ?_ _ | refine RowKit.Below.setCell' ?_ (by simp [go_sem]) _)))
  · have h2 : j < 0 ∨ 64 ≤ j := h.resolve_left h1
    obtain ⟨i, rfl⟩ := Int.eq_ofNat_of_zero_le (show 0 ≤ i by omega)
    have HI1 := hid (Pis_in b i (by omega) w)
    have HI2 := hid (fun W => Pis_out (some ⟨b, 0, none⟩) j h2 W)
    clear h h1 h2
    go_enter Tryd.func13, Tryd.ntmps13
    go_wp2_with fail
    refine HI1.out.mono ?_
    rintro _ _ ⟨rfl, x1, rfl⟩
    go_wp2_with fail
    refine (HI2.out _).mono ?_
    rintro _ _ ⟨rfl, x2, rfl⟩
    go_wp2_with fail
    go_ret
    exact Gives.mk rfl (by (repeat (first | exact Below.refl _ _ | refine RowKit.Below.past ?_ _ | refine RowKit.Below.alloc' ?_ _ | refine RowKit.Below.drew' ?_ | refine RowKit.Below.drewN' ?_ _ | refine RowKit.Below.setCell' ?_ (by simp [go_sem]) _)))
theorem PLift_nil (i j : Int) (w : World) : Calls Tryd.prog 13 #[.pointer none, .int .i64 i, .int .i64 j] w (Gives (.int .i64 0) w) := by
  have HIS := hid (Pis_nil i w)
  go_enter Tryd.func13, Tryd.ntmps13
  go_wp2_with (go_at_call 26; refine HIS.out.mono ?_; rintro _ _ ⟨rfl, x1, rfl⟩)
  go_ret
  exact Gives.mk rfl (by (repeat (first | exact Below.refl _ _ | refine RowKit.Below.past ?_ _ | refine RowKit.Below.alloc' ?_ _ | refine RowKit.Below.drew' ?_ | refine RowKit.Below.drewN' ?_ _ | refine RowKit.Below.setCell' ?_ (by simp [go_sem]) _)))

end Go.Proofs.YtngokihncjkiaaaDoor
namespace Go.Proofs.YtngokihncjkiaaaDoor
open Go.RowKit
attribute [local go_sem] Oper.semAt_some
abbrev tPS : TypeId := 81
/-- A level's queue: none, or one in memory. -/
def LvS (B : Nat) (w : World) (o : Option Nat) (F : Nat → Prop) (most tk : Int) (L : List (Int × ByteArray)) : Prop :=
  match o with
  | some q => QAS B w q F most tk L
  | none => L = [] ∧ tk = 0 ∧ ∀ k, ¬ F k
structure PAS (B : Nat) (w : World) (b : Nat) (F : Nat → Prop) (most : Int) (rp : Nat → Option Nat) (tk : Nat → Int) (L : Nat → List (Int × ByteArray)) (so : Nat) (n : Int) : Prop where
  big : B ≤ b
  rc : Rec w b tPS (cellsP most rp so n)
  qs : ∃ Fs : Nat → Nat → Prop, (∀ i, i < 64 → LvS B w (rp i) (Fs i) (mostA most) (tk i) (L i)) ∧ (∀ i j, i < 64 → j < 64 → i ≠ j → ∀ k, Fs i k → ¬ Fs j k) ∧ (∀ i, i < 64 → ¬ Fs i b) ∧ ∀ k, F k ↔ k = b ∨ ∃ i, i < 64 ∧ Fs i k
section
variable {B : Nat} {w w' : World} {b : Nat} {F : Nat → Prop} {most : Int} {rp : Nat → Option Nat} {tk : Nat → Int} {L : Nat → List (Int × ByteArray)} {so : Nat} {n : Int}
theorem LvS.kept {o : Option Nat} {X F : Nat → Prop} {m t : Int} {L : List (Int × ByteArray)} (h : LvS B w o F m t L) (hk : Kept X w w') (hX : ∀ k, F k → ¬ X k) : LvS B w' o F m t L := by
  cases o with
  | none => exact h
  | some q => exact QAS.kept h hk hX
theorem LvS.foot {o : Option Nat} {F : Nat → Prop} {m t : Int} {L : List (Int × ByteArray)} (h : LvS B w o F m t L) (k : Nat) (hk : F k) : B ≤ k ∧ k < w.heap.size := by
  cases o with
  | none => exact absurd hk (h.2.2 k)
  | some q => exact QAS.foot h k hk
theorem PAS.is : IsO B (fun W F => PAS B W b F most rp tk L so n) := by
  refine ⟨fun {W W' F X} h hk hX => ?_, fun {W F k} h hF => ?_⟩
  · obtain ⟨Fs, h1, h2, h3, h4⟩ := h.qs
    exact ⟨h.big, h.rc.kept hk (hX b ((h4 b).2 (.inl rfl))), Fs, fun i hi => (h1 i hi).kept hk (fun k hk => hX k ((h4 k).2 (.inr ⟨i, hi, hk⟩))), h2, h3, h4⟩
  · obtain ⟨Fs, h1, h2, h3, h4⟩ := h.qs
    rcases (h4 k).1 hF with rfl | ⟨i, hi, hk⟩
    · exact ⟨h.big, h.rc.lt⟩
    · exact (h1 i hi).foot k hk
theorem PAS.far (h : PAS B w b F most rp tk L so n) (hb : Below w.heap.size w w') : PAS B w' b F most rp tk L so n := (PAS.is).far h hb
theorem PAS.self (h : PAS B w b F most rp tk L so n) : F b := by
  obtain ⟨Fs, h1, h2, h3, h4⟩ := h.qs
  exact (h4 b).2 (.inl rfl)
/-- An act on the queue of one level. -/
theorem PAS.act (h : PAS B w b F most rp tk L so n) {i : Nat} (hi : i < 64) {q : Nat} (hq : rp i = some q) {fn : FuncId} {args : Array Value} {r : Value} {t' : Int} {L' : List (Int × ByteArray)}
    (hc : ∀ F, QAS B w q F (mostA most) (tk i) (L i) → Calls Tryd.prog fn args w (fun e w' => e = .returned r ∧ QRS B q F (mostA most) t' L' w w')) :
    Calls Tryd.prog fn args w (fun e w' => e = .returned r ∧ After (fun W F => PAS B W b F most rp (updN tk i t') (updN L i L') so n) F w w') := by
  obtain ⟨Fs, h1, h2, h3, h4⟩ := h.qs
  have hi1 := h1 i hi
  rw [hq] at hi1
  refine (hc (Fs i) hi1).mono ?_
  rintro _ w' ⟨rfl, F', g1, g2, g3⟩
  have hlt : ∀ j, j < 64 → ∀ k, Fs j k → k < w.heap.size := fun j hj k hk => ((h1 j hj).foot k hk).2
  refine ⟨rfl, fun k => k = b ∨ ∃ j, j < 64 ∧ updN Fs i F' j k, ⟨h.big, h.rc.kept g3 (h3 i hi), updN Fs i F', fun j hj => ?_, fun j l hj hl hne k hk hk' => ?_, fun j hj hb => ?_, fun k => Iff.rfl⟩, fun k hk => ?_, g3.mono (fun k _ hk => (h4 k).2 (.inr ⟨i, hi, hk⟩))⟩
  · by_cases e : j = i
    · subst e
      rw [hq, updN_same, updN_same, updN_same]; exact g1
    · rw [updN_ne _ _ e, updN_ne _ _ e, updN_ne _ _ e]
      exact (h1 j hj).kept g3 (fun k hk => h2 j i hj hi e k hk)
  · by_cases e : j = i
    · subst e
      rw [updN_same] at hk
      rw [updN_ne _ _ (Ne.symm hne)] at hk'
      rcases g2 k hk with g | g
      · exact h2 j l hj hl hne k g hk'
      · have := hlt l hl k hk'; omega
    · rw [updN_ne _ _ e] at hk
      by_cases e2 : l = i
      · subst e2
        rw [updN_same] at hk'
        rcases g2 k hk' with g | g
        · exact h2 j l hj hl hne k hk g
        · have := hlt j hj k hk; omega
      · rw [updN_ne _ _ e2] at hk'
        exact h2 j l hj hl hne k hk hk'
  · by_cases e : j = i
    · subst e
      rw [updN_same] at hb
      rcases g2 b hb with g | g
      · exact h3 j hj g
      · have := h.rc.lt; omega
    · rw [updN_ne _ _ e] at hb
      exact h3 j hj hb
  · rcases hk with rfl | ⟨j, hj, hk⟩
    · exact .inl h.self
    · by_cases e : j = i
      · subst e
        rw [updN_same] at hk
        exact (g2 k hk).imp (fun g => (h4 k).2 (.inr ⟨j, hj, g⟩)) id
      · rw [updN_ne _ _ e] at hk
        exact .inl ((h4 k).2 (.inr ⟨j, hj, hk⟩))
/-- A store into the object itself, not into its rows. -/
theorem PAS.put (h : PAS B w b F most rp tk L so n) (o : Nat) (u : Value) {so' : Nat} {n' : Int} (he : (cellsP most rp so n).setIfInBounds o u = cellsP most rp so' n') :
    PAS B (w.setCell ⟨b, o, none⟩ u) b F most rp tk L so' n' ∧ Kept F w (w.setCell ⟨b, o, none⟩ u) := by
  obtain ⟨Fs, h1, h2, h3, h4⟩ := h.qs
  have hk : Kept (fun k => k = b) w (w.setCell ⟨b, o, none⟩ u) := (Kept.refl (fun k => k = b) w).setCell (p := ⟨b, o, none⟩) (.inr rfl) u
  refine ⟨⟨h.big, ?_, Fs, fun i hi => (h1 i hi).kept hk (fun k hk e => h3 i hi (by rw [← e]; exact hk)), h2, h3, h4⟩, hk.mono (fun k _ e => by rw [e]; exact h.self)⟩
  have := Rec.set h.rc o u
  rwa [he] at this
end

end Go.Proofs.YtngokihncjkiaaaDoor
namespace Go.Proofs.YtngokihncjkiaaaDoor
open Go.RowKit
attribute [local go_sem] Oper.semAt_some
section
variable {B : Nat} {w w' : World} {b : Nat} {F : Nat → Prop} {most : Int} {rp : Nat → Option Nat} {tk : Nat → Int} {L : Nat → List (Int × ByteArray)} {so : Nat} {n : Int}
theorem PAS.cell0 (h : PAS B w b F most rp tk L so n) : w.cell? ⟨b, 0, none⟩ = some (.int .i64 most) := by rw [Rec.cell h.rc 0, cellsP_0]
theorem PAS.row (h : PAS B w b F most rp tk L so n) {i : Nat} (hi : i < 64) : w.cell? ⟨b, 1 + i, none⟩ = some (ptrO (rp i)) := by rw [Rec.cell h.rc (1 + i), cellsP_row _ _ _ _ hi]
theorem PAS.sc (h : PAS B w b F most rp tk L so n) : w.cell? ⟨b, 65, none⟩ = some (.int .u64 (so : Int)) := by rw [Rec.cell h.rc 65, cellsP_65]
theorem PAS.cnt (h : PAS B w b F most rp tk L so n) : w.cell? ⟨b, 66, none⟩ = some (.int .i64 n) := by rw [Rec.cell h.rc 66, cellsP_66]
theorem PAS.setN (h : PAS B w b F most rp tk L so n) (n' : Int) : PAS B (w.setCell ⟨b, 66, none⟩ (.int .i64 n')) b F most rp tk L so n' ∧ Kept F w (w.setCell ⟨b, 66, none⟩ (.int .i64 n')) := h.put 66 _ (cellsP_set_n _ _ _ _ _)
theorem PAS.setS (h : PAS B w b F most rp tk L so n) (so' : Nat) : PAS B (w.setCell ⟨b, 65, none⟩ (.int .u64 (so' : Int))) b F most rp tk L so' n ∧ Kept F w (w.setCell ⟨b, 65, none⟩ (.int .u64 (so' : Int))) := h.put 65 _ (cellsP_set_so _ _ _ _ _)
theorem PAS.qa (h : PAS B w b F most rp tk L so n) {i : Nat} (hi : i < 64) {q : Nat} (hq : rp i = Option.some q) : ∃ G, QAS B w q G (mostA most) (tk i) (L i) := by
  obtain ⟨Fs, h1, _⟩ := h.qs
  have := h1 i hi
  rw [hq] at this
  exact ⟨_, this⟩
theorem PAS.no (h : PAS B w b F most rp tk L so n) {i : Nat} (hi : i < 64) (hq : rp i = Option.none) : L i = [] ∧ tk i = 0 := by
  obtain ⟨Fs, h1, _⟩ := h.qs
  have := h1 i hi
  rw [hq] at this
  exact ⟨this.1, this.2.1⟩
/-- A level has its queue from here on. -/
theorem PAS.newrow (h : PAS B w b F most rp tk L so n) {i : Nat} (hi : i < 64) (hq : rp i = Option.none) {q : Nat} {G : Nat → Prop} {s : Nat} (hs : w.heap.size ≤ s) (hb : Below w.heap.size w w') (hQ : QAS B w' q G (mostA most) 0 []) (hG : ∀ k, G k → s ≤ k) :
    PAS B (w'.setCell ⟨b, 1 + i, none⟩ (.pointer (Option.some ⟨q, 0, Option.none⟩))) b (fun k => F k ∨ G k) most (updN rp i (Option.some q)) tk L so n ∧ Kept F w (w'.setCell ⟨b, 1 + i, none⟩ (.pointer (Option.some ⟨q, 0, Option.none⟩))) := by
  have hself := h.self
  have hft : ∀ k, F k → k < w.heap.size := fun k hk => ((PAS.is).foot h hk).2
  have hlt := h.rc.lt
  obtain ⟨Fs, h1, h2, h3, h4⟩ := h.qs
  have hKp : Kept (fun k => k = b) w' (w'.setCell ⟨b, 1 + i, none⟩ (.pointer (Option.some ⟨q, 0, Option.none⟩))) := (Kept.refl (fun k => k = b) w').setCell (p := ⟨b, 1 + i, none⟩) (.inr rfl) _
  have hin := h1 i hi
  rw [hq] at hin
  refine ⟨⟨h.big, ?_, updN Fs i G, fun j hj => ?_, fun j l hj hl hne k hk hk' => ?_, fun j hj hb' => ?_, fun k => ?_⟩, ((Kept.of_below hb F).trans (hKp.mono (fun k _ e => by rw [e]; exact hself)))⟩
  · have := Rec.set (h.rc.below hb (Nat.le_refl _)) (1 + i) (.pointer (Option.some ⟨q, 0, Option.none⟩))
    rwa [cellsP_set_row _ _ _ _ hi] at this
  · by_cases e : j = i
    · subst e
      rw [updN_same, updN_same, hin.1, hin.2.1]
      exact QAS.kept hQ hKp (fun k hk e => by have := hG k hk; omega)
    · rw [updN_ne _ _ e, updN_ne _ _ e]
      exact (((h1 j hj).kept (Kept.of_below hb (fun _ => False)) (fun _ _ h => h))).kept hKp (fun k hk e => h3 j hj (by rw [← e]; exact hk))
  · by_cases e : j = i
    · subst e
      rw [updN_same] at hk
      rw [updN_ne _ _ (Ne.symm hne)] at hk'
      have := hG k hk
      have := ((h1 l hl).foot k hk').2
      omega
    · rw [updN_ne _ _ e] at hk
      by_cases e2 : l = i
      · subst e2
        rw [updN_same] at hk'
        have := hG k hk'
        have := ((h1 j hj).foot k hk).2
        omega
      · rw [updN_ne _ _ e2] at hk'
        exact h2 j l hj hl hne k hk hk'
  · by_cases e : j = i
    · subst e
      rw [updN_same] at hb'
      have := hG b hb'
      omega
    · rw [updN_ne _ _ e] at hb'
      exact h3 j hj hb'
  · constructor
    · rintro (hF | hg)
      · rcases (h4 k).1 hF with e | ⟨j, hj, hk⟩
        · exact .inl e
        · refine .inr ⟨j, hj, ?_⟩
          by_cases e : j = i
          · subst e; exact absurd hk (hin.2.2 k)
          · rw [updN_ne _ _ e]; exact hk
      · exact .inr ⟨i, hi, by rw [updN_same]; exact hg⟩
    · rintro (e | ⟨j, hj, hk⟩)
      · exact .inl ((h4 k).2 (.inl e))
      · by_cases e : j = i
        · subst e; rw [updN_same] at hk; exact .inr hk
        · rw [updN_ne _ _ e] at hk; exact .inl ((h4 k).2 (.inr ⟨j, hj, hk⟩))
end
set_option maxRecDepth 100000 in
theorem PNewS_any (B : Nat) (most : Int) (w : World) (hB : B ≤ w.heap.size) :
    Calls Tryd.prog 20 #[.int .i64 most] w (fun e w' => ∃ b F, e = .returned (.pointer (some ⟨b, 0, none⟩)) ∧ PAS B w' b F most (fun _ => none) (fun _ => 0) (fun _ => []) 0 0 ∧ (∀ k, F k → w.heap.size ≤ k) ∧ Below w.heap.size w w') := by
  have K := hid (show ∀ W, W = w.alloc (.cells (cellsP most (fun _ => none) 0 0) tPS) → ∃ F, PAS B W w.heap.size F most (fun _ => none) (fun _ => 0) (fun _ => []) 0 0 ∧ (∀ k, F k → w.heap.size ≤ k) ∧ Below w.heap.size w W from by
    rintro _ rfl
    exact ⟨fun k => k = w.heap.size, ⟨hB, Rec.new w _ _, fun _ _ => False, fun i hi => ⟨rfl, rfl, fun _ h => h⟩, fun _ _ _ _ _ _ h => h.elim, fun _ _ h => h, fun k => by simp⟩, fun k hk => by rw [hk]; exact Nat.le_refl _, (Below.refl _ _).alloc (Nat.le_refl _) _⟩)
  have hc : cellsP most (fun _ => none) 0 0 = (cellsP most (fun _ => none) 0 0) := rfl
  go_enter Tryd.func20, Tryd.ntmps20
  go_wp2
  go_ret
  obtain ⟨F, g1, g2, g3⟩ := K.out _ rfl
  first | exact ⟨_, rfl, F, g1, g2, g3⟩ | exact ⟨_, F, rfl, g1, g2, g3⟩
theorem PisS_in (b i : Nat) (hi : i < 64) (w : World) : Calls Tryd.prog 39 #[.pointer (some ⟨b, 0, none⟩), .int .i64 (i : Int)] w (Gives (.bool true) w) := by
  have h1 : (0 : Int) ≤ i := by omega
  have h2 : (i : Int) < 64 := by omega
  go_enter Tryd.func39, Tryd.ntmps39
  go_wp2
  go_ret
  exact Gives.refl rfl
theorem PisS_out (p : Option Addr) (i : Int) (hi : i < 0 ∨ 64 ≤ i) (w : World) : Calls Tryd.prog 39 #[.pointer p, .int .i64 i] w (Gives (.bool false) w) := by
  have hcase : decide (0 ≤ i) = false ∨ (decide (0 ≤ i) = true ∧ decide (i < 64) = false) := by
    rcases hi with h | h
    · exact .inl (by simp; omega)
    · exact .inr ⟨by simp; omega, by simp; omega⟩
  clear hi
  rcases hcase with h | ⟨h, h2⟩
  all_goals
    cases p
    all_goals
      go_enter Tryd.func39, Tryd.ntmps39
      go_wp2
      go_ret
      exact Gives.refl (by simp [*])
theorem PisS_nil (i : Int) (w : World) : Calls Tryd.prog 39 #[.pointer none, .int .i64 i] w (Gives (.bool false) w) := by
  go_enter Tryd.func39, Tryd.ntmps39
  go_wp2
  go_ret
  exact Gives.refl rfl
theorem PLenS_any {B : Nat} {w : World} {b : Nat} {F : Nat → Prop} {most : Int} {rp : Nat → Option Nat} {tk : Nat → Int} {L : Nat → List (Int × ByteArray)} {so : Nat} {n : Int} (h : PAS B w b F most rp tk L so n) : Calls Tryd.prog 25 #[.pointer (some ⟨b, 0, none⟩)] w (Gives (.int .i64 n) w) := by
  have q := h.cnt
  have hl := h.rc.lt
  clear h
  go_enter Tryd.func25, Tryd.ntmps25
  go_wp2
  go_ret
  exact Gives.refl rfl
theorem PLevelsS_any {B : Nat} {w : World} {b : Nat} {F : Nat → Prop} {most : Int} {rp : Nat → Option Nat} {tk : Nat → Int} {L : Nat → List (Int × ByteArray)} {so : Nat} {n : Int} (h : PAS B w b F most rp tk L so n) : Calls Tryd.prog 24 #[.pointer (some ⟨b, 0, none⟩)] w (Gives (.int .u64 (so : Int)) w) := by
  have q := h.sc
  have hl := h.rc.lt
  clear h
  go_enter Tryd.func24, Tryd.ntmps24
  go_wp2
  go_ret
  exact Gives.refl rfl

end Go.Proofs.YtngokihncjkiaaaDoor
namespace Go.Proofs.YtngokihncjkiaaaDoor
open Go.RowKit
attribute [local go_sem] Oper.semAt_some
set_option maxRecDepth 100000 in
set_option maxHeartbeats 1000000 in
theorem ProwS_any {B : Nat} {w : World} {b : Nat} {F : Nat → Prop} {most : Int} {rp : Nat → Option Nat} {tk : Nat → Int} {L : Nat → List (Int × ByteArray)} {so : Nat} {n : Int} (h : PAS B w b F most rp tk L so n) (hB : B ≤ w.heap.size) {i : Nat} (hi : i < 64) :
    Calls Tryd.prog 40 #[.pointer (some ⟨b, 0, none⟩), .int .i64 (i : Int)] w (fun e w' => ∃ q, e = .returned (.pointer (some ⟨q, 0, none⟩)) ∧ After (fun W F => PAS B W b F most (updN rp i (some q)) tk L so n) F w w') := by
  have H := hid h
  have hl := h.rc.lt
  have c1 := h.row hi
  have c0 := h.cell0
  have hi1 : (i : Int) < 64 := by omega
  have hi0 : (0 : Int) ≤ i := by omega
  cases hq : rp i with
  | some q =>
    rw [hq] at c1
    have c1' : w.cell? ⟨b, 1 + i, none⟩ = some (.pointer (some ⟨q, 0, none⟩)) := c1
    have HR := hid (show updN rp i (some q) = rp by rw [← hq, updN_self])
    clear h c1 c0 hq
    go_enter Tryd.func40, Tryd.ntmps40
    go_wp2
    go_ret
    refine ⟨q, rfl, F, ?_, fun k hk => .inl hk, Kept.refl _ _⟩
    rw [HR.out]; exact H.out
  | none =>
    rw [hq] at c1
    have c1' : w.cell? ⟨b, 1 + i, none⟩ = some (.pointer none) := c1
    have HQ := hid hq
    have HN := hid (fun W (hW : Below w.heap.size w W) => QNewS_any B most W (Nat.le_trans hB hW.size))
    have HC := hid (fun W (hW : Below w.heap.size w W) => show W.cell? ⟨b, 0, none⟩ = some (.int .i64 most) ∧ W.cell? ⟨b, 1 + i, none⟩ = some (.pointer none) ∧ W.frozen? ⟨b, 1 + i, none⟩ = false ∧ b < W.heap.size from ⟨below_cell hW (Nat.le_refl _) _ _ c0, below_cell hW (Nat.le_refl _) _ _ c1', Rec.frozen (h.rc.below hW (Nat.le_refl _)) (1 + i), (h.rc.below hW (Nat.le_refl _)).lt⟩)
    clear h c1 hq
    go_enter Tryd.func40, Tryd.ntmps40
    go_wp2_with fail
    clear c1'
    go_region_held3 (fun W => W.cell? ⟨b, 0, none⟩ = some (.int .i64 most)) (first | (simp [go_sem, *]; done)) (first | (go_at_call 58; refine (HN.out _ (Below.refl _ _).drew).mono ?_; rintro _ w3 ⟨q, G, rfl, hq, hg, hb3⟩; have HB3 := hid (show Below w.heap.size w w3 from (Below.refl _ w).drew.trans hb3); have HQA := hid hq; have HG := hid hg; obtain ⟨d0, d1, f1, lt1⟩ := HC.out _ HB3.out; clear hq hg hb3))
    rename_i hHeld
    clear hHeld d0 d1 f1 lt1 c0
    obtain ⟨g1, g2⟩ := H.out.newrow hi HQ.out (s := w.heap.size) (Nat.le_refl _) HB3.out HQA.out (fun k hk => HG.out k hk)
    obtain ⟨w4, ew4⟩ : ∃ W, W = w3.setCell ⟨b, 1 + i, none⟩ (.pointer (some ⟨q, 0, none⟩)) := ⟨_, rfl⟩
    rw [← ew4] at g1 g2 ⊢
    have c2 := g1.row hi
    rw [updN_same] at c2
    have c3 : w4.cell? ⟨b, 1 + i, none⟩ = some (.pointer (some ⟨q, 0, none⟩)) := c2
    have hl4 := g1.rc.lt
    have G1 := hid g1
    have G2 := hid g2
    clear g1 g2 c2 ew4
    go_wp2_with fail
    go_ret
    exact ⟨q, rfl, _, G1.out, fun k hk => hk.imp id (fun hg => HG.out k hg), G2.out⟩
set_option maxRecDepth 100000 in
set_option maxHeartbeats 1000000 in
theorem PnoteS_any {B : Nat} {w : World} {b : Nat} {F : Nat → Prop} {most : Int} {rp : Nat → Option Nat} {tk : Nat → Int} {L : Nat → List (Int × ByteArray)} {so : Nat} {n : Int} (h : PAS B w b F most rp tk L so n) {i : Nat} (hi : i < 64) {q : Nat} (hq : rp i = some q) {f : Nat → Bool} (hso : IsSet so f) :
    Calls Tryd.prog 42 #[.pointer (some ⟨b, 0, none⟩), .int .i64 (i : Int)] w (fun e w' => (∃ v, e = .returned v) ∧ ∃ so', IsSet so' (updN f i (decide (L i ≠ []))) ∧ After (fun W F => PAS B W b F most rp tk L so' n) F w w') := by
  obtain ⟨r, hr1, hr2, hr3⟩ := Without_any so i hso.1 hi w
  have hrs := Without_set hso hr1 hr2
  have H := hid h
  have c65 := h.sc
  have f65 := Rec.frozen h.rc 65
  have hl := h.rc.lt
  have hi1 : (i : Int) < 64 := by omega
  have hi0 : (0 : Int) ≤ i := by omega
  have HW := hid (fun W => hr3 W)
  have HI := hid (fun W => With_any r i hr1 hi W)
  have HS1 := hid hrs
  have HP := hid (fun x : Past => (h.far (w.below_past x)).setS r)
  have HPF := hid (fun x : Past => (show (w.past x).cell? ⟨b, 65, none⟩ = some (.int .u64 (so : Int)) ∧ (w.past x).frozen? ⟨b, 65, none⟩ = false ∧ b < (w.past x).heap.size from ⟨(h.far (w.below_past x)).sc, Rec.frozen (h.far (w.below_past x)).rc 65, (h.far (w.below_past x)).rc.lt⟩))
  have HQ := hid hq
  obtain ⟨l, el⟩ : ∃ l, (L i).length = l := ⟨_, rfl⟩
  have EL := hid el
  clear h hq hr1 hr2 hr3 hrs hso el
  go_enter Tryd.func42, Tryd.ntmps42
  go_wp2_with fail
  refine (HW.out w).mono ?_
  rintro _ _ ⟨rfl, x1, rfl⟩
  obtain ⟨g1, g2⟩ := HP.out x1
  obtain ⟨c65', f65', hl'⟩ := HPF.out x1
  obtain ⟨w2, ew2⟩ : ∃ W, W = (w.past x1).setCell ⟨b, 65, none⟩ (.int .u64 (r : Int)) := ⟨_, rfl⟩
  rw [← ew2] at g1 g2
  have EW2 := hid ew2
  have G1 := hid g1
  have HK2 := hid (show Kept F w w2 from (Kept.of_below (w.below_past x1) F).trans g2)
  clear ew2 g1 g2 c65 f65 hl HP HPF HW
  go_upto_region 1 with (fail)
  rw [← EW2.out]
  clear c65' f65' hl' EW2
  have c1 := G1.out.row hi
  rw [HQ.out] at c1
  have c1' : w2.cell? ⟨b, 1 + i, none⟩ = some (.pointer (some ⟨q, 0, none⟩)) := c1
  have hl2 := G1.out.rc.lt
  have HLN := hid (show Calls Tryd.prog 61 #[.pointer (some ⟨q, 0, none⟩)] w2 (Gives (.int .i64 (l : Int)) w2) from by
    obtain ⟨G, hG⟩ := G1.out.qa hi HQ.out
    have := QLenS_any hG
    rwa [EL.out] at this)
  have HX := hid (fun x : Past => (show (w2.past x).cell? ⟨b, 65, none⟩ = some (.int .u64 (r : Int)) ∧ (w2.past x).frozen? ⟨b, 65, none⟩ = false ∧ b < (w2.past x).heap.size from ⟨(G1.out.far (w2.below_past x)).sc, Rec.frozen (G1.out.far (w2.below_past x)).rc 65, (G1.out.far (w2.below_past x)).rc.lt⟩))
  clear c1
  by_cases hz : 0 < l
  · have hz1 : (0 : Int) < l := by omega
    go_wp2_with (first | (go_at_call 61; refine HLN.out.mono ?_; rintro _ _ ⟨rfl, x2, rfl⟩; obtain ⟨z1, z2, z3⟩ := HX.out x2) | (go_at_call 51; refine (HI.out _).mono ?_; rintro _ _ ⟨rfl, x3, rfl⟩; obtain ⟨z1, z2, z3⟩ := HX.out (x2.and x3)))
    go_end0
    obtain ⟨g3, g4⟩ := G1.out.setS (r ||| 2 ^ i)
    refine ⟨⟨_, rfl⟩, r ||| 2 ^ i, ?_, F, ?_, fun k hk => .inl hk, ?_⟩
    · have := With_set HS1.out hi
      refine ⟨this.1, fun j hj => (this.2 j hj).trans ?_⟩
      have hne : L i ≠ [] := by intro e; rw [e] at EL; have := EL.out; simp at this; omega
      by_cases e : j = i
      · subst e; rw [updN_same]; simp [hne]
      · rw [updN_ne _ _ e]; simp [e]
    · exact g3.far (World.below_past _ _)
    · exact (HK2.out.trans g4).trans (Kept.of_below (World.below_past _ _) F)
  · obtain rfl : l = 0 := by omega
    go_wp2_with (first | (go_at_call 61; refine HLN.out.mono ?_; rintro _ _ ⟨rfl, x2, rfl⟩))
    go_end0
    refine ⟨⟨_, rfl⟩, r, ?_, F, G1.out.far (w2.below_past x2), fun k hk => .inl hk, HK2.out.trans (Kept.of_below (w2.below_past x2) F)⟩
    have hne : L i = [] := List.eq_nil_of_length_eq_zero EL.out
    refine ⟨HS1.out.1, fun j hj => (HS1.out.2 j hj).trans ?_⟩
    by_cases e : j = i
    · subst e; rw [updN_same]; simp [hne]
    · rw [updN_ne _ _ e]; simp [e]

end Go.Proofs.YtngokihncjkiaaaDoor
namespace Go.Proofs.YtngokihncjkiaaaDoor
open Go.RowKit
attribute [local go_sem] Oper.semAt_some
/-- A queue of levels, whole. -/
def PQS (B : Nat) (w : World) (b : Nat) (F : Nat → Prop) (most : Int) (tk : Nat → Int) (L : Nat → List (Int × ByteArray)) : Prop :=
  ∃ rp so n, PAS B w b F most rp tk L so n ∧ IsSet so (fun i => decide (L i ≠ [])) ∧ n = (tot L : Int)
section
variable {B : Nat} {w w' : World} {b : Nat} {F : Nat → Prop} {most : Int} {tk : Nat → Int} {L : Nat → List (Int × ByteArray)}
theorem PQS.is : IsO B (fun W F => PQS B W b F most tk L) :=
  ⟨fun ⟨rp, so, n, h1, h2⟩ hk hX => ⟨rp, so, n, (PAS.is).kept h1 hk hX, h2⟩, fun ⟨rp, so, n, h1, h2⟩ hF => (PAS.is).foot h1 hF⟩
theorem PQS.far (h : PQS B w b F most tk L) (hb : Below w.heap.size w w') : PQS B w' b F most tk L := (PQS.is).far h hb
theorem set_updS {so : Nat} {i : Nat} {L' : List (Int × ByteArray)} (h : IsSet so (updN (fun j => decide (L j ≠ [])) i (decide (updN L i L' i ≠ [])))) : IsSet so (fun j => decide (updN L i L' j ≠ [])) := by
  refine ⟨h.1, fun j hj => (h.2 j hj).trans ?_⟩
  by_cases e : j = i
  · subst e; rw [updN_same]
  · rw [updN_ne _ _ e]
    show decide (L j ≠ []) = decide (updN L i L' j ≠ [])
    rw [updN_ne _ _ e]
end
set_option maxRecDepth 100000 in
set_option maxHeartbeats 1000000 in
theorem PPushS_any {B : Nat} {w : World} {b : Nat} {F : Nat → Prop} {most : Int} {tk : Nat → Int} {L : Nat → List (Int × ByteArray)} (h : PQS B w b F most tk L) (hB : B ≤ w.heap.size) {i : Nat} (hi : i < 64) (ht : tk i ≤ 1000000) (hT : tot L ≤ 1000000) (hr : ((L i).length : Int) < mostA most) (v : ByteArray) :
    Calls Tryd.prog 21 #[.pointer (some ⟨b, 0, none⟩), .int .i64 (i : Int), .string v] w (fun e w' => e = .returned (.int .i64 0) ∧ After (fun W F => PQS B W b F most (updN tk i (tk i + 1)) (updN L i (L i ++ [(tk i + 1, v)]))) F w w') := by
  obtain ⟨rp, so, n, hA, hS, hn⟩ := h
  have HIS := hid (PisS_in b i hi w)
  have HROW := hid (fun x : Past => ProwS_any (hA.far (w.below_past x)) (Nat.le_trans hB (w.below_past x).size) hi)
  have HTOT := hid (tot_upd L hi (L i ++ [(tk i + 1, v)]))
  have HS := hid hS
  have HN := hid hn
  obtain ⟨t, et⟩ : ∃ t, tk i = t := ⟨_, rfl⟩
  have HT := hid et
  have hnb : n + 1 ≤ 2000000 ∧ 0 ≤ n := by omega
  have e1 : IntKind.i64.wrap (n + 1) = n + 1 := by rw [IntKind.wrap_i64]; omega
  clear hA hS hn hnb
  go_enter Tryd.func21, Tryd.ntmps21
  go_wp2_with fail
  refine HIS.out.mono ?_
  rintro _ _ ⟨rfl, x1, rfl⟩
  go_wp2_with fail
  refine (HROW.out x1).mono ?_
  rintro _ w2 ⟨q, rfl, F1, g1, g2, g3⟩
  have HK1 := hid (show Kept F w w2 from (Kept.of_below (w.below_past x1) F).trans g3)
  have HF1 := hid (show ∀ k, F1 k → F k ∨ w.heap.size ≤ k from fun k hk => (g2 k hk).imp id (fun g => Nat.le_trans (w.below_past x1).size g))
  have HPU := hid (show Calls Tryd.prog 41 #[.pointer (some ⟨q, 0, none⟩), .string v] w2 (fun e w' => e = .returned (.tuple #[.int .i64 (tk i + 1), .int .i64 0]) ∧ After (fun W F => PAS B W b F most (updN rp i (some q)) (updN tk i (tk i + 1)) (updN L i (L i ++ [(tk i + 1, v)])) so n) F1 w2 w') from
    g1.act hi (updN_same _ _ _) (fun G hG => QPushS_any hG (Nat.le_trans hB HK1.out.size) (by rw [et]; exact (by omega)) hr v))
  clear g1 g2 g3 HIS HROW
  go_wp2_with fail
  refine HPU.out.mono ?_
  rintro _ w3 ⟨rfl, F2, g1, g2, g3⟩
  obtain ⟨p1, p2⟩ := g1.setN (n + 1)
  have c66 := g1.cnt
  have f66 := Rec.frozen g1.rc 66
  have hl3 := g1.rc.lt
  obtain ⟨w4, ew4⟩ : ∃ W, W = w3.setCell ⟨b, 66, none⟩ (.int .i64 (n + 1)) := ⟨_, rfl⟩
  rw [← ew4] at p1 p2
  have HK2 := hid g3
  have HF2 := hid g2
  have HP1 := hid p1
  have HP2 := hid p2
  have EW4 := hid ew4
  clear g1 g2 g3 p1 p2 ew4 HPU
  go_wp2_with fail
  rw [← EW4.out]
  have HNO := PnoteS_any HP1.out hi (updN_same _ _ _) HS.out
  refine HNO.mono ?_
  rintro _ w5 ⟨⟨v5, rfl⟩, so', hso', hAf⟩
  have HSO := hid hso'
  have HAF := hid hAf
  clear hso' hAf c66 f66 hl3
  go_wp2_with fail
  go_ret
  refine ⟨rfl, After.next (F1 := F2) (W1 := w4) (fun k hk => ?_) ?_ ?_⟩
  · rcases HF2.out k hk with e | e
    · exact HF1.out k e
    · exact .inr (Nat.le_trans HK1.out.size e)
  · refine (HK1.out.trans' HK2.out (fun k hk hF => ?_)).trans' HP2.out (fun k hk hF => ?_)
    · rcases HF1.out k hF with e | e
      · exact e
      · omega
    · rcases HF2.out k hF with e | e
      · rcases HF1.out k e with e | e
        · exact e
        · omega
      · have := HK1.out.size; omega
  · obtain ⟨F', a1, a2, a3⟩ := HAF.out
    refine ⟨F', ⟨_, so', n + 1, a1, set_updS HSO.out, ?_⟩, a2, a3⟩
    have h1 := HTOT.out
    have h2 := HN.out
    rw [List.length_append] at h1
    simp only [List.length_cons, List.length_nil] at h1
    omega

end Go.Proofs.YtngokihncjkiaaaDoor
namespace Go.Proofs.YtngokihncjkiaaaDoor
open Go.RowKit
attribute [local go_sem] Oper.semAt_some
set_option maxRecDepth 100000 in
set_option maxHeartbeats 1000000 in
/-- The level is full. -/
theorem PPushFS_any {B : Nat} {w : World} {b : Nat} {F : Nat → Prop} {most : Int} {tk : Nat → Int} {L : Nat → List (Int × ByteArray)} (h : PQS B w b F most tk L) (hB : B ≤ w.heap.size) {i : Nat} (hi : i < 64) (ht : tk i ≤ 1000000) (hr : mostA most ≤ ((L i).length : Int)) (v : ByteArray) :
    Calls Tryd.prog 21 #[.pointer (some ⟨b, 0, none⟩), .int .i64 (i : Int), .string v] w (fun e w' => e = .returned (.int .i64 3) ∧ After (fun W F => PQS B W b F most tk L) F w w') := by
  obtain ⟨rp, so, n, hA, hS, hn⟩ := h
  have HIS := hid (PisS_in b i hi w)
  have HROW := hid (fun x : Past => ProwS_any (hA.far (w.below_past x)) (Nat.le_trans hB (w.below_past x).size) hi)
  have HS := hid hS
  have HN := hid hn
  clear hA hS hn
  go_enter Tryd.func21, Tryd.ntmps21
  go_wp2_with fail
  refine HIS.out.mono ?_
  rintro _ _ ⟨rfl, x1, rfl⟩
  go_wp2_with fail
  refine (HROW.out x1).mono ?_
  rintro _ w2 ⟨q, rfl, F1, g1, g2, g3⟩
  have HK1 := hid (show Kept F w w2 from (Kept.of_below (w.below_past x1) F).trans g3)
  have HF1 := hid (show ∀ k, F1 k → F k ∨ w.heap.size ≤ k from fun k hk => (g2 k hk).imp id (fun g => Nat.le_trans (w.below_past x1).size g))
  have HPU := hid (show Calls Tryd.prog 41 #[.pointer (some ⟨q, 0, none⟩), .string v] w2 (fun e w' => e = .returned (.tuple #[.int .i64 0, .int .i64 3]) ∧ After (fun W F => PAS B W b F most (updN rp i (some q)) (updN tk i (tk i)) (updN L i (L i)) so n) F1 w2 w') from
    g1.act hi (updN_same _ _ _) (fun G hG => QPushFS_any hG (Nat.le_trans hB HK1.out.size) ht hr v))
  clear g1 g2 g3 HIS HROW
  go_wp2_with fail
  refine HPU.out.mono ?_
  rintro _ w3 ⟨rfl, hAf⟩
  have HAF := hid hAf
  clear hAf HPU
  go_wp2_with fail
  go_ret
  refine ⟨rfl, After.next HF1.out HK1.out ?_⟩
  obtain ⟨F', a1, a2, a3⟩ := HAF.out
  rw [updN_self, updN_self] at a1
  exact ⟨F', ⟨_, so, n, a1, HS.out, HN.out⟩, a2, a3⟩
/-- There is no such level. -/
theorem PPushNS_any (p : Option Addr) (i : Int) (hi : i < 0 ∨ 64 ≤ i) (v : ByteArray) (w : World) : Calls Tryd.prog 21 #[.pointer p, .int .i64 i, .string v] w (Gives (.int .i64 1) w) := by
  have HIS := hid (PisS_out p i hi w)
  go_enter Tryd.func21, Tryd.ntmps21
  go_wp2_with (go_at_call 39; refine HIS.out.mono ?_; rintro _ _ ⟨rfl, x1, rfl⟩)
  go_ret
  exact Gives.mk rfl (by (repeat (first | exact Below.refl _ _ | refine RowKit.Below.past ?_ _ | refine RowKit.Below.alloc' ?_ _ | refine RowKit.Below.drew' ?_ | refine RowKit.Below.drewN' ?_ _ | refine RowKit.Below.setCell' ?_ (by simp [go_sem]) _)))
theorem PPushS_nil (i : Int) (v : ByteArray) (w : World) : Calls Tryd.prog 21 #[.pointer none, .int .i64 i, .string v] w (Gives (.int .i64 1) w) := by
  have HIS := hid (PisS_nil i w)
  go_enter Tryd.func21, Tryd.ntmps21
  go_wp2_with (go_at_call 39; refine HIS.out.mono ?_; rintro _ _ ⟨rfl, x1, rfl⟩)
  go_ret
  exact Gives.mk rfl (by (repeat (first | exact Below.refl _ _ | refine RowKit.Below.past ?_ _ | refine RowKit.Below.alloc' ?_ _ | refine RowKit.Below.drew' ?_ | refine RowKit.Below.drewN' ?_ _ | refine RowKit.Below.setCell' ?_ (by simp [go_sem]) _)))
theorem PLenS_nil (w : World) : Calls Tryd.prog 25 #[.pointer none] w (Gives (.int .i64 0) w) := by
  go_enter Tryd.func25, Tryd.ntmps25
  go_wp2
  go_ret
  exact Gives.refl rfl
theorem PLevelsS_nil (w : World) : Calls Tryd.prog 24 #[.pointer none] w (Gives (.int .u64 0) w) := by
  go_enter Tryd.func24, Tryd.ntmps24
  go_wp2
  go_ret
  exact Gives.refl rfl
set_option maxRecDepth 100000 in
set_option maxHeartbeats 1000000 in
/-- The first one is taken off the first level that has some. -/
theorem PPopS_any {B : Nat} {w : World} {b : Nat} {F : Nat → Prop} {most : Int} {tk : Nat → Int} {L : Nat → List (Int × ByteArray)} (h : PQS B w b F most tk L) (hB : B ≤ w.heap.size) (ht : ∀ i, i < 64 → tk i ≤ 1000000) (hT : tot L ≤ 1000000) (hZ : Tz w) (hp : 0 < tot L) :
    ∃ (i : Nat) (x : Int × ByteArray) (R : List (Int × ByteArray)), i < 64 ∧ L i = x :: R ∧ (∀ j, j < i → L j = []) ∧
    Calls Tryd.prog 22 #[.pointer (some ⟨b, 0, none⟩)] w (fun e w' => e = .returned (.tuple #[.int .i64 (i : Int), .string x.2, .bool true]) ∧ After (fun W F => PQS B W b F most tk (updN L i R)) F w w') := by
  obtain ⟨rp, so, n, hA, hS, hn⟩ := h
  have hne : ∃ j, j < 64 ∧ L j ≠ [] := by
    apply Classical.byContradiction
    intro hno
    have : ∀ j, j < 64 → L j = [] := fun j hj => Classical.byContradiction fun e => hno ⟨j, hj, e⟩
    rw [tot_zero this] at hp
    omega
  obtain ⟨i, hi, hfi, hfj, hso0, hfirst⟩ := first_of hS (by obtain ⟨j, hj, e⟩ := hne; exact ⟨j, hj, by simpa using e⟩)
  have hfi' : L i ≠ [] := by simpa using hfi
  cases hL : L i with
  | nil => exact absurd hL hfi'
  | cons x R =>
  refine ⟨i, x, R, hi, hL, fun j hj => by have := hfj j hj; simpa using this, ?_⟩
  obtain ⟨q, hq⟩ : ∃ q, rp i = some q := by
    cases hr : rp i with
    | some q => exact ⟨q, rfl⟩
    | none => exact absurd (hA.no hi hr).1 hfi'
  have HLN := hid (PLenS_any hA)
  have HFI := hid (fun y : Past => hfirst (w.past y) (hZ.past y))
  have HA := hid (fun y : Past => hA.far (w.below_past y))
  have HX := hid (fun y : Past => (show (w.past y).cell? ⟨b, 65, none⟩ = some (.int .u64 (so : Int)) ∧ (w.past y).cell? ⟨b, 1 + i, none⟩ = some (.pointer (some ⟨q, 0, none⟩)) ∧ b < (w.past y).heap.size from ⟨(hA.far (w.below_past y)).sc, by have := (hA.far (w.below_past y)).row hi; rwa [hq] at this, (hA.far (w.below_past y)).rc.lt⟩))
  have HPP := hid (fun y : Past => (show Calls Tryd.prog 44 #[.pointer (some ⟨q, 0, none⟩)] (w.past y) (fun e w' => e = .returned (.tuple #[.string x.2, .bool true]) ∧ After (fun W F => PAS B W b F most rp (updN tk i (tk i)) (updN L i R) so n) F (w.past y) w') from
    (hA.far (w.below_past y)).act hi hq (fun G hG => by rw [hL] at hG; exact QPopS_any hG (Nat.le_trans hB (w.below_past y).size) (ht i hi))))
  have HTOT := hid (tot_upd L hi R)
  have HS := hid hS
  have HN := hid hn
  have HL := hid hL
  have HQ := hid hq
  have hn0 : ¬ n = 0 := by omega
  have hn1 : (n == 0) = false := by simp; omega
  have hnb : n ≤ 2000000 ∧ 1 ≤ n := by omega
  have e1 : IntKind.i64.wrap (n - 1) = n - 1 := by rw [IntKind.wrap_i64]; omega
  have hi1 : (i : Int) < 64 := by omega
  obtain ⟨v, ev⟩ : ∃ v, x.2 = v := ⟨_, rfl⟩
  rw [ev] at HPP
  rw [ev]
  clear hA hS hn hfi hfj hfi' hL hq ht hp hne hnb ev hfirst
  go_enter Tryd.func22, Tryd.ntmps22
  go_wp2_with fail
  refine HLN.out.mono ?_
  rintro _ _ ⟨rfl, x1, rfl⟩
  obtain ⟨z1, z2, z3⟩ := HX.out x1
  go_wp2_with fail
  refine (HFI.out x1).mono ?_
  rintro _ _ ⟨rfl, x2, rfl⟩
  obtain ⟨y1, y2, y3⟩ := HX.out (x1.and x2)
  clear z1 z2 z3
  go_wp2_with fail
  refine (HPP.out (x1.and x2)).mono ?_
  rintro _ w3 ⟨rfl, F2, g1, g2, g3⟩
  rw [updN_self] at g1
  obtain ⟨p1, p2⟩ := g1.setN (n - 1)
  have c66 := g1.cnt
  have f66 := Rec.frozen g1.rc 66
  have hl3 := g1.rc.lt
  obtain ⟨w4, ew4⟩ : ∃ W, W = w3.setCell ⟨b, 66, none⟩ (.int .i64 (n - 1)) := ⟨_, rfl⟩
  rw [← ew4] at p1 p2
  have HK2 := hid (show Kept F w w3 from (Kept.of_below (w.below_past _) F).trans g3)
  have HF2 := hid (show ∀ k, F2 k → F k ∨ w.heap.size ≤ k from fun k hk => (g2 k hk).imp id (fun g => Nat.le_trans (w.below_past _).size g))
  have HP1 := hid p1
  have HP2 := hid p2
  have EW4 := hid ew4
  clear g1 g2 g3 p1 p2 ew4 HPP y1 y2 y3 HX
  go_wp2_with fail
  rw [← EW4.out]
  have HNO := PnoteS_any HP1.out hi HQ.out HS.out
  refine HNO.mono ?_
  rintro _ w5 ⟨⟨v5, rfl⟩, so', hso', hAf⟩
  have HSO := hid hso'
  have HAF := hid hAf
  clear hso' hAf c66 f66 hl3 HNO
  go_wp2_with fail
  refine bodyPost_ret (v := .tuple #[.int .i64 (i : Int), .string v, .bool true]) (by simp [results, Tryd.results22, go_sem]) rfl ?_
  refine ⟨rfl, After.next HF2.out (HK2.out.trans' HP2.out (fun k hk hF => ?_)) ?_⟩
  · rcases HF2.out k hF with e | e
    · exact e
    · omega
  · obtain ⟨F', a1, a2, a3⟩ := HAF.out
    refine ⟨F', ⟨_, so', n - 1, a1, set_updS HSO.out, ?_⟩, a2, a3⟩
    have h1 := HTOT.out
    have h2 := HN.out
    rw [HL.out] at h1
    simp only [List.length_cons] at h1
    omega

end Go.Proofs.YtngokihncjkiaaaDoor
namespace Go.Proofs.YtngokihncjkiaaaDoor
open Go.RowKit
attribute [local go_sem] Oper.semAt_some
section
variable {B : Nat} {w w' : World} {b : Nat} {F : Nat → Prop} {most : Int} {rp : Nat → Option Nat} {tk : Nat → Int} {L : Nat → List (Int × ByteArray)} {so : Nat} {n : Int}
/-- An act on the queues of two levels. -/
theorem PAS.act2 (h : PAS B w b F most rp tk L so n) {i j : Nat} (hi : i < 64) (hj : j < 64) (hij : i ≠ j) {q p : Nat} (hq : rp i = some q) (hp : rp j = some p) {fn : FuncId} {args : Array Value} {r : Value} {t1 t2 : Int} {L1 L2 : List (Int × ByteArray)}
    (hc : ∀ F1 F2, QAS B w q F1 (mostA most) (tk i) (L i) → QAS B w p F2 (mostA most) (tk j) (L j) → (∀ k, F1 k → ¬ F2 k) → Calls Tryd.prog fn args w (fun e w' => e = .returned r ∧ ∃ G1 G2, QAS B w' q G1 (mostA most) t1 L1 ∧ QAS B w' p G2 (mostA most) t2 L2 ∧ (∀ k, G1 k → ¬ G2 k) ∧ (∀ k, G1 k ∨ G2 k → (F1 k ∨ F2 k) ∨ w.heap.size ≤ k) ∧ Kept (fun k => F1 k ∨ F2 k) w w')) :
    Calls Tryd.prog fn args w (fun e w' => e = .returned r ∧ After (fun W F => PAS B W b F most rp (updN (updN tk i t1) j t2) (updN (updN L i L1) j L2) so n) F w w') := by
  have hself := h.self
  have hbl := h.rc.lt
  obtain ⟨Fs, h1, h2, h3, h4⟩ := h.qs
  have hi1 := h1 i hi
  have hj1 := h1 j hj
  rw [hq] at hi1
  rw [hp] at hj1
  refine (hc (Fs i) (Fs j) hi1 hj1 (h2 i j hi hj hij)).mono ?_
  rintro _ w' ⟨rfl, G1, G2, g1, g2, g3, g4, g5⟩
  have hlt : ∀ l, l < 64 → ∀ k, Fs l k → k < w.heap.size := fun l hl k hk => ((h1 l hl).foot k hk).2
  have hX : ∀ l, l < 64 → l ≠ i → l ≠ j → ∀ k, Fs l k → ¬ (Fs i k ∨ Fs j k) := fun l hl h5 h6 k hk e => by
    rcases e with e | e
    · exact h2 l i hl hi h5 k hk e
    · exact h2 l j hl hj h6 k hk e
  have hXG : ∀ l, l < 64 → l ≠ i → l ≠ j → ∀ k, Fs l k → ¬ (G1 k ∨ G2 k) := fun l hl h5 h6 k hk e => by
    rcases g4 k e with e | e
    · exact hX l hl h5 h6 k hk e
    · have := hlt l hl k hk; omega
  have hi' : ∀ {α : Type} (f : Nat → α) (x y : α), updN (updN f i x) j y i = x := fun f x y => by rw [updN_ne _ _ hij, updN_same]
  have hj' : ∀ {α : Type} (f : Nat → α) (x y : α), updN (updN f i x) j y j = y := fun f x y => updN_same _ _ _
  have hl' : ∀ {α : Type} (f : Nat → α) (x y : α) (l : Nat), l ≠ i → l ≠ j → updN (updN f i x) j y l = f l := fun f x y l h5 h6 => by rw [updN_ne _ _ h6, updN_ne _ _ h5]
  have hb1 : ¬ (Fs i b ∨ Fs j b) := by
    rintro (e | e)
    · exact h3 i hi e
    · exact h3 j hj e
  have hcase : ∀ l, l = i ∨ l = j ∨ (l ≠ i ∧ l ≠ j) := fun l => by omega
  refine ⟨rfl, fun k => k = b ∨ ∃ l, l < 64 ∧ updN (updN Fs i G1) j G2 l k, ⟨h.big, h.rc.kept g5 hb1, updN (updN Fs i G1) j G2, fun l hl => ?_, fun l m hl hm hne k hk hk' => ?_, fun l hl hb => ?_, fun k => Iff.rfl⟩, fun k hk => ?_, g5.mono (fun k _ hk => (h4 k).2 (.inr (by rcases hk with hk | hk; exact ⟨i, hi, hk⟩; exact ⟨j, hj, hk⟩)))⟩
  · rcases hcase l with rfl | rfl | ⟨h5, h6⟩
    · rw [hq, hi', hi', hi']; exact g1
    · rw [hp, hj', hj', hj']; exact g2
    · rw [hl' _ _ _ l h5 h6, hl' _ _ _ l h5 h6, hl' _ _ _ l h5 h6]
      exact (h1 l hl).kept g5 (hX l hl h5 h6)
  · rcases hcase l with rfl | rfl | ⟨h5, h6⟩
    · rw [hi'] at hk
      rcases hcase m with rfl | rfl | ⟨h7, h8⟩
      · exact hne rfl
      · rw [hj'] at hk'
        exact g3 k hk hk'
      · rw [hl' _ _ _ m h7 h8] at hk'
        exact hXG m hm h7 h8 k hk' (.inl hk)
    · rw [hj'] at hk
      rcases hcase m with rfl | rfl | ⟨h7, h8⟩
      · rw [hi'] at hk'
        exact g3 k hk' hk
      · exact hne rfl
      · rw [hl' _ _ _ m h7 h8] at hk'
        exact hXG m hm h7 h8 k hk' (.inr hk)
    · rw [hl' _ _ _ l h5 h6] at hk
      rcases hcase m with rfl | rfl | ⟨h7, h8⟩
      · rw [hi'] at hk'
        exact hXG l hl h5 h6 k hk (.inl hk')
      · rw [hj'] at hk'
        exact hXG l hl h5 h6 k hk (.inr hk')
      · rw [hl' _ _ _ m h7 h8] at hk'
        exact h2 l m hl hm hne k hk hk'
  · rcases hcase l with rfl | rfl | ⟨h5, h6⟩
    · rw [hi'] at hb
      rcases g4 b (.inl hb) with e | e
      · exact hb1 e
      · omega
    · rw [hj'] at hb
      rcases g4 b (.inr hb) with e | e
      · exact hb1 e
      · omega
    · rw [hl' _ _ _ l h5 h6] at hb
      exact h3 l hl hb
  · rcases hk with rfl | ⟨l, hl, hk⟩
    · exact .inl hself
    · have key : ∀ k, G1 k ∨ G2 k → F k ∨ w.heap.size ≤ k := fun k hk => by
        rcases g4 k hk with (e | e) | e
        · exact .inl ((h4 k).2 (.inr ⟨i, hi, e⟩))
        · exact .inl ((h4 k).2 (.inr ⟨j, hj, e⟩))
        · exact .inr e
      rcases hcase l with rfl | rfl | ⟨h5, h6⟩
      · rw [hi'] at hk; exact key k (.inl hk)
      · rw [hj'] at hk; exact key k (.inr hk)
      · rw [hl' _ _ _ l h5 h6] at hk
        exact .inl ((h4 k).2 (.inr ⟨l, hl, hk⟩))
theorem PAS.pour (h : PAS B w b F most rp tk L so n) (hB : B ≤ w.heap.size) {i j : Nat} (hi : i < 64) (hj : j < 64) (hij : i ≠ j) {q p : Nat} (hq : rp i = some q) (hp : rp j = some p) (ht1 : tk i ≤ 1000000) (ht2 : tk j + 5000 ≤ 1000000) (hL1 : (L i).length ≤ 5000) (hL2 : (L j).length ≤ 5000) {K : Nat} (hK : pourN 4096 (mostA most) (L i) (L j) = K) :
    Calls Tryd.prog 45 #[.pointer (some ⟨q, 0, none⟩), .pointer (some ⟨p, 0, none⟩), .int .i64 4096] w (fun e w' => e = .returned (.int .i64 (K : Int)) ∧ After (fun W F => PAS B W b F most rp (updN (updN tk i (tk i)) j (tk j + K)) (updN (updN L i ((L i).drop K)) j (L j ++ tkt (tk j) ((L i).take K))) so n) F w w') := by
  refine h.act2 hi hj hij hq hp (fun F1 F2 a1 a2 a3 => ?_)
  have hqk : QKS B (fun k => F1 k ∨ F2 k) w w q p (mostA most) (mostA most) (tk i) (tk j) (L i) (L j) := ⟨hB, Kept.refl _ _, F1, F2, a1, a2, a3, fun k h => .inl (.inl h), fun k h => .inl (.inr h)⟩
  have := PourKS_any hqk ht1 ht2 hL1 hL2 4096 (by unfold I64; omega)
  rw [hK] at this
  refine this.mono ?_
  rintro _ w' ⟨rfl, hw⟩
  obtain ⟨G1, G2, c1, c2, c3, c4, c5⟩ := hw.ex
  exact ⟨rfl, G1, G2, c1, c2, c3, fun k hk => hk.elim (c4 k) (c5 k), hw.kp⟩
end

end Go.Proofs.YtngokihncjkiaaaDoor
namespace Go.Proofs.YtngokihncjkiaaaDoor
open Go.RowKit
attribute [local go_sem] Oper.semAt_some
set_option maxRecDepth 100000 in
set_option maxHeartbeats 2000000 in
theorem PLiftS_any {B : Nat} {w : World} {b : Nat} {F : Nat → Prop} {most : Int} {tk : Nat → Int} {L : Nat → List (Int × ByteArray)} (h : PQS B w b F most tk L) (hB : B ≤ w.heap.size) {i j : Nat} (hi : i < 64) (hj : j < 64) (hij : i ≠ j) (ht1 : tk i ≤ 1000000) (ht2 : tk j + 5000 ≤ 1000000) (hL1 : (L i).length ≤ 5000) (hL2 : (L j).length ≤ 5000) {K : Nat} (hK : pourN 4096 (mostA most) (L i) (L j) = K) :
    Calls Tryd.prog 23 #[.pointer (some ⟨b, 0, none⟩), .int .i64 (i : Int), .int .i64 (j : Int)] w (fun e w' => e = .returned (.int .i64 (K : Int)) ∧ After (fun W F => PQS B W b F most (updN (updN tk i (tk i)) j (tk j + K)) (updN (updN L i ((L i).drop K)) j (L j ++ tkt (tk j) ((L i).take K)))) F w w') := by
  obtain ⟨rp, so, n, hA, hS, hn⟩ := h
  have HIS := hid (fun (i : Nat) (hi : i < 64) (W : World) => PisS_in b i hi W)
  have HR0 := hid (fun x : Past => (Rl.refl F w).far (w.below_past x))
  have HA0 := hid (fun x : Past => hA.far (w.below_past x))
  have HIJ := hid hij
  have HS := hid hS
  have HN := hid hn
  have hle : K ≤ (L i).length := by rw [← hK]; unfold pourN; omega
  have HTOT := hid (show tot (updN (updN L i ((L i).drop K)) j (L j ++ tkt (tk j) ((L i).take K))) = tot L from by
    have t1 := tot_upd L hi ((L i).drop K)
    have t2 := tot_upd (updN L i ((L i).drop K)) hj (L j ++ tkt (tk j) ((L i).take K))
    rw [updN_ne _ _ (Ne.symm hij)] at t2
    rw [List.length_append, tkt_length, List.length_take] at t2
    rw [List.length_drop] at t1
    omega)
  have HB := hid hB
  clear hA hS hn hij hle
  go_enter Tryd.func23, Tryd.ntmps23
  go_wp2_with fail
  refine (HIS.out i hi _).mono ?_
  rintro _ _ ⟨rfl, x1, rfl⟩
  go_wp2_with fail
  refine (HIS.out j hj _).mono ?_
  rintro _ _ ⟨rfl, x2, rfl⟩
  go_wp2_with fail
  refine (ProwS_any (HA0.out (x1.and x2)) (Nat.le_trans HB.out (w.below_past _).size) hi).mono ?_
  rintro _ w1 ⟨q, rfl, F1, a1, a2, a3⟩
  have HR1 := hid ((HR0.out (x1.and x2)).step a2 a3)
  have HA1 := hid a1
  clear a1 a2 a3 HR0 HA0 HIS
  go_wp2_with fail
  refine (ProwS_any HA1.out (Nat.le_trans HB.out HR1.out.kp.size) hj).mono ?_
  rintro _ w2 ⟨p, rfl, F2, a1, a2, a3⟩
  have HR2 := hid (HR1.out.step a2 a3)
  have HA2 := hid a1
  clear a1 a2 a3
  have hq : updN (updN rp i (some q)) j (some p) i = some q := by rw [updN_ne _ _ HIJ.out, updN_same]
  have hp : updN (updN rp i (some q)) j (some p) j = some p := updN_same _ _ _
  have HPO := hid (HA2.out.pour (Nat.le_trans HB.out HR2.out.kp.size) hi hj HIJ.out hq hp ht1 ht2 hL1 hL2 hK)
  have HQ := hid hq
  have HP := hid hp
  clear hq hp HA1
  go_wp2_with fail
  refine HPO.out.mono ?_
  rintro _ w3 ⟨rfl, F3, a1, a2, a3⟩
  have HR3 := hid (HR2.out.step a2 a3)
  have HA3 := hid a1
  clear a1 a2 a3 HPO
  go_wp2_with fail
  refine (PnoteS_any HA3.out hi HQ.out HS.out).mono ?_
  rintro _ w4 ⟨⟨v4, rfl⟩, so4, hs4, F4, a1, a2, a3⟩
  have HR4 := hid (HR3.out.step a2 a3)
  have HA4 := hid a1
  have HS4 := hid hs4
  clear a1 a2 a3 hs4
  go_wp2_with fail
  refine (PnoteS_any HA4.out hj HP.out HS4.out).mono ?_
  rintro _ w5 ⟨⟨v5, rfl⟩, so5, hs5, F5, a1, a2, a3⟩
  have HR5 := hid (HR4.out.step a2 a3)
  have HA5 := hid a1
  have HS5 := hid hs5
  clear a1 a2 a3 hs5
  go_wp2_with fail
  go_ret
  refine ⟨rfl, HR5.out.after ⟨_, so5, n, HA5.out, ⟨HS5.out.1, fun k hk => (HS5.out.2 k hk).trans ?_⟩, by rw [HTOT.out]; exact HN.out⟩⟩
  by_cases e : k = j
  · subst e; rw [updN_same]
  · rw [updN_ne _ _ e]
    by_cases e2 : k = i
    · subst e2; rw [updN_same]
    · rw [updN_ne _ _ e2]
      show decide (L k ≠ []) = decide (updN (updN L i ((L i).drop K)) j (L j ++ tkt (tk j) ((L i).take K)) k ≠ [])
      rw [updN_ne _ _ e, updN_ne _ _ e2]
theorem PourSameS_any (q : Nat) (n : Int) (w : World) : Calls Tryd.prog 45 #[.pointer (some ⟨q, 0, none⟩), .pointer (some ⟨q, 0, none⟩), .int .i64 n] w (Gives (.int .i64 0) w) := by
  obtain ⟨j, hj, hs⟩ := Option.map_eq_some_iff.1 info_qS
  have he := run_eql_ptr_same (P := Tryd.prog) (w := w) ⟨q, 0, none⟩ und_qS hj
  clear hj hs
  go_enter Tryd.func45, Tryd.ntmps45
  go_wp2
  go_ret
  exact Gives.refl rfl
set_option maxRecDepth 100000 in
set_option maxHeartbeats 2000000 in
/-- A level to itself. -/
theorem PLiftSameS_any {B : Nat} {w : World} {b : Nat} {F : Nat → Prop} {most : Int} {tk : Nat → Int} {L : Nat → List (Int × ByteArray)} (h : PQS B w b F most tk L) (hB : B ≤ w.heap.size) {i : Nat} (hi : i < 64) :
    Calls Tryd.prog 23 #[.pointer (some ⟨b, 0, none⟩), .int .i64 (i : Int), .int .i64 (i : Int)] w (fun e w' => e = .returned (.int .i64 0) ∧ After (fun W F => PQS B W b F most tk L) F w w') := by
  obtain ⟨rp, so, n, hA, hS, hn⟩ := h
  have HIS := hid (fun (W : World) => PisS_in b i hi W)
  have HR0 := hid (fun x : Past => (Rl.refl F w).far (w.below_past x))
  have HA0 := hid (fun x : Past => hA.far (w.below_past x))
  have HS := hid hS
  have HN := hid hn
  have HB := hid hB
  clear hA hS hn
  go_enter Tryd.func23, Tryd.ntmps23
  go_wp2_with fail
  refine (HIS.out _).mono ?_
  rintro _ _ ⟨rfl, x1, rfl⟩
  go_wp2_with fail
  refine (HIS.out _).mono ?_
  rintro _ _ ⟨rfl, x2, rfl⟩
  go_wp2_with fail
  refine (ProwS_any (HA0.out (x1.and x2)) (Nat.le_trans HB.out (w.below_past _).size) hi).mono ?_
  rintro _ w1 ⟨q, rfl, F1, a1, a2, a3⟩
  have HR1 := hid ((HR0.out (x1.and x2)).step a2 a3)
  have HA1 := hid a1
  have c1 : w1.cell? ⟨b, 1 + i, none⟩ = some (.pointer (some ⟨q, 0, none⟩)) := by
    have := a1.row hi
    rwa [updN_same] at this
  have hl1 := a1.rc.lt
  clear a1 a2 a3 HR0 HA0 HIS
  have HRW := hid (show Calls Tryd.prog 40 #[.pointer (some ⟨b, 0, none⟩), .int .i64 (i : Int)] w1 (fun e w' => e = .returned (.pointer (some ⟨q, 0, none⟩)) ∧ w' = w1) from by
    have hi1 : (i : Int) < 64 := by omega
    have hi0 : (0 : Int) ≤ i := by omega
    go_enter Tryd.func40, Tryd.ntmps40
    go_wp2
    go_ret
    exact ⟨rfl, rfl⟩)
  clear c1 hl1
  go_wp2_with fail
  refine HRW.out.mono ?_
  rintro _ wz ⟨rfl, hz⟩
  rw [hz]
  clear hz wz
  go_wp2_with fail
  refine (PourSameS_any q 4096 w1).mono ?_
  rintro _ _ ⟨rfl, x3, rfl⟩
  obtain ⟨w3, ew3⟩ : ∃ W, W = w1.past x3 := ⟨_, rfl⟩
  rw [← ew3]
  have hb3 : Below w1.heap.size w1 w3 := by rw [ew3]; exact w1.below_past x3
  have HR3 := hid (HR1.out.far hb3)
  have HA3 := hid (HA1.out.far hb3)
  clear ew3 hb3 HRW HR1 HA1
  go_wp2_with fail
  refine (PnoteS_any HA3.out hi (updN_same _ _ _) HS.out).mono ?_
  rintro _ w4 ⟨⟨v4, rfl⟩, so4, hs4, F4, a1, a2, a3⟩
  have HR4 := hid (HR3.out.step a2 a3)
  have HA4 := hid a1
  have HS4 := hid hs4
  clear a1 a2 a3 hs4
  go_wp2_with fail
  refine (PnoteS_any HA4.out hi (updN_same _ _ _) HS4.out).mono ?_
  rintro _ w5 ⟨⟨v5, rfl⟩, so5, hs5, F5, a1, a2, a3⟩
  have HR5 := hid (HR4.out.step a2 a3)
  have HA5 := hid a1
  have HS5 := hid hs5
  clear a1 a2 a3 hs5
  go_wp2_with fail
  go_ret
  refine ⟨rfl, HR5.out.after ⟨_, so5, n, HA5.out, ⟨HS5.out.1, fun k hk => (HS5.out.2 k hk).trans ?_⟩, HN.out⟩⟩
  by_cases e : k = i
  · subst e; rw [updN_same]
  · rw [updN_ne _ _ e, updN_ne _ _ e]
theorem PLiftNS_any (b : Nat) (i j : Int) (h : (i < 0 ∨ 64 ≤ i) ∨ (j < 0 ∨ 64 ≤ j)) (w : World) : Calls Tryd.prog 23 #[.pointer (some ⟨b, 0, none⟩), .int .i64 i, .int .i64 j] w (Gives (.int .i64 0) w) := by
  by_cases h1 : i < 0 ∨ 64 ≤ i
  · have HIS := hid (PisS_out (some ⟨b, 0, none⟩) i h1 w)
    clear h h1
    go_enter Tryd.func23, Tryd.ntmps23
    go_wp2_with (go_at_call 39; refine HIS.out.mono ?_; rintro _ _ ⟨rfl, x1, rfl⟩)
    go_ret
    exact Gives.mk rfl (by (repeat (first | exact Below.refl _ _ | refine RowKit.Below.past ?_ _ | refine RowKit.Below.alloc' ?_ _ | refine RowKit.Below.drew' ?_ | refine RowKit.Below.drewN' ?_ _ | refine RowKit.Below.setCell' ?_ (by simp [go_sem]) _)))
  · have h2 : j < 0 ∨ 64 ≤ j := h.resolve_left h1
    obtain ⟨i, rfl⟩ := Int.eq_ofNat_of_zero_le (show 0 ≤ i by omega)
    have HI1 := hid (PisS_in b i (by omega) w)
    have HI2 := hid (fun W => PisS_out (some ⟨b, 0, none⟩) j h2 W)
    clear h h1 h2
    go_enter Tryd.func23, Tryd.ntmps23
    go_wp2_with fail
    refine HI1.out.mono ?_
    rintro _ _ ⟨rfl, x1, rfl⟩
    go_wp2_with fail
    refine (HI2.out _).mono ?_
    rintro _ _ ⟨rfl, x2, rfl⟩
    go_wp2_with fail
    go_ret
    exact Gives.mk rfl (by (repeat (first | exact Below.refl _ _ | refine RowKit.Below.past ?_ _ | refine RowKit.Below.alloc' ?_ _ | refine RowKit.Below.drew' ?_ | refine RowKit.Below.drewN' ?_ _ | refine RowKit.Below.setCell' ?_ (by simp [go_sem]) _)))
theorem PLiftS_nil (i j : Int) (w : World) : Calls Tryd.prog 23 #[.pointer none, .int .i64 i, .int .i64 j] w (Gives (.int .i64 0) w) := by
  have HIS := hid (PisS_nil i w)
  go_enter Tryd.func23, Tryd.ntmps23
  go_wp2_with (go_at_call 39; refine HIS.out.mono ?_; rintro _ _ ⟨rfl, x1, rfl⟩)
  go_ret
  exact Gives.mk rfl (by (repeat (first | exact Below.refl _ _ | refine RowKit.Below.past ?_ _ | refine RowKit.Below.alloc' ?_ _ | refine RowKit.Below.drew' ?_ | refine RowKit.Below.drewN' ?_ _ | refine RowKit.Below.setCell' ?_ (by simp [go_sem]) _)))

end Go.Proofs.YtngokihncjkiaaaDoor
namespace Go.Proofs.YtngokihncjkiaaaDoor
open Go.RowKit
attribute [local go_sem] Oper.semAt_some
/-! A queue of levels that stands alone. -/
def PZS (B : Nat) (w0 W : World) (b : Nat) (most : Int) (tk : Nat → Int) (L : Nat → List (Int × ByteArray)) : Prop := B ≤ w0.heap.size ∧ Below B w0 W ∧ ∃ F, PQS B W b F most tk L
section
variable {B : Nat} {w0 W W' : World} {b : Nat} {most : Int} {tk tk' : Nat → Int} {L L' : Nat → List (Int × ByteArray)}
theorem PZS.size (h : PZS B w0 W b most tk L) : B ≤ W.heap.size := Nat.le_trans h.1 h.2.1.size
theorem PZS.far (h : PZS B w0 W b most tk L) (hb : Below W.heap.size W W') : PZS B w0 W' b most tk L := by
  obtain ⟨h1, h2, F, h3⟩ := h
  exact ⟨h1, h2.trans (hb.mono (Nat.le_trans h1 h2.size)), F, h3.far hb⟩
theorem PZS.act (h : PZS B w0 W b most tk L) {fn : FuncId} {args : Array Value} {r : Value}
    (hc : ∀ F, PQS B W b F most tk L → Calls Tryd.prog fn args W (fun e w' => e = .returned r ∧ After (fun W F => PQS B W b F most tk' L') F W w')) : Calls Tryd.prog fn args W (fun e w' => e = .returned r ∧ PZS B w0 w' b most tk' L') := by
  obtain ⟨h1, h2, F, h3⟩ := h
  refine (hc F h3).mono ?_
  rintro _ w' ⟨rfl, F', g1, g2, g3⟩
  exact ⟨rfl, h1, g3.to_below h2 (Nat.le_trans h1 h2.size) (fun k hk => ((PQS.is).foot h3 hk).1), F', g1⟩
theorem PZS.len (h : PZS B w0 W b most tk L) : Calls Tryd.prog 25 #[.pointer (some ⟨b, 0, none⟩)] W (Gives (.int .i64 (tot L : Int)) W) := by
  obtain ⟨h1, h2, F, rp, so, n, hA, hS, rfl⟩ := h
  exact PLenS_any hA
theorem PZS.levels (h : PZS B w0 W b most tk L) {s : Nat} (hs : IsSet s (fun i => decide (L i ≠ []))) : Calls Tryd.prog 24 #[.pointer (some ⟨b, 0, none⟩)] W (Gives (.int .u64 (s : Int)) W) := by
  obtain ⟨h1, h2, F, rp, so, n, hA, hS, rfl⟩ := h
  rw [hs.uniq hS]
  exact PLevelsS_any hA
end
theorem PZNewS_any (most : Int) (w : World) :
    Calls Tryd.prog 20 #[.int .i64 most] w (fun e w' => ∃ b, e = .returned (.pointer (some ⟨b, 0, none⟩)) ∧ PZS w.heap.size w w' b most (fun _ => 0) (fun _ => [])) :=
  (PNewS_any w.heap.size most w (Nat.le_refl _)).mono fun _ _ ⟨b, F, h1, h2, _, h4⟩ => ⟨b, h1, Nat.le_refl _, h4, F, _, 0, 0, h2, ⟨by omega, fun i _ => by simp⟩, by rw [tot_zero (fun _ _ => rfl)]; rfl⟩

def sA : ByteArray := ⟨#[97]⟩
def sB : ByteArray := ⟨#[98]⟩
def sC : ByteArray := ⟨#[99]⟩
abbrev LS := Nat → List (Int × ByteArray)
def aT1 : Nat → Int := updN (fun _ => 0) 3 1
def aL1 : LS := updN (fun _ => []) 3 [(1, sA)]
def aT2 : Nat → Int := updN aT1 1 1
def aL2 : LS := updN aL1 1 [(1, sB)]
def aT3 : Nat → Int := updN aT2 3 2
def aL3 : LS := updN aL2 3 [(1, sA), (2, sC)]
def aL4 : LS := updN aL3 1 []
def aT5 : Nat → Int := updN (updN aT3 3 2) 0 2
def aL5 : LS := updN (updN aL4 3 []) 0 [(1, sA), (2, sC)]
theorem aT3_nn (i : Nat) : aT3 i ≤ 1000000 := by
  unfold aT3 aT2 aT1
  by_cases h3 : i = 3
  · subst h3; decide
  rw [updN_ne _ _ h3]
  by_cases h1 : i = 1
  · subst h1; decide
  rw [updN_ne _ _ h1, updN_ne _ _ h3]
  show (0 : Int) ≤ 1000000
  omega
theorem aL5_nil (i : Nat) (h0 : i ≠ 0) : aL5 i = [] := by
  unfold aL5
  rw [updN_ne _ _ h0]
  by_cases h3 : i = 3
  · subst h3; rfl
  rw [updN_ne _ _ h3]
  unfold aL4
  by_cases h1 : i = 1
  · subst h1; rfl
  rw [updN_ne _ _ h1]
  unfold aL3
  rw [updN_ne _ _ h3]
  unfold aL2
  rw [updN_ne _ _ h1]
  unfold aL1
  rw [updN_ne _ _ h3]
set_option maxRecDepth 100000 in
set_option maxHeartbeats 4000000 in
theorem awake_any (w : World) (hZ : Tz w) : Calls Tryd.prog 5 #[] w (Gives (.bool true) w) := by
  have eB : (sB.toList == sB.toList) = true := by simp
  unfold sB at eB
  have HZ := hid hZ
  clear hZ
  go_enter Tryd.func5, Tryd.ntmps5
  go_upto_region 2 with (go_at_call 20; refine (PZNewS_any 5 w).mono ?_; rintro _ w1 ⟨b, rfl, h1⟩; have H1 := hid h1; clear h1)
  have HP1 := hid (show Calls Tryd.prog 21 #[.pointer (some ⟨b, 0, none⟩), .int .i64 3, .string sA] w1 (fun e w' => e = .returned (.int .i64 0) ∧ PZS w.heap.size w w' b 5 aT1 aL1) from
    H1.out.act (fun F hF => PPushS_any hF H1.out.size (i := 3) (by omega) (by decide) (by decide) (by decide) sA))
  unfold sA at HP1
  go_wp2_with fail
  refine HP1.out.mono ?_
  rintro _ w2 ⟨rfl, h2⟩
  have H2 := hid h2
  have HP2 := hid (show Calls Tryd.prog 21 #[.pointer (some ⟨b, 0, none⟩), .int .i64 1, .string sB] w2 (fun e w' => e = .returned (.int .i64 0) ∧ PZS w.heap.size w w' b 5 aT2 aL2) from
    H2.out.act (fun F hF => PPushS_any hF H2.out.size (i := 1) (by omega) (by decide) (by decide) (by decide) sB))
  unfold sB at HP2
  clear h2 HP1
  go_wp2_with fail
  refine HP2.out.mono ?_
  rintro _ w3 ⟨rfl, h3⟩
  have H3 := hid h3
  have HP3 := hid (show Calls Tryd.prog 21 #[.pointer (some ⟨b, 0, none⟩), .int .i64 3, .string sC] w3 (fun e w' => e = .returned (.int .i64 0) ∧ PZS w.heap.size w w' b 5 aT3 aL3) from
    H3.out.act (fun F hF => PPushS_any hF H3.out.size (i := 3) (by omega) (by decide) (by decide) (by decide) sC))
  unfold sC at HP3
  clear h3 HP2
  go_wp2_with fail
  refine HP3.out.mono ?_
  rintro _ w4 ⟨rfl, h4⟩
  have H4 := hid h4
  have HPP := hid (show Calls Tryd.prog 22 #[.pointer (some ⟨b, 0, none⟩)] w4 (fun e w' => e = .returned (.tuple #[.int .i64 1, .string sB, .bool true]) ∧ PZS w.heap.size w w' b 5 aT3 aL4) from
    H4.out.act (fun F hF => by
      obtain ⟨i, x, R, hi, hL, hj, hc⟩ := PPopS_any hF H4.out.size (fun i _ => aT3_nn i) (by decide) (HZ.out.below H4.out.2.1) (by decide)
      have hi1 : i = 1 := by
        have h1 : ¬ 1 < i := fun h => by have := hj 1 h; exact absurd this (by decide)
        have h2 : i ≠ 0 := fun e => by subst e; exact absurd hL (by simp [aL3, aL2, aL1, updN])
        omega
      subst hi1
      have e : aL3 1 = [(1, sB)] := rfl
      rw [e] at hL
      injection hL with e1 e2
      subst e1; subst e2
      exact hc))
  unfold sB at HPP
  clear h4 HP3
  go_upto_region 4 with (go_at_call 22; refine HPP.out.mono ?_; rintro _ w5 ⟨rfl, h5⟩; have H5 := hid h5; clear h5)
  have HLI := hid (show Calls Tryd.prog 23 #[.pointer (some ⟨b, 0, none⟩), .int .i64 3, .int .i64 0] w5 (fun e w' => e = .returned (.int .i64 2) ∧ PZS w.heap.size w w' b 5 aT5 aL5) from
    H5.out.act (fun F hF => PLiftS_any hF H5.out.size (i := 3) (j := 0) (K := 2) (by omega) (by omega) (by omega) (by decide) (by decide) (by decide) (by decide) (by decide)))
  clear HPP
  go_upto_region 5 with (go_at_call 23; refine HLI.out.mono ?_; rintro _ w6 ⟨rfl, h6⟩; have H6 := hid h6; clear h6)
  have HLV := hid (H6.out.levels (s := 1) ⟨by omega, fun i hi => by
    by_cases e : i = 0
    · subst e; rfl
    · show Nat.testBit 1 i = decide (aL5 i ≠ [])
      rw [aL5_nil i e]
      rw [show (1 : Nat) = 2 ^ 0 from rfl, Nat.testBit_two_pow_of_ne (fun h => e h.symm)]
      rfl⟩)
  have HLN := hid (fun x : Past => (H6.out.far (w6.below_past x)).len)
  rw [show tot aL5 = 2 by decide] at HLN
  have HB := hid H6.out.2.1
  clear HLI H6
  go_wp2_with (first | (go_at_call 24; refine HLV.out.mono ?_; rintro _ _ ⟨rfl, y1, rfl⟩) | (go_at_call 25; refine (HLN.out _).mono ?_; rintro _ _ ⟨rfl, y2, rfl⟩))
  go_ret
  exact Gives.mk rfl (HB.out.trans ((w6.below_past _).mono HB.out.size))
end Go.Proofs.YtngokihncjkiaaaDoor
