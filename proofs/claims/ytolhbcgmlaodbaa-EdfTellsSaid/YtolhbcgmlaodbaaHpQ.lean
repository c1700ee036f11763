/-
  Layer 04 (heaps), at this dump: heaps of pointers to ints: those that are due, one by one. No condition.
-/
import Derived.Test.YtolhbcgmlaodbaaHpP
import Derived.Test.YtolhbcgmlaodbaaRangeH
import Derived.Test.YtolhbcgmlaodbaaPastIn
import Derived.RangeFuncBox
import Derived.RangeFuncLeaves
import Derived.WalkKit
import Derived.OwnWalkIn
import Derived.TacticsInMore
import Derived.LoopNIn
import Derived.LoopIn
namespace Go.Proofs.Ytolhbcgmlaodbaa.HpI
open Go Go.RowKit Go.Proofs.Ytolhbcgmlaodbaa
attribute [local go_sem] Oper.semAt_some
section
variable {B : Nat} {w w' : World} {b mb : Nat} {most : Int} {l L : List (Hp.It A)}
theorem HP.ks {X : Nat → Prop} (h : HP B w b mb most L) (hk : KS X w w') (hn : ∀ k, hF b mb w k → ¬ X k) : HP B w' b mb most L ∧ ∀ k, hF b mb w' k → hF b mb w k := by
  obtain ⟨l, a1, a2, a3⟩ := h.ex
  obtain ⟨a, c, h1, h2⟩ := a1.ex
  have e1 := hk.block b h1.lt (hn b (.inl rfl))
  refine ⟨⟨⟨l, ⟨a1.big, a1.mbig, ⟨a, c, e1.trans h1, h2.1, ?_⟩, a1.mp.block (hk.block mb a1.mp.lt (hn mb (.inr (.inl rfl))))⟩, a2, a3⟩, h.good⟩, fun k hf => ?_⟩
  · rcases h2.2 with h3 | ⟨g, cap, cur, hv, hg, hh, hr⟩
    · exact .inl h3
    · have hv' := hv
      injection hv' with ea
      refine .inr ⟨g, cap, cur, hv, hg, (hk.block g (Array.getElem?_eq_some_iff.1 hh).1 (hn g (.inr (.inr ⟨l.length, c, ?_⟩)))).trans hh, hr⟩
      rw [Rec.cell h1 1, ea]
      rfl
  · rcases hf with h | h | h
    · exact .inl h
    · exact .inr (.inl h)
    · exact .inr (.inr (row_same e1 h))
theorem hF_lt (h : HP B w b mb most L) {k : Nat} (hk : hF b mb w k) : B ≤ k ∧ k < w.heap.size := by
  obtain ⟨l, a1, a2, a3⟩ := h.ex
  obtain ⟨a, c, h1, h2⟩ := a1.ex
  rcases hk with h | h | ⟨n', c', h⟩
  · rw [h]; exact ⟨a1.big, a1.lt⟩
  · rw [h]; exact ⟨a1.mbig, a1.mp.lt⟩
  · rw [Rec.cell h1 1] at h
    simp at h
    obtain ⟨rfl, -, -⟩ := h
    exact h2.lt k rfl
theorem HKept.ks {M : Nat → Prop} (h : HKept b mb w w') (hM : ∀ k, hF b mb w k → M k) : KS M w w' := ⟨h.kept.os, h.kept.tape, h.kept.output, h.kept.size, fun k hk hn => h.kept.block k hk (fun hf => hn (hM k hf))⟩
theorem hF_kept (h : HKept b mb w w') {k : Nat} (hf : hF b mb w' k) : hF b mb w k := by
  rcases hf with e | e | e
  · exact .inl e
  · exact .inr (.inl e)
  · exact .inr (.inr (h.row k e))
/-- These were taken off, one by one, and that is what is left. -/
inductive Took (u : Int) (L0 : List (Hp.It A)) : List (Hp.It A) → List (Hp.It A) → Prop
  | nil {L : List (Hp.It A)} (h : L0.Perm L) : Took u L0 [] L
  | snoc {pre L L' : List (Hp.It A)} {x : Hp.It A} (h : Took u L0 pre L) (hx : Least L x) (hu : x.v ≤ u) (hp : (x :: L').Perm L) : Took u L0 (pre ++ [x]) L'
theorem Took.perm {u : Int} {L0 pre : List (Hp.It A)} (h : Took u L0 pre L) : (pre ++ L).Perm L0 := by
  induction h with
  | nil h => exact h.symm
  | snoc h hx hu hp ih => 
    rw [List.append_assoc]
    exact (List.Perm.append_left _ hp).trans ih
theorem Took.length {u : Int} {L0 pre : List (Hp.It A)} (h : Took u L0 pre L) : pre.length + L.length = L0.length := by
  rw [← List.length_append]; exact h.perm.length_eq
abbrev encK (x : Hp.It A) : Array Value := #[.agg #[.int .u64 x.v, .int .i64 x.id], val x.x]
/-- What is left when the loop is over. -/
def dueS (B b mb : Nat) (most u : Int) (L0 : List (Hp.It A)) (w0 : World) (xs : List (Hp.It A)) (W : World) : Prop :=
  ∃ L, Took u L0 xs L ∧ (∀ y ∈ L, u < y.v) ∧ HP B W b mb most L ∧ ∀ k, hF b mb W k → hF b mb w0 k
def dueSp (B b mb : Nat) (most u : Int) (L0 : List (Hp.It A)) (w0 : World) (xs : List (Hp.It A)) (W : World) : Prop :=
  ∃ L, Took u L0 xs L ∧ HP B W b mb most L ∧ ∀ k, hF b mb W k → hF b mb w0 k
def duePre (u : Int) (L0 : List (Hp.It A)) (xs : List (Hp.It A)) : Prop := ∃ L, Took u L0 xs L
def lenAt (b : Nat) (w : World) : Nat := match w.cell? ⟨b, 1, none⟩ with | some (.slice _ n _) => n | _ => 0
theorem HP.lenIs (h : HP B w b mb most L) : lenAt b w = L.length := by
  obtain ⟨a, c, -, q1, -⟩ := h.cells
  unfold lenAt
  rw [q1]
structure DueR (B b mb : Nat) (most u : Int) (L0 : List (Hp.It A)) (w0 W : World) (Bh Bu : Nat) (pre L : List (Hp.It A)) (wr : World) : Prop where
  hp : HP B wr b mb most L
  took : Took u L0 pre L
  row : ∀ k, hF b mb wr k → hF b mb w0 k
  size : W.heap.size ≤ wr.heap.size
  bh : wr.cell? ⟨Bh, 0, none⟩ = some (.pointer (some ⟨b, 0, none⟩))
  bu : wr.cell? ⟨Bu, 0, none⟩ = some (.int .u64 u)
set_option maxRecDepth 100000 in
set_option maxHeartbeats 4000000 in
theorem due1_in (m : Nat) (hm : 1 ≤ m) (lp : Nat) (w0 : World) (Bh Bu : Nat) (u : Int) (L0 : List (Hp.It A)) (T : Nat → Prop) (hBh : w0.cell? ⟨Bh, 0, none⟩ = some (.pointer (some ⟨b, 0, none⟩))) (hBu : w0.cell? ⟨Bu, 0, none⟩ = some (.int .u64 u))
    (hTh : ¬ T Bh) (hTu : ¬ T Bu) (hMh : ¬ hF b mb w0 Bh) (hMu : ¬ hF b mb w0 Bu) (hP : HP B w0 b mb most L0) (hT : ∀ k, hF b mb w0 k → ¬ T k) (hB : B ≤ w0.heap.size)
    (J Jx : List (Hp.It A) → World → Prop) (W : World) (hW : KS T w0 W)
    (hJ : ∀ s A B, J s A → KS (hF b mb w0) A B → J s B)
    (hY : ∀ pre x W1, W.heap.size ≤ W1.heap.size → J pre W1 → pre.length < L0.length → duePre u L0 (pre ++ [x]) → YieldAt Fence.wide (m - 1) Try.prog lp (encK x) W1 fun e W' =>
      (e = .returned (.bool true) ∧ J (pre ++ [x]) W' ∧ KS (TT T w0.heap.size W.heap.size) W1 W') ∨ (e = .returned (.bool false) ∧ Jx (pre ++ [x]) W' ∧ KS (TT T w0.heap.size W.heap.size) W1 W'))
    (h0 : J [] W) :
    CallsIn Fence.wide m Try.prog 36 #[.func (.yield lp) #[] #[], .pointer (some ⟨Bh, 0, none⟩), .pointer (some ⟨Bu, 0, none⟩)] W fun e W' => (∃ v, e = .returned v) ∧
      ((∃ xs, dueS B b mb most u L0 w0 xs W' ∧ J xs W') ∨ (∃ pre, dueSp B b mb most u L0 w0 pre W' ∧ Jx pre W')) := by
  obtain ⟨hPW, hFW⟩ := hP.ks hW hT
  have HR := hid (show DueR B b mb most u L0 w0 W Bh Bu [] L0 W from ⟨hPW, .nil (List.Perm.refl _), hFW, Nat.le_refl _, hW.cell hTh hBh, hW.cell hTu hBu⟩)
  have HY := hid hY
  have HJ := hid hJ
  have HX := hid (show ∀ k, hF b mb w0 k → ¬ TT T w0.heap.size W.heap.size k from fun k hk => by
    rintro (h | h)
    · exact hT k hk h
    · have := (hF_lt hP hk).2; omega)
  have HB := hid (show ¬ TT T w0.heap.size W.heap.size Bh ∧ ¬ TT T w0.heap.size W.heap.size Bu from by
    have h1 := World.block_lt_of_cell? w0 _ hBh
    have h2 := World.block_lt_of_cell? w0 _ hBu
    simp only at h1 h2
    exact ⟨by rintro (h | h); exact hTh h; omega, by rintro (h | h); exact hTu h; omega⟩)
  have HM := hid (And.intro hMh hMu)
  have HBW := hid (show B ≤ W.heap.size by have := hW.size; omega)
  clear hPW hFW hY hJ hBh hBu hTh hTu hMh hMu hP hT hB hW
  refine callsIn_of_wp Try.func36 rfl trivial ?_ rfl
  simp only [Try.ntmps36, List.size_toArray, List.length_cons, List.length_nil, Nat.reduceAdd, Nat.reduceSub, Array.replicate_succ, Array.replicate_zero, List.push_toArray, List.append_toArray, List.nil_append, List.cons_append]
  gi_wp2
  gi_loopw [5] (fun _ wr => ∃ (pre L : List (Hp.It A)), J pre wr ∧ Hid (DueR B b mb most u L0 w0 W Bh Bu pre L wr)) (fun _ wr => lenAt b wr)
  case atStart => exact ⟨[], L0, h0, HR⟩
  case round =>
    clear h0 HR
    obtain ⟨pre, L, hJp, hR⟩ := hrel
    have cbh := hR.out.bh
    have cbu := hR.out.bu
    by_cases hl : 0 < L.length
    · have HPK := hid (Peek_some hR.out.hp hl)
      have HL := hid hl
      clear hl
      gi_wp2_with fail
      refine (callsIn_wide.2 HPK.out).mono ?_
      rintro _ w2 ⟨x, hx, rfl, hb2⟩
      have hP2 := hR.out.hp.far hb2
      have hlt2 := hb2.size
      have cbu2 := below_cell hb2 (Nat.le_refl _) _ _ cbu
      have cbh2 := below_cell hb2 (Nat.le_refl _) _ _ cbh
      have hlu := World.block_lt_of_cell? w2 _ cbu2
      have hlh := World.block_lt_of_cell? w2 _ cbh2
      simp only at hlu hlh
      obtain ⟨w3, ew3⟩ : ∃ w3, w3 = w2.alloc (.cells #[.int .u64 x.v, .int .i64 x.id] 71) := ⟨_, rfl⟩
      have hb3 : Below w2.heap.size w2 w3 := by rw [ew3]; exact (Below.refl _ _).alloc (Nat.le_refl _) _
      have hb23 := hb2.trans (hb3.mono hlt2)
      have hR3 : Rec w3 w2.heap.size 71 #[.int .u64 x.v, .int .i64 x.id] := by rw [ew3]; exact Rec.new w2 _ _
      have hP3 := hP2.far hb3
      have hN3 := new_out hP2 hb3 (Nat.le_refl _)
      obtain ⟨hPr, hFr⟩ := hR.out.hp.ks (X := fun _ => False) (KS.of_below hb23) (fun _ _ h => h)
      have HX2 := hid hx
      have HB23 := hid hb23
      have HR3 := hid hR3
      have HP3 := hid hP3
      have HN3 := hid hN3
      have HF3 := hid hFr
      have EW3 := hid ew3
      clear hPr hFr hx hb2 hb3 hb23 hR3 hP3 hN3 ew3 hP2 HPK cbu cbh
      by_cases hgt : u < x.v
      · have HGT := hid hgt
        gi_wp2_with fail
        rw [← EW3.out]
        refine bodyPost_ret (results_none rfl _ _ _) rfl ?_
        refine ⟨⟨_, rfl⟩, .inl ⟨pre, ⟨L, hR.out.took, fun y hy => ?_, HP3.out, fun k hk => hR.out.row k (HF3.out k hk)⟩, HJ.out _ _ _ hJp (KS.of_below HB23.out)⟩⟩
        have := HX2.out.2 y hy
        have := HGT.out
        unfold Hp.lt at *
        omega
      · have HGT := hid hgt
        gi_wp2_with fail
        rw [← EW3.out]
        refine (callsIn_wide.2 (Pop_some HP3.out HL.out (by have := HBW.out; have := hR.out.size; have := HB23.out.size; omega))).mono ?_
        rintro _ w4 ⟨x', rfl, hx', ⟨L', hp', hP4⟩, hb4, hk4⟩
        have hxv : x'.v ≤ u := by
          have h1 := HX2.out.2 x' hx'.1
          have h2 := hx'.2 x HX2.out.1
          unfold Hp.lt at h1 h2
          omega
        obtain ⟨s, es⟩ : ∃ s, w2.heap.size = s := ⟨_, rfl⟩
        have hR4 := HR3.out.kept hk4.kept HN3.out
        have hN4 : ¬ hF b mb w4 w2.heap.size := fun h => HN3.out (hF_kept hk4 h)
        rw [es] at hR4 hN4 hlt2 ⊢
        obtain ⟨Wy, eWy⟩ : ∃ Wy, Wy = (w4.setCell ⟨s, 0, none⟩ (.int .u64 x'.v)).setCell ⟨s, 1, none⟩ (.int .i64 x'.id) := ⟨_, rfl⟩
        have hRy : Rec Wy s 71 #[.int .u64 x'.v, .int .i64 x'.id] := by
          rw [eWy]
          have := (hR4.set 0 (.int .u64 x'.v)).set 1 (.int .i64 x'.id)
          simpa using this
        have hk45 : KS (fun k => k = s) w4 Wy := by
          rw [eWy]
          exact ((KS.refl (fun k => k = s) w4).setCell (b := s) rfl 0 _).setCell (b := s) rfl 1 _
        obtain ⟨hPy, hFy⟩ := hP4.ks hk45 (fun k hk e => hN4 (by rw [← e]; exact hk))
        have hFy0 : ∀ k, hF b mb Wy k → hF b mb w0 k := fun k hk => hR.out.row k (HF3.out k (hF_kept hk4 (hFy k hk)))
        have hKy : KS (hF b mb w0) wr Wy := by
          have h1 : KS (hF b mb w0) wr w4 := (KS.of_below HB23.out).trans (hk4.ks fun k hk => hR.out.row k (HF3.out k hk))
          rw [eWy]
          exact h1.far (((Below.refl _ _).setCell (p := ⟨s, 0, none⟩) hlt2 _).setCell (p := ⟨s, 1, none⟩) hlt2 _)
        have htk : Took u L0 (pre ++ [x']) L' := hR.out.took.snoc hx' hxv hp'
        have hlen := hR.out.took.length
        obtain ⟨fy, ty, asy, bdy, hyy, hRY⟩ := HY.out pre x' Wy (by have := hR.out.size; have := hKy.size; omega) (HJ.out _ _ _ hJp hKy) (by have := HL.out; omega) ⟨L', htk⟩
        have k0 := Rec.cell hR4 0
        have k1 := Rec.cell hR4 1
        have f0 := Rec.frozen hR4 0
        have f1 := Rec.frozen hR4 1
        have hls := Rec.lt hR4
        have y0 := Rec.cell hRy 0
        have y1 := Rec.cell hRy 1
        simp at k0 k1 y0 y1
        have HRY := hid hRY
        have HKy := hid hKy
        have HTK := hid htk
        have HPy := hid (And.intro hPy hFy0)
        have HLL := hid (show L'.length < L.length by have := hp'.length_eq; simp at this; omega)
        have EWy := hid eWy
        simp only [encK] at hyy
        have ES := hid es
        clear hRY hKy htk hPy hFy0 hFy hk45 hRy hp' hP4 hb4 hk4 hx' hxv hR4 hN4 eWy hlen es
        gi_wp2_with fail
        rw [← EWy.out, hyy]
        gi_wp2_with ((refine HRY.out.mono ?_; rintro e W3 hE; obtain ⟨bb, eE, hE2⟩ := yield_two' hE; clear hE; subst eE))
        · rename_i hb
          rcases hE2 with ⟨rfl, _⟩ | ⟨rfl, hJx, hk⟩
          · cases hb
          · refine bodyPost_ret (results_none rfl _ _ _) rfl ?_
            obtain ⟨h1, h2⟩ := HPy.out.1.ks hk (fun k hf => HX.out k (HPy.out.2 k hf))
            exact ⟨⟨_, rfl⟩, .inr ⟨_, ⟨L', HTK.out, h1, fun k hf => HPy.out.2 k (h2 k hf)⟩, hJx⟩⟩
        · rename_i hb
          rcases hE2 with ⟨rfl, hJ3, hk⟩ | ⟨rfl, _⟩
          · obtain ⟨h1, h2⟩ := HPy.out.1.ks hk (fun k hf => HX.out k (HPy.out.2 k hf))
            have e1 := h1.lenIs
            have e2 := hR.out.hp.lenIs
            have hs1 := hR.out.size
            have hs2 := HKy.out.size
            have hs3 := hk.size
            refine ⟨⟨_, L', hJ3, hid ⟨h1, HTK.out, fun k hf => HPy.out.2 k (h2 k hf), by omega, hk.cell HB.out.1 (HKy.out.cell HM.out.1 hR.out.bh), hk.cell HB.out.2 (HKy.out.cell HM.out.2 hR.out.bu)⟩⟩, ?_⟩
            rw [e1, e2]
            exact HLL.out
          · cases hb
    · have hL : L = [] := List.eq_nil_of_length_eq_zero (by omega)
      subst hL
      have HPK := hid (Peek_none hR.out.hp)
      clear hl
      gi_wp2_with ((gi_at_call 33; refine (callsIn_wide.2 HPK.out).mono ?_; rintro _ _ ⟨rfl, x9, rfl⟩))
      refine bodyPost_ret (results_none rfl _ _ _) rfl ?_
      have hb := (wr.below_past x9).trans (((Below.refl _ (wr.past x9)).alloc (Nat.le_refl _) (.cells #[.int .u64 0, .int .i64 0] 71)).mono (wr.below_past x9).size)
      obtain ⟨h1, h2⟩ := hR.out.hp.ks (X := fun _ => False) (KS.of_below hb) (fun _ _ h => h)
      exact ⟨⟨_, rfl⟩, .inl ⟨pre, ⟨[], hR.out.took, fun y hy => by simp at hy, h1, fun k hk => hR.out.row k (h2 k hk)⟩, HJ.out _ _ _ hJp (KS.of_below hb)⟩⟩
theorem due_seq (m : Nat) (hm : 1 ≤ m) (w0 : World) (Bh Bu : Nat) (u : Int) (L0 : List (Hp.It A)) (T : Nat → Prop) (hBh : w0.cell? ⟨Bh, 0, none⟩ = some (.pointer (some ⟨b, 0, none⟩))) (hBu : w0.cell? ⟨Bu, 0, none⟩ = some (.int .u64 u))
    (hTh : ¬ T Bh) (hTu : ¬ T Bu) (hMh : ¬ hF b mb w0 Bh) (hMu : ¬ hF b mb w0 Bu) (hP : HP B w0 b mb most L0) (hT : ∀ k, hF b mb w0 k → ¬ T k) (hB : B ≤ w0.heap.size) :
    SeqH Fence.wide m Try.prog 36 #[.pointer (some ⟨Bh, 0, none⟩), .pointer (some ⟨Bu, 0, none⟩)] encK T (hF b mb w0) (duePre u L0) (dueS B b mb most u L0 w0) (dueSp B b mb most u L0 w0) L0.length w0 :=
  fun lp J Jx W hW hJ _ hY h0 => due1_in m hm lp w0 Bh Bu u L0 T hBh hBu hTh hTu hMh hMu hP hT hB J Jx W hW hJ hY h0
theorem Due_any (bp : Option Addr) (u : Int) (w : World) :
    Calls Try.prog 30 #[.pointer bp, .int .u64 u] w (fun e w' => e = .returned (.func (.func 36) #[] #[.pointer (some ⟨w.heap.size, 0, none⟩), .pointer (some ⟨w.heap.size + 1, 0, none⟩)]) ∧
      Below w.heap.size w w' ∧ w'.heap.size = w.heap.size + 2 ∧ w'.cell? ⟨w.heap.size, 0, none⟩ = some (.pointer bp) ∧ w'.cell? ⟨w.heap.size + 1, 0, none⟩ = some (.int .u64 u)) := by
  go_enter Try.func30, Try.ntmps30
  go_wp2
  go_ret
  exact ⟨rfl, ((Below.refl _ w).alloc (Nat.le_refl _) _).alloc (by simp) _, by simp, by simp [go_sem], by simp [go_sem]⟩
end

section
variable {B : Nat} {w w' : World} {b mb : Nat} {most : Int} {l L : List (Hp.It A)}
theorem Took.le {u : Int} {L0 pre : List (Hp.It A)} (h : Took u L0 pre L) : ∀ y ∈ pre, y.v ≤ u := by
  induction h with
  | nil h => intro y hy; simp at hy
  | snoc h hx hu hp ih =>
    intro y hy
    rcases List.mem_append.1 hy with hy | hy
    · exact ih y hy
    · rw [List.mem_singleton.1 hy]; exact hu
/-- What was taken, and what else is due. -/
theorem Took.filt {u : Int} {L0 pre : List (Hp.It A)} (h : Took u L0 pre L) : (pre ++ L.filter (fun y => decide (y.v ≤ u))).Perm (L0.filter (fun y => decide (y.v ≤ u))) := by
  have h1 := (h.perm).filter (fun y => decide (y.v ≤ u))
  rw [List.filter_append, List.filter_eq_self.2 (fun y hy => by simpa using h.le y hy)] at h1
  exact h1
theorem Took.rest {u : Int} {L0 pre : List (Hp.It A)} (h : Took u L0 pre L) (hL : ∀ y ∈ L, u < y.v) : pre.Perm (L0.filter (fun y => decide (y.v ≤ u))) ∧ L.Perm (L0.filter (fun y => !decide (y.v ≤ u))) := by
  refine ⟨?_, ?_⟩
  · have h1 := h.filt
    rw [List.filter_eq_nil_iff.2 (fun y hy => by have := hL y hy; simp; omega), List.append_nil] at h1
    exact h1
  · have h1 := (h.perm).filter (fun y => !decide (y.v ≤ u))
    rw [List.filter_append, List.filter_eq_nil_iff.2 (fun y hy => by simpa using h.le y hy), List.nil_append, List.filter_eq_self.2 (fun y hy => by have := hL y hy; simp; omega)] at h1
    exact h1
theorem dueS_far {u : Int} {L0 xs : List (Hp.It A)} {w0 A' B' : World} {N : Nat} (hN : ∀ k, hF b mb w0 k → k < N) (h : dueS B b mb most u L0 w0 xs A') (hk : KS (fun k => N ≤ k) A' B') : dueS B b mb most u L0 w0 xs B' := by
  obtain ⟨L, h1, h2, h3, h4⟩ := h
  obtain ⟨h5, h6⟩ := h3.ks hk (fun k hf => by have := hN k (h4 k hf); omega)
  exact ⟨L, h1, h2, h5, fun k hf => h4 k (h6 k hf)⟩
theorem dueSp_far {u : Int} {L0 xs : List (Hp.It A)} {w0 A' B' : World} {N : Nat} (hN : ∀ k, hF b mb w0 k → k < N) (h : dueSp B b mb most u L0 w0 xs A') (hk : KS (fun k => N ≤ k) A' B') : dueSp B b mb most u L0 w0 xs B' := by
  obtain ⟨L, h1, h3, h4⟩ := h
  obtain ⟨h5, h6⟩ := h3.ks hk (fun k hf => by have := hN k (h4 k hf); omega)
  exact ⟨L, h1, h5, fun k hf => h4 k (h6 k hf)⟩
end

end Go.Proofs.Ytolhbcgmlaodbaa.HpI
