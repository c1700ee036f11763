/-
  Layer 25: a tally, and the total of many. No condition.
-/
import Derived.Test.YtdeejiiegmddaaaPast
import Derived.Test.YtdeejiiegmddaaaOwn
import Derived.Test.YtdeejiiegmddaaaObj
import Derived.Test.YtdeejiiegmddaaaTab
import Derived.Test.YtdeejiiegmddaaaFixq
import Derived.Deep.CutRange
import Derived.StillTailTactics
import Derived.Deep.RegionLaw
namespace Go.Proofs.Ytdeejiiegmddaaa
open Go Go.RowKit
structure Ty where
  id : Int
  d : Int
  p : Int
  a : Int
  b : Int
  e : Int
  wt : Int
instance : Inhabited Ty := ⟨⟨0, 0, 0, 0, 0, 0, 0⟩⟩
abbrev tTy : TypeId := 32
def tyV (x : Ty) : List Value := [.int .i64 x.id, .int .i64 x.d, .int .i64 x.p, .int .i64 x.a, .int .i64 x.b, .int .i64 x.e, .int .u64 x.wt]
theorem tyV_length (x : Ty) : (tyV x).length = 7 := rfl
def tyA (l : List Ty) (k : Nat) : Ty := l[k]?.getD default
theorem ty_get {l : List Ty} {k : Nat} (h : k < l.length) : l[k]? = some (tyA l k) := by simp [tyA, h]
theorem ty_at {w : World} {A : Option Addr} {D : List Ty} (h : Cells w A (tab tyV D)) {k : Nat} (hk : k < D.length) : ∃ g o : Nat, A = some ⟨g, o, none⟩ ∧ w.cell? ⟨g, o + k * 7, none⟩ = some (.int .i64 (tyA D k).id) ∧ w.cell? ⟨g, o + k * 7 + 1, none⟩ = some (.int .i64 (tyA D k).d) ∧ w.cell? ⟨g, o + k * 7 + 2, none⟩ = some (.int .i64 (tyA D k).p) ∧ w.cell? ⟨g, o + k * 7 + 3, none⟩ = some (.int .i64 (tyA D k).a) ∧ w.cell? ⟨g, o + k * 7 + 4, none⟩ = some (.int .i64 (tyA D k).b) ∧ w.cell? ⟨g, o + k * 7 + 5, none⟩ = some (.int .i64 (tyA D k).e) ∧ w.cell? ⟨g, o + k * 7 + 6, none⟩ = some (.int .u64 (tyA D k).wt) := by
  obtain ⟨g, o, rfl, hc⟩ := h.tab_at tyV_length (ty_get hk) (by omega)
  exact ⟨g, o, rfl, by simpa using hc 0 _ rfl, hc 1 _ rfl, hc 2 _ rfl, hc 3 _ rfl, hc 4 _ rfl, hc 5 _ rfl, hc 6 _ rfl⟩
def addT (t x : Ty) : Ty := ⟨t.id, IntKind.i64.wrap (t.d + x.d), IntKind.i64.wrap (t.p + x.p), IntKind.i64.wrap (t.a + x.a), IntKind.i64.wrap (t.b + x.b), IntKind.i64.wrap (t.e + x.e), addF t.wt x.wt⟩
theorem addF_u64 {a b : Int} (_ha : U64 a) (_hb : U64 b) : U64 (addF a b) := by
  unfold addF sumF U64 top64
  split <;> omega
def totK (l : List Ty) : Nat → Ty
  | 0 => ⟨-1, 0, 0, 0, 0, 0, 0⟩
  | k + 1 => addT (totK l k) (tyA l k)
theorem totK_in {l : List Ty} (h : ∀ x ∈ l, U64 x.wt) : ∀ k, U64 (totK l k).wt
  | 0 => by show U64 0; exact ⟨by decide, by decide⟩
  | k + 1 => by
    have h1 := totK_in h k
    have h2 : U64 (tyA l k).wt := by
      unfold tyA
      cases hk : l[k]? with
      | none => show U64 0; exact ⟨by decide, by decide⟩
      | some x => exact h x (List.mem_of_getElem? hk)
    exact addF_u64 h1 h2
set_option maxRecDepth 100000 in
set_option maxHeartbeats 4000000 in
theorem Total_any (A : Option Addr) (ca n : Nat) (l : List Ty) (en : l.length = n) (hn : n ≤ maxLen) (hl : ∀ x ∈ l, U64 x.wt) (w : World) (ha : Cells w A (tab tyV l)) :
    Calls Try.prog 13 #[.slice A n ca] w (Gives (.agg (tyV (totK l n)).toArray) w) := by
  have HA := hid ha
  have EN := hid en
  have HL := hid hl
  clear ha en hl
  go_enter Try.func13, Try.ntmps13
  go_upto_region 2 with (fail)
  obtain ⟨s, es⟩ : ∃ s, w.heap.size = s := ⟨_, rfl⟩
  obtain ⟨W0, eW0⟩ : ∃ W0, W0 = (w.alloc (.cells (tyV ⟨0, 0, 0, 0, 0, 0, 0⟩).toArray tTy)).alloc (.cells (tyV (totK l 0)).toArray tTy) := ⟨_, rfl⟩
  have hr2 : Rec W0 s tTy (tyV ⟨0, 0, 0, 0, 0, 0, 0⟩).toArray := by rw [eW0, ← es]; exact (Rec.new w _ _).alloc _
  have hr3 : Rec W0 (s + 1) tTy (tyV (totK l 0)).toArray := by
    have := Rec.new (w.alloc (.cells (tyV ⟨0, 0, 0, 0, 0, 0, 0⟩).toArray tTy)) tTy (tyV (totK l 0)).toArray
    rw [show (w.alloc (.cells (tyV ⟨0, 0, 0, 0, 0, 0, 0⟩).toArray tTy)).heap.size = s + 1 by rw [← es]; simp [go_sem]] at this
    rw [eW0]; exact this
  have hb0 : Below s w W0 := by rw [eW0, ← es]; exact ((Below.refl _ w).alloc (Nat.le_refl _) _).alloc (by simp [go_sem]) _
  have H0 := hid (And.intro hr2 (And.intro hr3 hb0))
  have ES := hid es
  have HAD := hid (fun (a b : Int) (ha : U64 a) (hb : U64 b) (W : World) => Add_any a b ha hb W)
  change Code.wp _ _ _ _ ((w.alloc (.cells (tyV ⟨0, 0, 0, 0, 0, 0, 0⟩).toArray tTy)).alloc (.cells (tyV (totK l 0)).toArray tTy))
  rw [← eW0, es]
  clear hr2 hr3 hb0 eW0 es
  go_wp2_with fail
  go_loopw [5, 9] (fun _ v wr => ∃ k : Nat, v = .int .i64 (k : Int) ∧ k ≤ n ∧ Hid (Rec wr s tTy (tyV ⟨0, 0, 0, 0, 0, 0, 0⟩).toArray ∧ Rec wr (s + 1) tTy (tyV (totK l k)).toArray ∧ Below s w wr)) (fun _ v _ => n - (intOf v).toNat)
  case atStart => exact ⟨0, rfl, Nat.zero_le _, H0⟩
  case round =>
    clear H0
    obtain ⟨k, rfl, hk, H⟩ := hrel
    by_cases hlt : k < n
    · obtain ⟨gA, oA, rfl, q0, q1, q2, q3, q4, q5, q6⟩ := ty_at (HA.out.below (by rw [ES.out]; exact H.out.2.2)) (k := k) (by rw [EN.out]; exact hlt)
      have HT := hid (show totK l (k + 1) = addT (totK l k) (tyA l k) from rfl)
      have hu1 := totK_in HL.out k
      have hu2 : U64 (tyA l k).wt := HL.out _ (List.mem_of_getElem? (ty_get (by rw [EN.out]; exact hlt)))
      obtain ⟨⟨xi, xd, xp, xa, xb, xe, xw⟩, ex⟩ : ∃ z, tyA l k = z := ⟨_, rfl⟩
      obtain ⟨⟨ti, td, tp, ta, tb, te, tw⟩, et⟩ : ∃ z, totK l k = z := ⟨_, rfl⟩
      rw [ex, et] at HT
      rw [et] at H hu1
      rw [ex] at hu2 q0 q1 q2 q3 q4 q5 q6
      simp only at hu1 hu2 q0 q1 q2 q3 q4 q5 q6
      have HAC := hid (fun W => HAD.out tw xw hu1 hu2 W)
      have e1 : IntKind.i64.wrap ((k : Int) + 1) = (k : Int) + 1 := by rw [IntKind.wrap_i64]; unfold maxLen at hn; omega
      have hgl := World.block_lt_of_cell? _ _ q0
      obtain ⟨K, eK⟩ : ∃ K, wr.heap.size = K := ⟨_, rfl⟩
      obtain ⟨w5, ew5⟩ : ∃ w5, w5 = wr.alloc (.cells (tyV ⟨xi, xd, xp, xa, xb, xe, xw⟩).toArray tTy) := ⟨_, rfl⟩
      have hsK : s + 1 < K := by rw [← eK]; exact H.out.2.1.lt
      have r5 : Rec w5 K tTy (tyV ⟨xi, xd, xp, xa, xb, xe, xw⟩).toArray := by rw [ew5, ← eK]; exact Rec.new wr _ _
      have H5 := hid (show Rec w5 s tTy (tyV ⟨0, 0, 0, 0, 0, 0, 0⟩).toArray ∧ Rec w5 (s + 1) tTy (tyV ⟨ti, td, tp, ta, tb, te, tw⟩).toArray ∧ Below s w w5 from by
        rw [ew5]; exact ⟨H.out.1.alloc _, H.out.2.1.alloc _, H.out.2.2.alloc (by rw [eK]; omega) _⟩)
      have R5 := hid r5
      have EW5 := hid ew5
      clear ex et hu1 hu2 ew5 r5 H
      simp only at hgl
      go_upto_region 5 with (fail)
      change Code.wp _ _ _ _ (wr.alloc (.cells (tyV ⟨xi, xd, xp, xa, xb, xe, xw⟩).toArray tTy))
      rw [← EW5.out]
      obtain ⟨b, eb⟩ : ∃ b, s + 1 = b := ⟨_, rfl⟩
      rw [eb] at H5 hsK ⊢
      have EB := hid eb
      have ht := H5.out.2.1
      have c1 := Rec.cell ht 1
      have c2 := Rec.cell ht 2
      have c3 := Rec.cell ht 3
      have c4 := Rec.cell ht 4
      have c5 := Rec.cell ht 5
      have c6 := Rec.cell ht 6
      have f1 := Rec.frozen ht 1
      have f2 := Rec.frozen ht 2
      have f3 := Rec.frozen ht 3
      have f4 := Rec.frozen ht 4
      have f5 := Rec.frozen ht 5
      have f6 := Rec.frozen ht 6
      have d1 := Rec.cell R5.out 1
      have d2 := Rec.cell R5.out 2
      have d3 := Rec.cell R5.out 3
      have d4 := Rec.cell R5.out 4
      have d5 := Rec.cell R5.out 5
      have d6 := Rec.cell R5.out 6
      have hl3 := ht.lt
      have hl5 := R5.out.lt
      have hne : ¬ K = b := by omega
      have hne2 : ¬ b = K := by omega
      simp [tyV] at c1 c2 c3 c4 c5 c6 d1 d2 d3 d4 d5 d6
      clear ht eb q0 q1 q2 q3 q4 q5 q6 eK hgl
      go_wp2_with (go_at_call 21; refine (HAC.out _).mono ?_; rintro _ _ ⟨rfl, y5, rfl⟩)
      have hbs : b ≠ s := by have := EB.out; omega
      have e7 : totK l (k + 1) = ⟨ti, IntKind.i64.wrap (td + xd), IntKind.i64.wrap (tp + xp), IntKind.i64.wrap (ta + xa), IntKind.i64.wrap (tb + xb), IntKind.i64.wrap (te + xe), addF tw xw⟩ := HT.out
      have hEB := EB.out
      subst hEB
      go_roundw
      case rel =>
        refine ⟨k + 1, by go_num, by omega, hid ⟨?_, ?_, ?_⟩⟩
        · exact Rec.past ((((((H5.out.1.set_other hbs _).set_other hbs _).set_other hbs _).set_other hbs _).set_other hbs _).set_other hbs _) _
        · rw [e7]
          have h7 := Rec.past ((((((H5.out.2.1.set 1 (.int .i64 (IntKind.i64.wrap (td + xd)))).set 2 (.int .i64 (IntKind.i64.wrap (tp + xp)))).set 3 (.int .i64 (IntKind.i64.wrap (ta + xa)))).set 4 (.int .i64 (IntKind.i64.wrap (tb + xb)))).set 5 (.int .i64 (IntKind.i64.wrap (te + xe)))).set 6 (.int .u64 (addF tw xw))) y5
          simp only [Go.IntWalk.i64_left] at h7 ⊢
          simpa [tyV] using h7
        · refine Below.trans ?_ (RowKit.Below.mono (World.below_past _ _) (by have := H5.out.1.lt; simp [go_sem]; omega))
          have h8 : s ≤ s + 1 := Nat.le_succ s
          repeat (first | exact H5.out.2.2 | refine Below.setCell ?_ (by exact h8) _)
      case measure => simp [intOf]; omega
    · obtain rfl : k = n := by omega
      have ht := H.out.2.1
      obtain ⟨⟨ti, td, tp, ta, tb, te, tw⟩, et⟩ : ∃ z, totK l k = z := ⟨_, rfl⟩
      have ET := hid et
      rw [et] at ht
      have c0 := Rec.cell ht 0
      have c1 := Rec.cell ht 1
      have c2 := Rec.cell ht 2
      have c3 := Rec.cell ht 3
      have c4 := Rec.cell ht 4
      have c5 := Rec.cell ht 5
      have c6 := Rec.cell ht 6
      have hl3 := ht.lt
      simp [tyV] at c0 c1 c2 c3 c4 c5 c6
      have hr := H.out.1
      have f0 := Rec.frozen hr 0
      have f1 := Rec.frozen hr 1
      have f2 := Rec.frozen hr 2
      have f3 := Rec.frozen hr 3
      have f4 := Rec.frozen hr 4
      have f5 := Rec.frozen hr 5
      have f6 := Rec.frozen hr 6
      have g0 := Rec.cell hr 0
      have g1 := Rec.cell hr 1
      have g2 := Rec.cell hr 2
      have g3 := Rec.cell hr 3
      have g4 := Rec.cell hr 4
      have g5 := Rec.cell hr 5
      have g6 := Rec.cell hr 6
      have hl2 := hr.lt
      simp [tyV] at g0 g1 g2 g3 g4 g5 g6
      have HR := hid hr
      clear hr ht et
      have HB := hid H.out.2.2
      clear H
      go_wp2_with fail
      refine bodyPost_ret (results_cell_row rfl _ _ s tTy (tyV ⟨ti, td, tp, ta, tb, te, tw⟩).toArray (0, 0) _ rfl ?rec Try.underlying32 rfl (by kernel_rfl)) rfl ?_
      case rec =>
        have h7 := ((((((HR.out.set 0 (.int .i64 ti)).set 1 (.int .i64 td)).set 2 (.int .i64 tp)).set 3 (.int .i64 ta)).set 4 (.int .i64 tb)).set 5 (.int .i64 te)).set 6 (.int .u64 tw)
        unfold Rec at h7
        simpa [tyV] using h7
      refine Gives.mk (by rw [ET.out]) ?_
      rw [ES.out]
      exact ((((((HB.out.setCell (p := ⟨s, 0, none⟩) (Nat.le_refl _) _).setCell (p := ⟨s, 1, none⟩) (Nat.le_refl _) _).setCell (p := ⟨s, 2, none⟩) (Nat.le_refl _) _).setCell (p := ⟨s, 3, none⟩) (Nat.le_refl _) _).setCell (p := ⟨s, 4, none⟩) (Nat.le_refl _) _).setCell (p := ⟨s, 5, none⟩) (Nat.le_refl _) _).setCell (p := ⟨s, 6, none⟩) (Nat.le_refl _) _
end Go.Proofs.Ytdeejiiegmddaaa
