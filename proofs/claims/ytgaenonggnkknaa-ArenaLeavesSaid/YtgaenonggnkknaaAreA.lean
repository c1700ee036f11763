/-
  Layer 02: the product's object in memory, and what its functions do. No condition.
-/
import Derived.Test.YtgaenonggnkknaaAreS
import Derived.Test.YtgaenonggnkknaaTabSet
import Derived.Test.YtgaenonggnkknaaLift
import Derived.Test.YtgaenonggnkknaaRows
import Derived.WalkKit
import Derived.WalkSpells
import Derived.WalkLawsBesides
import Derived.BigQuiet
namespace Go.Proofs.Ytgaenonggnkknaa
open Go.RowKit
def slV {α : Type} (f : α → List Value) (s : Slot α) : List Value := f s.1 ++ [.bool s.2.1, .int .i64 s.2.2]
theorem slV_length {α : Type} {f : α → List Value} {c : Nat} (hf : ∀ x, (f x).length = c) (s : Slot α) : (slV f s).length = c + 2 := by simp [slV, hf]
/-- The product's object, of the call's own. -/
structure ArAt {α : Type} (tA tS : TypeId) (f : α → List Value) (c : Nat) (B : Nat) (w : World) (b : Nat) (most : Int) (S : Ar α) : Prop where
  big : B ≤ b
  ex : ∃ A cp, Rec w b tA #[.int .i64 most, .slice A S.l.length cp, .int .i64 S.free, .int .i64 S.n] ∧ w.ownsRow B tS (c + 2) (.slice A S.l.length cp) S.l.length (tab (slV f) S.l)
section
variable {α : Type} {tA tS : TypeId} {f : α → List Value} {c B : Nat} {w w' : World} {b : Nat} {most : Int} {S : Ar α}
theorem ArAt.below (h : ArAt tA tS f c B w b most S) (hb : Below w.heap.size w w') : ArAt tA tS f c B w' b most S := by
  obtain ⟨A, cp, h1, h2⟩ := h.ex
  exact ⟨h.big, A, cp, h1.below hb (Nat.le_refl _), own_below h2 hb (Nat.le_refl _)⟩
theorem ArAt.lt (h : ArAt tA tS f c B w b most S) : b < w.heap.size := by
  obtain ⟨A, cp, h1, h2⟩ := h.ex
  exact Rec.lt h1
theorem ArAt.kept {b' : Nat} {ts : TypeId → Prop} {T : TypeId} {cs : Array Value} (h : ArAt tA tS f c B w b most S) (hk : KeptT b' ts w w') (hb : Rec w b' T cs) (hT : T ≠ tS) (hT2 : T ≠ tA) (h1 : ¬ ts tA) (h2 : ¬ ts tS) : ArAt tA tS f c B w' b most S := by
  obtain ⟨A, cp, h3, h4⟩ := h.ex
  refine ⟨h.big, A, cp, Rec.keptT h3 hk ?_ h1, own_keptT h4 hk hb hT h2⟩
  rintro rfl
  have e1 : w.heap[b]? = some (.cells cs T (0, 0)) := hb
  have e2 : w.heap[b]? = _ := h3
  rw [e1] at e2
  simp only [Option.some.injEq, Obj.cells.injEq] at e2
  exact hT2 e2.2.1
end
abbrev vI (x : Int) : List Value := [.int .i64 x]
abbrev ArI := @ArAt Int 63 65 vI 1
theorem info_slot : (Try.prog.info? 65).map (fun i => (i.zero, i.size, i.bytes)) = some (some (.agg #[.int .i64 0, .bool false, .int .i64 0]), 3, 24) := by kernel_rfl
def PutP (tA tS : TypeId) {α : Type} (f : α → List Value) (z : α) (c B b : Nat) (most : Int) (S : Ar α) (v : α) (w : World) (e : Ending) (w' : World) : Prop :=
  e = .returned (.tuple #[.int .i64 (putA z most S v).2.1, .int .i64 (putA z most S v).2.2]) ∧ ArAt tA tS f c B w' b most (putA z most S v).1 ∧ Below B w w' ∧ KeptT b (fun t => t = tS) w w'
set_option maxHeartbeats 1000000 in
theorem Put_any (B b : Nat) (most : Int) (S : Ar Int) (v : Int) (w : World) (hS : OkA 300 S) (h : ArI B w b most S) (hB : B ≤ w.heap.size) :
    Calls Try.prog 8 #[.pointer (some ⟨b, 0, none⟩), .int .i64 v] w (PutP 63 65 vI 0 1 B b most S v w) := by
  obtain ⟨A, cp, hrec, hown⟩ := h.ex
  have hbig := h.big
  have q0 := Rec.cell hrec 0
  have q1 := Rec.cell hrec 1
  have q2 := Rec.cell hrec 2
  have q3 := Rec.cell hrec 3
  simp at q0 q1 q2 q3
  have hlt := Rec.lt hrec
  have n0 := hS.n0
  have n1 := hS.n1
  have e1 : IntKind.i64.wrap (S.n + 1) = S.n + 1 := by rw [IntKind.wrap_i64]; omega
  by_cases g1 : most ≤ S.n
  · have HE := hid (show putA 0 most S v = (S, 0, 3) from if_pos g1)
    have HH := hid h
    clear h hrec hown
    go_enter Try.func8, Try.ntmps8
    go_wp2_with fail
    refine wp_region_past (by kernel_rfl) (by kernel_rfl) ?_
    repeat (go_big_quiet_step ((fail)))
    refine wpQuiet_nil ?_
    rintro _ ⟨_, rfl⟩
    go_wp2_with fail
    go_ret2
    exact ⟨by rw [HE.out]; rfl, by rw [HE.out]; exact HH.out.below (w.below_past _), (w.below_past _).mono hB, KeptT.of_below (w.below_past _) _ _⟩
  · have g1' : (decide (S.n ≥ most)) = false := by simpa using g1
    have hlen := hS.len
    have hfree := hS.free
    by_cases g2 : S.free = 0
    · have HE := hid (show putA 0 most S v = (⟨S.l ++ [(v, true, 0)], 0, S.n + 1⟩, S.l.length, 0) from by unfold putA; rw [if_neg g1, if_pos g2])
      have hz : (S.free : Int) = 0 := by omega
      rw [hz] at q2 hrec
      obtain ⟨j0, ji, jz0, jz1, jz2⟩ := info_parts info_slot
      have HJ := hid ji
      have HR := hid hrec
      have HO := hid hown
      clear h hrec hown ji g2 hz
      go_enter Try.func8, Try.ntmps8
      go_wp2_with fail
      refine wp_region_past (by kernel_rfl) (by kernel_rfl) ?_
      repeat (go_big_quiet_step ((fail)))
      refine wpQuiet_nil ?_
      rintro _ ⟨_, rfl⟩
      rename_i x1
      obtain ⟨w1, ew1⟩ : ∃ w1, w1 = w.past x1 := ⟨_, rfl⟩
      have hb1 : Below w.heap.size w w1 := by rw [ew1]; exact w.below_past x1
      have hrec := HR.out.below hb1 (Nat.le_refl _)
      have hown := own_below HO.out hb1 (Nat.le_refl _)
      have q0 := Rec.cell hrec 0
      have q1 := Rec.cell hrec 1
      have q2 := Rec.cell hrec 2
      have q3 := Rec.cell hrec 3
      have f0 := Rec.frozen hrec 3
      simp at q0 q1 q2 q3
      have hlt := Rec.lt hrec
      rw [← ew1]
      have hrec2 := Rec.set hrec 3 (.int .i64 (S.n + 1))
      have hown2 := own_setB hown hrec (by decide) 3 (.int .i64 (S.n + 1))
      have HR2 := hid hrec2
      have HO2 := hid hown2
      have hsz : (w1.setCell ⟨b, 3, none⟩ (.int .i64 (S.n + 1))).heap.size = w1.heap.size := by simp
      clear ew1 hrec hown hrec2 hown2
      go_wp2_with (at_builtin; refine wpList_append_own _ rfl _ _ 61 rfl B 65 j0 (.agg #[.int .i64 0, .bool false, .int .i64 0]) 3 24 Try.underlying61 HJ.out jz0 jz1 jz2 rfl (by decide) _ _ _ rfl (HO2.out.alloc _) ⟨w1.heap.size, 0, none⟩ 1 1 [.int .i64 v, .bool true, .int .i64 0] rfl rfl ?c1 ?c2 ?c3 ?c4 ?c5 ?_)
      case c1 =>
        intro j u hj
        match j, hj with
        | 0, hj => simp at hj; subst hj; simp only [Addr.add]; rw [← hsz]; exact World.cell?_alloc_new _ _ _ _
        | 1, hj => simp at hj; subst hj; simp only [Addr.add]; rw [← hsz]; exact World.cell?_alloc_new _ _ _ _
        | 2, hj => simp at hj; subst hj; simp only [Addr.add]; rw [← hsz]; exact World.cell?_alloc_new _ _ _ _
      case c2 => intro u hu; simp at hu; rcases hu with rfl | rfl | rfl <;> rfl
      case c3 => unfold maxLen; omega
      case c4 => omega
      case c5 => have := hb1.size; simp; omega
      intro v' w2 hown' hgrow _
      have hrow2 := Rec.grown (Rec.alloc HR2.out (.cells #[.int .i64 v, .bool true, .int .i64 0] 65)) (HO2.out.alloc _) hgrow (by decide)
      obtain ⟨g, cap, rfl⟩ : ∃ g cap, v' = .slice (some ⟨g, 0, none⟩) (S.l.length + 1) cap := by
        rcases hown'.2 with ⟨_, h0⟩ | ⟨g, cap, cur, hv, _⟩
        · omega
        · exact ⟨g, cap, hv⟩
      have d1 : w2.cell? ⟨b, 1, none⟩ = some (.slice A S.l.length cp) := by rw [Rec.cell hrow2]; simp
      have f1 : w2.frozen? ⟨b, 1, none⟩ = false := Rec.frozen hrow2 1
      have hlt2 := Rec.lt hrow2
      have e2 : IntKind.i64.wrap ((S.l.length : Int) + 1 - 1) = S.l.length := by rw [IntKind.wrap_i64]; omega
      have HROW := hid hrow2
      have HOW := hid hown'
      have HGR := hid hgrow
      clear hrow2 hown' hgrow
      go_wp2
      go_ret2
      have hk1 : KeptT b (fun t => t = 65) w1 w2 := ((KeptT.setB w1 b 3 _ _).trans (KeptT.of_below ((Below.refl _ _).alloc (Nat.le_refl _) _) _ _)).trans (KeptT.grown (HO2.out.alloc _) HGR.out rfl)
      have hk2 := hk1.trans (KeptT.setB w2 b 1 (.slice (some ⟨g, 0, none⟩) (S.l.length + 1) cap) _)
      refine ⟨by rw [HE.out]; simp, ?_, ?_, (KeptT.of_below hb1 _ _).trans hk2⟩
      · rw [HE.out]
        refine ⟨hbig, some ⟨g, 0, none⟩, cap, ?_, ?_⟩
        · have := Rec.set HROW.out 1 (.slice (some ⟨g, 0, none⟩) (S.l.length + 1) cap)
          simpa using this
        · have := own_setB HOW.out HROW.out (by decide) 1 (.slice (some ⟨g, 0, none⟩) (S.l.length + 1) cap)
          simp only [List.length_append, List.length_cons, List.length_nil]
          rw [← tab_snoc]
          exact this
      · exact ((((hb1.mono hB).setCell (p := ⟨b, 3, none⟩) hbig _).alloc (by have := hb1.size; simp; omega) _).grown HGR.out (by have := hb1.size; simp; omega) (fun k hk => (HO2.out.lt k hk).1)).setCell (p := ⟨b, 1, none⟩) hbig _
    · obtain ⟨k, hk⟩ : ∃ k, S.free = k + 1 := ⟨S.free - 1, by omega⟩
      have hkl : k < S.l.length := by omega
      have HE := hid (show putA 0 most S v = (⟨S.l.set k (v, true, 0), (slotA 0 S.l k).2.2, S.n + 1⟩, k, 0) from by unfold putA; rw [if_neg g1, if_neg g2, hk]; rfl)
      obtain ⟨g, cap, eA, _⟩ := own_succ hown (by omega)
      cases eA
      have hgb : ¬ g = b := fun e => own_not_rec hown hrec (by decide) (by rw [e]; rfl)
      have hat := hown.cellAt (k * 3 + 2) (by omega)
      rw [tab_get (slV_length (c := 1) (fun _ => rfl)) S.l k _ 2 (slot_at (z := 0) hkl) (by omega)] at hat
      have hat2 : w.cell? ⟨g, k * 3 + 2, none⟩ = some (.int .i64 (slotA 0 S.l k).2.2) := hat
      generalize hnx : (slotA 0 S.l k).2.2 = nx at HE hat2
      have HR := hid hrec
      have HO := hid hown
      have e3 : IntKind.i64.wrap ((S.free : Int) - 1) = k := by rw [IntKind.wrap_i64, hk]; omega
      have hz : ¬ (S.free : Int) = 0 := by omega
      obtain ⟨fr, efr⟩ : ∃ fr, S.free = fr := ⟨_, rfl⟩
      obtain ⟨n, en⟩ : ∃ n, S.l.length = n := ⟨_, rfl⟩
      have EN := hid en
      have hb1' := hid hat2
      rw [efr] at HR e3 hz
      rw [en] at HR HO hkl
      clear h hrec hown g2 hat hat2 hk hnx efr en q1 q2 hfree hlen
      go_enter Try.func8, Try.ntmps8
      go_wp2_with fail
      refine wp_region_past (by kernel_rfl) (by kernel_rfl) ?_
      repeat (go_big_quiet_step ((fail)))
      refine wpQuiet_nil ?_
      rintro _ ⟨_, rfl⟩
      rename_i x1
      obtain ⟨w1, ew1⟩ : ∃ w1, w1 = w.past x1 := ⟨_, rfl⟩
      have hb1 : Below w.heap.size w w1 := by rw [ew1]; exact w.below_past x1
      have hrec := HR.out.below hb1 (Nat.le_refl _)
      have hown := own_below HO.out hb1 (Nat.le_refl _)
      have q1 := Rec.cell hrec 1
      have q2 := Rec.cell hrec 2
      have q3 := Rec.cell hrec 3
      have f2 := Rec.frozen hrec 2
      have f3 := Rec.frozen hrec 3
      have qn := below_cell hb1 (Nat.le_refl _) _ _ hb1'.out
      have hs := fun j hj => own_there hown (o := k * 3) (m := 3) (by omega) j hj
      obtain ⟨u0, t0⟩ := Option.isSome_iff_exists.1 (hs 0 (by omega)).1
      obtain ⟨u1, t1⟩ := Option.isSome_iff_exists.1 (hs 1 (by omega)).1
      have p0 := (hs 0 (by omega)).2
      have p1 := (hs 1 (by omega)).2
      have p2 := (hs 2 (by omega)).2
      rw [Nat.add_zero] at t0 p0
      simp at q1 q2 q3
      have hlt := Rec.lt hrec
      rw [← ew1]
      have hrec2 := Rec.set (Rec.set hrec 3 (.int .i64 (S.n + 1))) 2 (.int .i64 nx)
      have hown2 := own_setB (own_setB hown hrec (by decide) 3 (.int .i64 (S.n + 1))) (Rec.set hrec 3 (.int .i64 (S.n + 1))) (by decide) 2 (.int .i64 nx)
      have hput := own_put (slV_length (f := vI) (c := 1) (fun _ => rfl)) (by omega) (l := S.l) (by rw [EN.out]; exact hown2) (k := k) (by rw [EN.out]; exact hkl) (v, true, 0)
      have HR2 := hid hrec2
      have HO2 := hid hown2
      have HP := hid hput
      clear ew1 hrec hown hrec2 hown2 hput hs
      clear hb1'
      go_wp2
      go_ret2
      have hk1 : KeptT b (fun t => t = 65) w1 ((w1.setCell ⟨b, 3, none⟩ (.int .i64 (S.n + 1))).setCell ⟨b, 2, none⟩ (.int .i64 nx)) := (KeptT.setB w1 b 3 _ _).trans (KeptT.setB _ b 2 _ _)
      have hk2 := hk1.trans (KeptT.grown HO2.out HP.out.2.1 rfl)
      refine ⟨by rw [HE.out]; rfl, ?_, ?_, (KeptT.of_below hb1 _ _).trans hk2⟩
      · rw [HE.out]
        refine ⟨hbig, some ⟨g, 0, none⟩, cp, ?_, ?_⟩
        · have := Rec.grown HR2.out HO2.out HP.out.2.1 (by decide)
          simp only [List.length_set]
          rw [EN.out]
          exact this
        · have := HP.out.1
          simp only [List.length_set]
          exact this
      · exact (((hb1.mono hB).setCell (p := ⟨b, 3, none⟩) hbig _).setCell (p := ⟨b, 2, none⟩) hbig _).grown HP.out.2.1 (by have := hb1.size; simp; omega) (fun j hj => (HO2.out.lt j hj).1)
end Go.Proofs.Ytgaenonggnkknaa
