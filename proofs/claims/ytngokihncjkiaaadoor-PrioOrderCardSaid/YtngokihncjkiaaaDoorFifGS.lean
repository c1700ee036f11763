/-
  Layer 05: a queue as a list of tickets and values (strings). No condition.
-/
import Derived.Test.YtngokihncjkiaaaDoorPrN
import Derived.Test.YtngokihncjkiaaaDoorFifR
import Derived.Test.YtngokihncjkiaaaDoorRegSplit
import Derived.Deep.RegionHeld3
import Derived.Test.YtngokihncjkiaaaDoorFifBS
namespace Go.Proofs.YtngokihncjkiaaaDoor
open Go.RowKit
/-! A queue in memory. -/
structure QIn (B : Nat) (w : World) (b ba mb : Nat) (G : Option Nat) (most : Int) (q : Fq Int) (tk : Int) (f : Int → Option Int) (c : Nat) : Prop where
  big : B ≤ b
  bim : B ≤ mb
  rc : Rec w b 90 #[.pointer (some ⟨ba, 0, none⟩), .map (some mb), .int .i64 q.fi, .int .i64 q.la, .int .i64 tk]
  ar : ArL B w ba G most q.S
  mp : MapI Tryd.prog 3 w mb f c
section
variable {B : Nat} {w w' : World} {b ba mb : Nat} {G : Option Nat} {most : Int} {q : Fq Int} {tk : Int} {f : Int → Option Int} {c : Nat}
theorem QIn.apart (h : QIn B w b ba mb G most q tk f c) : b ≠ ba ∧ b ≠ mb ∧ ba ≠ mb ∧ some b ≠ G ∧ some ba ≠ G ∧ some mb ≠ G := by
  obtain ⟨A, cp, h1, h2, h3⟩ := h.ar.ex
  refine ⟨?_, MapI.cells h.mp h.rc, MapI.cells h.mp h1, ?_, ?_, ?_⟩
  · rintro rfl
    have e1 := h.rc
    unfold Rec at e1 h1
    rw [e1] at h1
    simp at h1
  · rw [← h3]; exact fun e => own_not_rec h2 h.rc (by decide) e.symm
  · rw [← h3]; exact fun e => own_not_rec h2 h1 (by decide) e.symm
  · rw [← h3]
    intro e
    rcases h2.2 with ⟨h4, _⟩ | ⟨g, cap, cur, hv, hg, hh, hr⟩
    · rw [h4] at e; simp [Value.ownBlock] at e
    · rw [hv] at e
      simp only [Value.ownBlock, Option.some.injEq] at e
      exact MapI.cells h.mp hh e.symm
theorem QIn.far (h : QIn B w b ba mb G most q tk f c) (hb : Below w.heap.size w w') : QIn B w' b ba mb G most q tk f c :=
  ⟨h.big, h.bim, h.rc.below hb (Nat.le_refl _), h.ar.below hb, h.mp.below hb h.mp.lt⟩
theorem QIn.kept {X : Nat → Prop} (h : QIn B w b ba mb G most q tk f c) (hk : Kept X w w') (hX : ∀ k, ft b ba mb G k → ¬ X k) : QIn B w' b ba mb G most q tk f c :=
  ⟨h.big, h.bim, h.rc.kept hk (hX _ (.inl rfl)), h.ar.kept hk (hX _ (.inr (.inl rfl))) (fun g hg => hX g (.inr (.inr (.inr hg.symm)))), h.mp.block (hk.block mb h.mp.lt (hX _ (.inr (.inr (.inl rfl)))))⟩
/-- Behind a change of the arena. -/
theorem QIn.arena {S' : Ar Lk} {G' : Option Nat} (h : QIn B w b ba mb G most q tk f c) (ha : ArL B w' ba G' most S') (hk : KeptA ba G w w') : QIn B w' b ba mb G' most ⟨S', q.fi, q.la⟩ tk f c := by
  obtain ⟨p1, p2, p3, p4, p5, p6⟩ := h.apart
  have nb : ∀ k, k = b ∨ k = mb → ¬ (k = ba ∨ some k = G) := by
    rintro k (rfl | rfl) (e | e)
    · exact p1 e
    · exact p4 e
    · exact p3 e.symm
    · exact p6 e
  exact ⟨h.big, h.bim, h.rc.kept hk (nb _ (.inl rfl)), ha, h.mp.block (Kept.block hk mb h.mp.lt (nb _ (.inr rfl)))⟩
theorem QIn.field (h : QIn B w b ba mb G most q tk f c) (i : Nat) (u : Value) (fi la tk' : Int) (he : (#[.pointer (some ⟨ba, 0, none⟩), .map (some mb), .int .i64 q.fi, .int .i64 q.la, .int .i64 tk] : Array Value).setIfInBounds i u = #[.pointer (some ⟨ba, 0, none⟩), .map (some mb), .int .i64 fi, .int .i64 la, .int .i64 tk']) : QIn B (w.setCell ⟨b, i, none⟩ u) b ba mb G most ⟨q.S, fi, la⟩ tk' f c := by
  obtain ⟨p1, p2, p3, p4, p5, p6⟩ := h.apart
  have hk : Kept (fun k => k = b) w (w.setCell ⟨b, i, none⟩ u) := (Kept.refl (fun k => k = b) w).setCell (p := ⟨b, i, none⟩) (.inr rfl) u
  refine ⟨h.big, h.bim, ?_, h.ar.kept hk (fun e => p1 e.symm) (fun g hg e => by subst e; exact p4 hg.symm), h.mp.block (hk.block mb h.mp.lt (fun e => p2 e.symm))⟩
  have := Rec.set h.rc i u
  rwa [he] at this
end
theorem QIn.set {B : Nat} {w : World} {b ba mb : Nat} {G : Option Nat} {most : Int} {q : Fq Int} {tk : Int} {f : Int → Option Int} {c : Nat} (h : QIn B w b ba mb G most q tk f c) (hB : B ≤ w.heap.size) (x : Int) (v : Lk) :
    Calls Tryd.prog 66 #[.pointer (some ⟨ba, 0, none⟩), .int .i64 x, aL v] w (fun e w' => e = .returned (.bool (isA zL q.S.l x)) ∧ QIn B w' b ba mb G most ⟨setA zL q.S x v, q.fi, q.la⟩ tk f c ∧ Kept (ft b ba mb G) w w') :=
  (LSet_any B ba most q.S x v w h.ar hB).mono fun _ _ g => ⟨g.1, h.arena g.2.1 g.2.2.2, Kept.mono g.2.2.2 (fun k _ hk => by rcases hk with hk | hk; exact .inr (.inl hk); exact .inr (.inr (.inr hk)))⟩
set_option maxHeartbeats 4000000 in
theorem join_any {B : Nat} {w : World} {b ba mb : Nat} {G : Option Nat} {most : Int} {q : Fq Int} {tk : Int} {f : Int → Option Int} {c : Nat} (h : QIn B w b ba mb G most q tk f c) (hB : B ≤ w.heap.size) (x y : Int) :
    Calls Tryd.prog 48 #[.pointer (some ⟨b, 0, none⟩), .int .i64 x, .int .i64 y] w (fun e w' => e = .returned (.tuple #[]) ∧ QIn B w' b ba mb G most (joinF zL q x y) tk f c ∧ Kept (ft b ba mb G) w w') := by
  have HG := hid (LGet_any ba most q.S x w h.ar.rd)
  have HH := hid h
  have q0 := Rec.cell h.rc 0
  simp at q0
  have hlb := h.rc.lt
  have hg2 := getA_2 (z := zL) (S := q.S) (i := x)
  have hja : joA zL q x y = if isA zL q.S.l x = true then ⟨setA zL q.S x ((getA zL q.S x).1.1, (getA zL q.S x).1.2.1, (getA zL q.S x).1.2.2.1, y), q.fi, q.la⟩ else ⟨q.S, y, q.la⟩ := rfl
  rw [← hg2] at hja
  obtain ⟨⟨⟨g1, g2, g3, g4⟩, gb⟩, eg⟩ : ∃ g, getA zL q.S x = g := ⟨_, rfl⟩
  rw [eg] at HG hja
  clear h hg2 eg
  obtain ⟨q1, eq1⟩ : ∃ q1, joA zL q x y = q1 := ⟨_, rfl⟩
  have HJF := hid (show joinF zL q x y = joB zL q1 x y by unfold joinF; rw [eq1])
  rw [eq1] at hja
  clear eq1
  cases gb with
  | true =>
    have HJA := hid (show q1 = ⟨setA zL q.S x (g1, g2, g3, y), q.fi, q.la⟩ from hja)
    clear hja
    go_enter Tryd.func48, Tryd.ntmps48
    go_upto_region 3 with (go_at_call 57; refine HG.out.mono ?_; rintro _ _ ⟨rfl, y1, rfl⟩)
    obtain ⟨X, eX⟩ : ∃ X, w.heap.size + y1.more = X := ⟨_, rfl⟩
    obtain ⟨w3, ew3⟩ : ∃ W, W = (w.past y1).alloc (.cells #[.int .i64 g1, .int .i64 g2, .int .i64 g3, .int .i64 y] 93) := ⟨_, rfl⟩
    have hbx : Rec w3 X 93 #[.int .i64 g1, .int .i64 g2, .int .i64 g3, .int .i64 y] := by
      rw [ew3, ← eX]
      have := Rec.new (w.past y1) 93 #[.int .i64 g1, .int .i64 g2, .int .i64 g3, .int .i64 y]
      rwa [World.size_past] at this
    have hbw3 : Below w.heap.size w w3 := by rw [ew3]; exact (w.below_past y1).alloc (by simp [World.size_past]) _
    have H3 := hid (HH.out.far hbw3)
    have q0 := Rec.cell H3.out.rc 0
    have c0 := Rec.cell hbx 0
    have c1 := Rec.cell hbx 1
    have c2 := Rec.cell hbx 2
    have c3 := Rec.cell hbx 3
    simp at q0 c0 c1 c2 c3
    have HSE := hid ((H3.out.far (Below.refl _ _).drew).set (Nat.le_trans hB hbw3.size) x (g1, g2, g3, y))
    have HKw3 := hid (Kept.of_below hbw3 (ft b ba mb G))
    rw [eX, ← ew3]
    clear ew3 hbx hbw3 eX
    refine wp_region_split (S := (fun W => W.cell? ⟨b, 0, none⟩ = some (.pointer (some ⟨ba, 0, none⟩)) ∧ W.cell? ⟨X, 0, none⟩ = some (.int .i64 g1) ∧ W.cell? ⟨X, 1, none⟩ = some (.int .i64 g2) ∧ W.cell? ⟨X, 2, none⟩ = some (.int .i64 g3) ∧ W.cell? ⟨X, 3, none⟩ = some (.int .i64 y))) 6 (by kernel_rfl) (by kernel_rfl) ?_ (fun hHeld => ?_)
    · (first | (simp [go_sem, *]; done))
    simp only [List.take_succ_cons, List.take_zero, List.drop_succ_cons, List.drop_zero]
    refine wpAnyH_take (i := 0) (v := ?_) rfl (by kernel_rfl) (by kernel_rfl) (by kernel_rfl) (fun _ _ _ h => h) (Or.inl ⟨by rfl, ?_⟩) (by assumption) ?_
    rotate_left
    · intro w hSw; (try dsimp only at hSw); go_simp; try with_reducible rfl
    try simp only [put_simp]
    refine wpAnyH_take (i := 1) (v := ?_) rfl (by kernel_rfl) (by kernel_rfl) (by kernel_rfl) (fun _ _ _ h => h) (Or.inl ⟨by rfl, ?_⟩) (by assumption) ?_
    rotate_left
    · intro w hSw; (try dsimp only at hSw); go_simp; try with_reducible rfl
    try simp only [put_simp]
    refine wpAnyH_take (i := 2) (v := ?_) rfl (by kernel_rfl) (by kernel_rfl) (by kernel_rfl) (fun _ _ _ h => h) (Or.inl ⟨by rfl, ?_⟩) (by assumption) ?_
    rotate_left
    · intro w hSw; (try dsimp only at hSw); go_simp; try with_reducible rfl
    try simp only [put_simp]
    refine wpAnyH_take (i := 3) (v := ?_) rfl (by kernel_rfl) (by kernel_rfl) (by kernel_rfl) (fun _ _ _ h => h) (Or.inl ⟨by rfl, ?_⟩) (by assumption) ?_
    rotate_left
    · intro w hSw; (try dsimp only at hSw); go_simp; try with_reducible rfl
    try simp only [put_simp]
    refine wpAnyH_take (i := 4) (v := ?_) rfl (by kernel_rfl) (by kernel_rfl) (by kernel_rfl) (fun _ _ _ h => h) (Or.inl ⟨by rfl, ?_⟩) (by assumption) ?_
    rotate_left
    · intro w hSw; (try dsimp only at hSw); go_simp; try with_reducible rfl
    try simp only [put_simp]
    refine wpAnyH_take (i := 5) (v := ?_) rfl (by kernel_rfl) (by kernel_rfl) (by kernel_rfl) (fun _ _ _ h => h) (Or.inl ⟨by rfl, ?_⟩) (by assumption) ?_
    rotate_left
    · intro w hSw; (try dsimp only at hSw); go_simp; try with_reducible rfl
    try simp only [put_simp]
    refine wpAnyH_done (by kernel_rfl) ?_ _
    change wpList _ _ _ _ _ _
    go_upto_region 5 with (go_at_call 66; refine HSE.out.mono ?_; rintro _ w5 ⟨rfl, h5, hk5⟩)
    have HK5 := hid (HKw3.out.drew.trans hk5)
    rw [← HJA.out] at h5
    have H5 := hid h5
    clear h5 hk5 hHeld HSE H3 HJA c0 c1 c2 c3 q0
    have hK5 := HK5.out.size
    have HG2 := hid (LGet_any ba most q1.S y w5 H5.out.ar.rd)
    have q0 := Rec.cell H5.out.rc 0
    simp at q0
    have hg2 := getA_2 (z := zL) (S := q1.S) (i := y)
    have hjb : joB zL q1 x y = if isA zL q1.S.l y = true then ⟨setA zL q1.S y ((getA zL q1.S y).1.1, (getA zL q1.S y).1.2.1, x, (getA zL q1.S y).1.2.2.2), q1.fi, q1.la⟩ else ⟨q1.S, q1.fi, x⟩ := rfl
    rw [← hg2] at hjb
    obtain ⟨⟨⟨d1, d2, d3, d4⟩, db⟩, eg⟩ : ∃ g, getA zL q1.S y = g := ⟨_, rfl⟩
    rw [eg] at HG2 hjb
    clear hg2 eg
    cases db with
    | true =>
      have HJB := hid (show joB zL q1 x y = ⟨setA zL q1.S y (d1, d2, x, d4), q1.fi, q1.la⟩ from hjb)
      clear hjb
      go_upto_region 8 with (go_at_call 57; refine HG2.out.mono ?_; rintro _ _ ⟨rfl, y2, rfl⟩)
      obtain ⟨Y, eY⟩ : ∃ X, w5.heap.size + y2.more = X := ⟨_, rfl⟩
      obtain ⟨w6, ew6⟩ : ∃ W, W = (w5.past y2).alloc (.cells #[.int .i64 d1, .int .i64 d2, .int .i64 x, .int .i64 d4] 93) := ⟨_, rfl⟩
      have hbx : Rec w6 Y 93 #[.int .i64 d1, .int .i64 d2, .int .i64 x, .int .i64 d4] := by
        rw [ew6, ← eY]
        have := Rec.new (w5.past y2) 93 #[.int .i64 d1, .int .i64 d2, .int .i64 x, .int .i64 d4]
        rwa [World.size_past] at this
      have hbw6 : Below w5.heap.size w5 w6 := by rw [ew6]; exact (w5.below_past y2).alloc (by simp [World.size_past]) _
      have H6 := hid (H5.out.far hbw6)
      have q0 := Rec.cell H6.out.rc 0
      have c0 := Rec.cell hbx 0
      have c1 := Rec.cell hbx 1
      have c2 := Rec.cell hbx 2
      have c3 := Rec.cell hbx 3
      simp at q0 c0 c1 c2 c3
      have HSE := hid ((H6.out.far (Below.refl _ _).drew).set (Nat.le_trans (Nat.le_trans hB hK5) hbw6.size) y (d1, d2, x, d4))
      have HKw6 := hid (Kept.of_below hbw6 (ft b ba mb G))
      rw [eY, ← ew6]
      clear ew6 hbx hbw6 eY
      refine wp_region_split (S := (fun W => W.cell? ⟨b, 0, none⟩ = some (.pointer (some ⟨ba, 0, none⟩)) ∧ W.cell? ⟨Y, 0, none⟩ = some (.int .i64 d1) ∧ W.cell? ⟨Y, 1, none⟩ = some (.int .i64 d2) ∧ W.cell? ⟨Y, 2, none⟩ = some (.int .i64 x) ∧ W.cell? ⟨Y, 3, none⟩ = some (.int .i64 d4))) 6 (by kernel_rfl) (by kernel_rfl) ?_ (fun hHeld => ?_)
      · (first | (simp [go_sem, *]; done))
      simp only [List.take_succ_cons, List.take_zero, List.drop_succ_cons, List.drop_zero]
      refine wpAnyH_take (i := 0) (v := ?_) rfl (by kernel_rfl) (by kernel_rfl) (by kernel_rfl) (fun _ _ _ h => h) (Or.inl ⟨by rfl, ?_⟩) (by assumption) ?_
      rotate_left
      · intro w hSw; (try dsimp only at hSw); go_simp; try with_reducible rfl
      try simp only [put_simp]
      refine wpAnyH_take (i := 1) (v := ?_) rfl (by kernel_rfl) (by kernel_rfl) (by kernel_rfl) (fun _ _ _ h => h) (Or.inl ⟨by rfl, ?_⟩) (by assumption) ?_
      rotate_left
      · intro w hSw; (try dsimp only at hSw); go_simp; try with_reducible rfl
      try simp only [put_simp]
      refine wpAnyH_take (i := 2) (v := ?_) rfl (by kernel_rfl) (by kernel_rfl) (by kernel_rfl) (fun _ _ _ h => h) (Or.inl ⟨by rfl, ?_⟩) (by assumption) ?_
      rotate_left
      · intro w hSw; (try dsimp only at hSw); go_simp; try with_reducible rfl
      try simp only [put_simp]
      refine wpAnyH_take (i := 3) (v := ?_) rfl (by kernel_rfl) (by kernel_rfl) (by kernel_rfl) (fun _ _ _ h => h) (Or.inl ⟨by rfl, ?_⟩) (by assumption) ?_
      rotate_left
      · intro w hSw; (try dsimp only at hSw); go_simp; try with_reducible rfl
      try simp only [put_simp]
      refine wpAnyH_take (i := 4) (v := ?_) rfl (by kernel_rfl) (by kernel_rfl) (by kernel_rfl) (fun _ _ _ h => h) (Or.inl ⟨by rfl, ?_⟩) (by assumption) ?_
      rotate_left
      · intro w hSw; (try dsimp only at hSw); go_simp; try with_reducible rfl
      try simp only [put_simp]
      refine wpAnyH_take (i := 5) (v := ?_) rfl (by kernel_rfl) (by kernel_rfl) (by kernel_rfl) (fun _ _ _ h => h) (Or.inl ⟨by rfl, ?_⟩) (by assumption) ?_
      rotate_left
      · intro w hSw; (try dsimp only at hSw); go_simp; try with_reducible rfl
      try simp only [put_simp]
      refine wpAnyH_done (by kernel_rfl) ?_ _
      change wpList _ _ _ _ _ _
      go_wp2_with (go_at_call 66; refine HSE.out.mono ?_; rintro _ w7 ⟨rfl, h7, hk7⟩; have H7 := hid h7; have HK7 := hid hk7; clear h7 hk7)
      go_end0
      refine ⟨rfl, ?_, HK5.out.trans (HKw6.out.drew.trans HK7.out)⟩
      rw [HJF.out, HJB.out]
      exact H7.out
    | false =>
      have HJB := hid (show joB zL q1 x y = ⟨q1.S, q1.fi, x⟩ from hjb)
      clear hjb
      go_upto_if 42 with (go_at_call 57; refine HG2.out.mono ?_; rintro _ _ ⟨rfl, y2, rfl⟩)
      obtain ⟨Y, eY⟩ : ∃ X, w5.heap.size + y2.more = X := ⟨_, rfl⟩
      obtain ⟨w6, ew6⟩ : ∃ W, W = (w5.past y2).alloc (.cells #[.int .i64 d1, .int .i64 d2, .int .i64 d3, .int .i64 d4] 93) := ⟨_, rfl⟩
      have hbx : Rec w6 Y 93 #[.int .i64 d1, .int .i64 d2, .int .i64 d3, .int .i64 d4] := by
        rw [ew6, ← eY]
        have := Rec.new (w5.past y2) 93 #[.int .i64 d1, .int .i64 d2, .int .i64 d3, .int .i64 d4]
        rwa [World.size_past] at this
      have hbw6 : Below w5.heap.size w5 w6 := by rw [ew6]; exact (w5.below_past y2).alloc (by simp [World.size_past]) _
      have H6 := hid (H5.out.far hbw6)
      have q3 := Rec.cell H6.out.rc 3
      have f3 := Rec.frozen H6.out.rc 3
      have l3 := H6.out.rc.lt
      simp at q3
      have HKw6 := hid (Kept.of_below hbw6 (ft b ba mb G))
      rw [eY, ← ew6]
      clear ew6 hbx hbw6 eY
      go_wp2_with fail
      go_end0
      refine ⟨rfl, ?_, HK5.out.trans (HKw6.out.setCell (p := ⟨b, 3, none⟩) (.inr (.inl rfl)) _)⟩
      rw [HJF.out, HJB.out]
      exact H6.out.field 3 (.int .i64 x) q1.fi x tk rfl
  | false =>
    have HJA := hid (show q1 = ⟨q.S, y, q.la⟩ from hja)
    clear hja
    go_enter Tryd.func48, Tryd.ntmps48
    go_upto_if 19 with (go_at_call 57; refine HG.out.mono ?_; rintro _ _ ⟨rfl, y1, rfl⟩)
    obtain ⟨X, eX⟩ : ∃ X, w.heap.size + y1.more = X := ⟨_, rfl⟩
    obtain ⟨w3, ew3⟩ : ∃ W, W = (w.past y1).alloc (.cells #[.int .i64 g1, .int .i64 g2, .int .i64 g3, .int .i64 g4] 93) := ⟨_, rfl⟩
    have hbx : Rec w3 X 93 #[.int .i64 g1, .int .i64 g2, .int .i64 g3, .int .i64 g4] := by
      rw [ew3, ← eX]
      have := Rec.new (w.past y1) 93 #[.int .i64 g1, .int .i64 g2, .int .i64 g3, .int .i64 g4]
      rwa [World.size_past] at this
    have hbw3 : Below w.heap.size w w3 := by rw [ew3]; exact (w.below_past y1).alloc (by simp [World.size_past]) _
    have H3 := hid (HH.out.far hbw3)
    have q2 := Rec.cell H3.out.rc 2
    have f2 := Rec.frozen H3.out.rc 2
    have l2 := H3.out.rc.lt
    simp at q2
    have HKw3 := hid (Kept.of_below hbw3 (ft b ba mb G))
    rw [eX, ← ew3]
    clear ew3 hbx hbw3 eX q0
    go_upto_region 5 with (fail)
    obtain ⟨w5, ew5⟩ : ∃ W, W = w3.setCell ⟨b, 2, none⟩ (.int .i64 y) := ⟨_, rfl⟩
    have h5 := H3.out.field 2 (.int .i64 y) y q.la tk rfl
    rw [← ew5, ← HJA.out] at h5
    have HK5 : Hid (Kept (ft b ba mb G) w w5) := hid (by rw [ew5]; exact HKw3.out.setCell (p := ⟨b, 2, none⟩) (.inr (.inl rfl)) _)
    rw [← ew5]
    have H5 := hid h5
    clear h5 ew5 H3 HJA q2 f2 l2
    have hK5 := HK5.out.size
    have HG2 := hid (LGet_any ba most q1.S y w5 H5.out.ar.rd)
    have q0 := Rec.cell H5.out.rc 0
    simp at q0
    have hg2 := getA_2 (z := zL) (S := q1.S) (i := y)
    have hjb : joB zL q1 x y = if isA zL q1.S.l y = true then ⟨setA zL q1.S y ((getA zL q1.S y).1.1, (getA zL q1.S y).1.2.1, x, (getA zL q1.S y).1.2.2.2), q1.fi, q1.la⟩ else ⟨q1.S, q1.fi, x⟩ := rfl
    rw [← hg2] at hjb
    obtain ⟨⟨⟨d1, d2, d3, d4⟩, db⟩, eg⟩ : ∃ g, getA zL q1.S y = g := ⟨_, rfl⟩
    rw [eg] at HG2 hjb
    clear hg2 eg
    cases db with
    | true =>
      have HJB := hid (show joB zL q1 x y = ⟨setA zL q1.S y (d1, d2, x, d4), q1.fi, q1.la⟩ from hjb)
      clear hjb
      go_upto_region 8 with (go_at_call 57; refine HG2.out.mono ?_; rintro _ _ ⟨rfl, y2, rfl⟩)
      obtain ⟨Y, eY⟩ : ∃ X, w5.heap.size + y2.more = X := ⟨_, rfl⟩
      obtain ⟨w6, ew6⟩ : ∃ W, W = (w5.past y2).alloc (.cells #[.int .i64 d1, .int .i64 d2, .int .i64 x, .int .i64 d4] 93) := ⟨_, rfl⟩
      have hbx : Rec w6 Y 93 #[.int .i64 d1, .int .i64 d2, .int .i64 x, .int .i64 d4] := by
        rw [ew6, ← eY]
        have := Rec.new (w5.past y2) 93 #[.int .i64 d1, .int .i64 d2, .int .i64 x, .int .i64 d4]
        rwa [World.size_past] at this
      have hbw6 : Below w5.heap.size w5 w6 := by rw [ew6]; exact (w5.below_past y2).alloc (by simp [World.size_past]) _
      have H6 := hid (H5.out.far hbw6)
      have q0 := Rec.cell H6.out.rc 0
      have c0 := Rec.cell hbx 0
      have c1 := Rec.cell hbx 1
      have c2 := Rec.cell hbx 2
      have c3 := Rec.cell hbx 3
      simp at q0 c0 c1 c2 c3
      have HSE := hid ((H6.out.far (Below.refl _ _).drew).set (Nat.le_trans (Nat.le_trans hB hK5) hbw6.size) y (d1, d2, x, d4))
      have HKw6 := hid (Kept.of_below hbw6 (ft b ba mb G))
      rw [eY, ← ew6]
      clear ew6 hbx hbw6 eY
      refine wp_region_split (S := (fun W => W.cell? ⟨b, 0, none⟩ = some (.pointer (some ⟨ba, 0, none⟩)) ∧ W.cell? ⟨Y, 0, none⟩ = some (.int .i64 d1) ∧ W.cell? ⟨Y, 1, none⟩ = some (.int .i64 d2) ∧ W.cell? ⟨Y, 2, none⟩ = some (.int .i64 x) ∧ W.cell? ⟨Y, 3, none⟩ = some (.int .i64 d4))) 6 (by kernel_rfl) (by kernel_rfl) ?_ (fun hHeld => ?_)
      · (first | (simp [go_sem, *]; done))
      simp only [List.take_succ_cons, List.take_zero, List.drop_succ_cons, List.drop_zero]
      refine wpAnyH_take (i := 0) (v := ?_) rfl (by kernel_rfl) (by kernel_rfl) (by kernel_rfl) (fun _ _ _ h => h) (Or.inl ⟨by rfl, ?_⟩) (by assumption) ?_
      rotate_left
      · intro w hSw; (try dsimp only at hSw); go_simp; try with_reducible rfl
      try simp only [put_simp]
      refine wpAnyH_take (i := 1) (v := ?_) rfl (by kernel_rfl) (by kernel_rfl) (by kernel_rfl) (fun _ _ _ h => h) (Or.inl ⟨by rfl, ?_⟩) (by assumption) ?_
      rotate_left
      · intro w hSw; (try dsimp only at hSw); go_simp; try with_reducible rfl
      try simp only [put_simp]
      refine wpAnyH_take (i := 2) (v := ?_) rfl (by kernel_rfl) (by kernel_rfl) (by kernel_rfl) (fun _ _ _ h => h) (Or.inl ⟨by rfl, ?_⟩) (by assumption) ?_
      rotate_left
      · intro w hSw; (try dsimp only at hSw); go_simp; try with_reducible rfl
      try simp only [put_simp]
      refine wpAnyH_take (i := 3) (v := ?_) rfl (by kernel_rfl) (by kernel_rfl) (by kernel_rfl) (fun _ _ _ h => h) (Or.inl ⟨by rfl, ?_⟩) (by assumption) ?_
      rotate_left
      · intro w hSw; (try dsimp only at hSw); go_simp; try with_reducible rfl
      try simp only [put_simp]
      refine wpAnyH_take (i := 4) (v := ?_) rfl (by kernel_rfl) (by kernel_rfl) (by kernel_rfl) (fun _ _ _ h => h) (Or.inl ⟨by rfl, ?_⟩) (by assumption) ?_
      rotate_left
      · intro w hSw; (try dsimp only at hSw); go_simp; try with_reducible rfl
      try simp only [put_simp]
      refine wpAnyH_take (i := 5) (v := ?_) rfl (by kernel_rfl) (by kernel_rfl) (by kernel_rfl) (fun _ _ _ h => h) (Or.inl ⟨by rfl, ?_⟩) (by assumption) ?_
      rotate_left
      · intro w hSw; (try dsimp only at hSw); go_simp; try with_reducible rfl
      try simp only [put_simp]
      refine wpAnyH_done (by kernel_rfl) ?_ _
      change wpList _ _ _ _ _ _
      go_wp2_with (go_at_call 66; refine HSE.out.mono ?_; rintro _ w7 ⟨rfl, h7, hk7⟩; have H7 := hid h7; have HK7 := hid hk7; clear h7 hk7)
      go_end0
      refine ⟨rfl, ?_, HK5.out.trans (HKw6.out.drew.trans HK7.out)⟩
      rw [HJF.out, HJB.out]
      exact H7.out
    | false =>
      have HJB := hid (show joB zL q1 x y = ⟨q1.S, q1.fi, x⟩ from hjb)
      clear hjb
      go_upto_if 42 with (go_at_call 57; refine HG2.out.mono ?_; rintro _ _ ⟨rfl, y2, rfl⟩)
      obtain ⟨Y, eY⟩ : ∃ X, w5.heap.size + y2.more = X := ⟨_, rfl⟩
      obtain ⟨w6, ew6⟩ : ∃ W, W = (w5.past y2).alloc (.cells #[.int .i64 d1, .int .i64 d2, .int .i64 d3, .int .i64 d4] 93) := ⟨_, rfl⟩
      have hbx : Rec w6 Y 93 #[.int .i64 d1, .int .i64 d2, .int .i64 d3, .int .i64 d4] := by
        rw [ew6, ← eY]
        have := Rec.new (w5.past y2) 93 #[.int .i64 d1, .int .i64 d2, .int .i64 d3, .int .i64 d4]
        rwa [World.size_past] at this
      have hbw6 : Below w5.heap.size w5 w6 := by rw [ew6]; exact (w5.below_past y2).alloc (by simp [World.size_past]) _
      have H6 := hid (H5.out.far hbw6)
      have q3 := Rec.cell H6.out.rc 3
      have f3 := Rec.frozen H6.out.rc 3
      have l3 := H6.out.rc.lt
      simp at q3
      have HKw6 := hid (Kept.of_below hbw6 (ft b ba mb G))
      rw [eY, ← ew6]
      clear ew6 hbx hbw6 eY
      go_wp2_with fail
      go_end0
      refine ⟨rfl, ?_, HK5.out.trans (HKw6.out.setCell (p := ⟨b, 3, none⟩) (.inr (.inl rfl)) _)⟩
      rw [HJF.out, HJB.out]
      exact H6.out.field 3 (.int .i64 x) q1.fi x tk rfl

end Go.Proofs.YtngokihncjkiaaaDoor
namespace Go.Proofs.YtngokihncjkiaaaDoor
open Go.RowKit
/-- A queue, and its blocks. -/
def QAt (B : Nat) (w : World) (b : Nat) (F : Nat → Prop) (most : Int) (q : Fq Int) (tk : Int) (f : Int → Option Int) (c : Nat) : Prop := ∃ ba mb G, QIn B w b ba mb G most q tk f c ∧ F = ft b ba mb G
/-- Behind an act. -/
def QP (B b : Nat) (F : Nat → Prop) (most : Int) (q : Fq Int) (tk : Int) (f : Int → Option Int) (c : Nat) (w w' : World) : Prop :=
  ∃ F', QAt B w' b F' most q tk f c ∧ (∀ k, F' k → F k ∨ w.heap.size ≤ k) ∧ Kept F w w'
theorem QIn.foot {B : Nat} {w : World} {b ba mb : Nat} {G : Option Nat} {most : Int} {q : Fq Int} {tk : Int} {f : Int → Option Int} {c : Nat} (h : QIn B w b ba mb G most q tk f c) (k : Nat) (hk : ft b ba mb G k) : B ≤ k ∧ k < w.heap.size := by
  rcases hk with rfl | rfl | rfl | hk
  · exact ⟨h.big, h.rc.lt⟩
  · exact ⟨h.ar.big, h.ar.lt⟩
  · exact ⟨h.bim, h.mp.lt⟩
  · exact h.ar.row hk.symm
/-- A change of the map. -/
theorem QIn.map {B : Nat} {w w' : World} {b ba mb : Nat} {G : Option Nat} {most : Int} {q : Fq Int} {tk : Int} {f f' : Int → Option Int} {c c' : Nat} (h : QIn B w b ba mb G most q tk f c) (hm : MapI Tryd.prog 3 w' mb f' c') (hg : w.grownBy w' (some mb)) : QIn B w' b ba mb G most q tk f' c' ∧ Kept (fun k => k = mb) w w' := by
  have hk : Kept (fun k => k = mb) w w' := ⟨hg.os, hg.tape, hg.output, hg.size, fun k hk hn => hg.block k hk (fun e => hn (by injection e))⟩
  obtain ⟨p1, p2, p3, p4, p5, p6⟩ := h.apart
  exact ⟨⟨h.big, h.bim, h.rc.kept hk p2, h.ar.kept hk p3 (fun g hG e => by subst e; exact p6 hG.symm), hm⟩, hk⟩
set_option maxHeartbeats 4000000 in
theorem Push_any {B : Nat} {w : World} {b : Nat} {F : Nat → Prop} {most : Int} {q : Fq Int} {tk : Int} {f : Int → Option Int} {c cS : Nat} (h : QAt B w b F most q tk f c) (hB : B ≤ w.heap.size) (hS : OkA cS q.S) (hcS : cS ≤ 100000) (hc : c ≤ 100000) (ht0 : 0 ≤ tk) (ht1 : tk ≤ 1000000) (hlen : q.S.l.length ≤ 100000) (v : Int) (S' : Ar Lk) (p e : Nat) (hp : putA zL most q.S (v, tk + 1, -1, -1) = (S', p, e)) (hp1 : p ≤ 100000) (he : e = 0) (hfn : f (tk + 1) = none) :
    Calls Tryd.prog 28 #[.pointer (some ⟨b, 0, none⟩), .int .i64 v] w (fun e w' => e = .returned (.tuple #[.int .i64 (tk + 1), .int .i64 0]) ∧ QP B b F most (pushQ zL q S' p) (tk + 1) (upd f (tk + 1) (some (p : Int))) (c + 1) w w') := by
  subst he
  have HFN := hid hfn
  clear hfn
  obtain ⟨ba, mb, G, h, hF⟩ := h
  subst hF
  have hpu := LPut_any cS B ba most q.S (v, tk + 1, -1, -1) w.drew hS hcS (h.far (Below.refl _ _).drew).ar hB
  unfold PutP at hpu
  rw [hp] at hpu
  have HPU := hid hpu
  have HH := hid h
  have q0 := Rec.cell h.rc 0
  have q4 := Rec.cell h.rc 4
  simp at q0 q4
  have hlb := h.rc.lt
  have e1 : IntKind.i64.wrap (tk + 1) = tk + 1 := by rw [IntKind.wrap_i64]; omega
  clear h hpu hp hS
  go_enter Tryd.func28, Tryd.ntmps28
  go_upto_region 3 with (fail)
  have h0 := HH.out.far (Below.refl _ w).drew
  have HA := hid (fun (w3 : World) (G' : Option Nat) (ha : ArL B w3 ba G' most S') (hk : KeptA ba G w.drew w3) => h0.arena ha hk)
  clear h0
  go_region_held3 (fun W => W.cell? ⟨b, 0, none⟩ = some (.pointer (some ⟨ba, 0, none⟩)) ∧ W.cell? ⟨b, 4, none⟩ = some (.int .i64 tk)) (first | (simp [go_sem, *]; done)) (first | (go_at_call 47; refine HPU.out.mono ?_; rintro _ w3 ⟨rfl, ⟨G', ha, hn⟩, -, hk⟩; have HQ3 := hid (HA.out w3 G' ha hk); have HK3 := hid hk; have HN3 := hid hn; clear hk hn ha; have c0 := Rec.cell HQ3.out.rc 0; have c4 := Rec.cell HQ3.out.rc 4; simp at c0 c4))
  have HKF := hid ((Kept.of_below (Below.refl _ w).drew (ft b ba mb G)).trans (Kept.mono HK3.out (fun k _ hk => by rcases hk with hk | hk; exact .inr (.inl hk); exact .inr (.inr (.inr hk)))))
  have HNF := hid (fun (k : Nat) (hk : ft b ba mb G' k) => (show ft b ba mb G k ∨ w.heap.size ≤ k by
    rcases hk with hk | hk | hk | hk
    · exact .inl (.inl hk)
    · exact .inl (.inr (.inl hk))
    · exact .inl (.inr (.inr (.inl hk)))
    · rcases HN3.out with h | ⟨g, h, h2⟩
      · exact .inl (.inr (.inr (.inr (by rw [hk, h]))))
      · rw [h] at hk
        injection hk with hk
        exact .inr (by rw [hk]; exact h2)))
  have f4 := Rec.frozen HQ3.out.rc 4
  have l4 := HQ3.out.rc.lt
  have H4 := hid (HQ3.out.field 4 (.int .i64 (tk + 1)) q.fi q.la (tk + 1) rfl)
  obtain ⟨w4, ew4⟩ : ∃ W, W = w3.setCell ⟨b, 4, none⟩ (.int .i64 (tk + 1)) := ⟨_, rfl⟩
  rw [← ew4] at H4
  have HK4 : Hid (Kept (ft b ba mb G) w w4) := hid (by rw [ew4]; exact HKF.out.setCell (p := ⟨b, 4, none⟩) (.inr (.inl rfl)) _)
  have EW4 := hid ew4
  clear ew4 HPU HA HK3 HN3 q0 q4
  go_upto_region 7 with (fail)
  rw [← EW4.out]
  obtain ⟨w5, r5, m5, g5, -⟩ := (H4.out.far (Below.refl _ w4).drew).mp.store (m := 88) (x := tk + 1) (y := (p : Int)) (by kernel_rfl) (by kernel_rfl) (by unfold I64; omega) (by unfold I64; omega) (by unfold maxLen; omega)
  rw [HFN.out] at m5
  obtain ⟨h5, k5⟩ := (H4.out.far (Below.refl _ w4).drew).map m5 g5
  have H5 := hid h5
  have HK5 := hid ((HK4.out.trans (Kept.of_below (Below.refl _ w4).drew _)).trans (kept_one k5 (.inr (.inr (.inl rfl)))))
  have q1 := Rec.cell H4.out.rc 1
  have q4 := Rec.cell H4.out.rc 4
  simp at q1 q4
  clear h5 k5 m5 g5 c0 c4 f4 HKF HK4 EW4
  refine wp_region_split (S := (fun W => W.cell? ⟨b, 1, none⟩ = some (.map (some mb)) ∧ W.cell? ⟨b, 4, none⟩ = some (.int .i64 (tk + 1)))) 9 (by kernel_rfl) (by kernel_rfl) ?_ (fun hHeld => ?_)
  · (first | (simp [go_sem, *]; done))
  simp only [List.take_succ_cons, List.take_zero, List.drop_succ_cons, List.drop_zero]
  refine wpAnyH_take (i := 0) (v := ?_) rfl (by kernel_rfl) (by kernel_rfl) (by kernel_rfl) (fun _ _ _ h => h) (Or.inl ⟨by rfl, ?_⟩) (by assumption) ?_
  rotate_left
  · intro w hSw; (try dsimp only at hSw); go_simp; try with_reducible rfl
  try simp only [put_simp]
  refine wpAnyH_take (i := 1) (v := ?_) rfl (by kernel_rfl) (by kernel_rfl) (by kernel_rfl) (fun _ _ _ h => h) (Or.inl ⟨by rfl, ?_⟩) (by assumption) ?_
  rotate_left
  · intro w hSw; (try dsimp only at hSw); go_simp; try with_reducible rfl
  try simp only [put_simp]
  refine wpAnyH_take (i := 2) (v := ?_) rfl (by kernel_rfl) (by kernel_rfl) (by kernel_rfl) (fun _ _ _ h => h) (Or.inl ⟨by rfl, ?_⟩) (by assumption) ?_
  rotate_left
  · intro w hSw; (try dsimp only at hSw); go_simp; try with_reducible rfl
  try simp only [put_simp]
  refine wpAnyH_take (i := 3) (v := ?_) rfl (by kernel_rfl) (by kernel_rfl) (by kernel_rfl) (fun _ _ _ h => h) (Or.inl ⟨by rfl, ?_⟩) (by assumption) ?_
  rotate_left
  · intro w hSw; (try dsimp only at hSw); go_simp; try with_reducible rfl
  try simp only [put_simp]
  refine wpAnyH_take (i := 4) (v := ?_) rfl (by kernel_rfl) (by kernel_rfl) (by kernel_rfl) (fun _ _ _ h => h) (Or.inl ⟨by rfl, ?_⟩) (by assumption) ?_
  rotate_left
  · intro w hSw; (try dsimp only at hSw); go_simp; try with_reducible rfl
  try simp only [put_simp]
  refine wpAnyH_take (i := 5) (v := ?_) rfl (by kernel_rfl) (by kernel_rfl) (by kernel_rfl) (fun _ _ _ h => h) (Or.inl ⟨by rfl, ?_⟩) (by assumption) ?_
  rotate_left
  · intro w hSw; (try dsimp only at hSw); go_simp; try with_reducible rfl
  try simp only [put_simp]
  refine wpAnyH_take (i := 6) (v := ?_) rfl (by kernel_rfl) (by kernel_rfl) (by kernel_rfl) (fun _ _ _ h => h) (Or.inl ⟨by rfl, ?_⟩) (by assumption) ?_
  rotate_left
  · intro w hSw; (try dsimp only at hSw); go_simp; try with_reducible rfl
  try simp only [put_simp]
  refine wpAnyH_take (i := 7) (v := ?_) rfl (by kernel_rfl) (by kernel_rfl) (by kernel_rfl) (fun _ _ _ h => h) (Or.inl ⟨by rfl, ?_⟩) (by assumption) ?_
  rotate_left
  · intro w hSw; (try dsimp only at hSw); go_simp; try with_reducible rfl
  try simp only [put_simp]
  refine wpAnyH_take (i := 8) (v := ?_) rfl (by kernel_rfl) (by kernel_rfl) (by kernel_rfl) (fun _ _ _ h => h) (Or.inl ⟨by rfl, ?_⟩) (by assumption) ?_
  rotate_left
  · intro w hSw; (try dsimp only at hSw); go_simp; try with_reducible rfl
  try simp only [put_simp]
  refine wpAnyH_done (by kernel_rfl) ?_ _
  change wpList _ _ _ _ _ _
  have d3 := Rec.cell H5.out.rc 3
  simp at d3
  have HJ := hid (join_any H5.out (Nat.le_trans hB HK5.out.size) q.la (p : Int))
  go_upto_region 9 with (go_at_call 48; refine HJ.out.mono ?_; rintro _ w6 ⟨rfl, h6, k6⟩; have H6 := hid h6; have HK6 := hid k6; clear h6 k6)
  obtain ⟨q6, eq6⟩ : ∃ q6, joinF zL ⟨S', q.fi, q.la⟩ q.la (p : Int) = q6 := ⟨_, rfl⟩
  have HPQ := hid (show pushQ zL q S' (p : Int) = ⟨q6.S, q6.fi, p⟩ by unfold pushQ; rw [eq6])
  rw [eq6] at H6
  have d3 := Rec.cell H6.out.rc 3
  have d4 := Rec.cell H6.out.rc 4
  have f3 := Rec.frozen H6.out.rc 3
  have l3 := H6.out.rc.lt
  simp at d3 d4
  have H7 := hid (H6.out.field 3 (.int .i64 (p : Int)) q6.fi p (tk + 1) rfl)
  have HK7 := hid ((HK5.out.trans' HK6.out (fun i hi hg => (HNF.out i hg).resolve_right (by omega))).setCell (p := ⟨b, 3, none⟩) (.inr (.inl rfl)) (.int .i64 (p : Int)))
  clear eq6 HJ r5 H6 HK6 HK5 H5 H4 HQ3
  go_wp2_with fail
  go_ret2
  exact ⟨rfl, ft b ba mb G', ⟨ba, mb, G', by rw [HPQ.out]; exact H7.out, rfl⟩, HNF.out, HK7.out⟩
set_option maxHeartbeats 1000000 in
theorem PushF_any {B : Nat} {w : World} {b : Nat} {F : Nat → Prop} {most : Int} {q : Fq Int} {tk : Int} {f : Int → Option Int} {c cS : Nat} (h : QAt B w b F most q tk f c) (hB : B ≤ w.heap.size) (hS : OkA cS q.S) (hcS : cS ≤ 100000) (ht0 : 0 ≤ tk) (ht1 : tk ≤ 1000000) (v : Int) (hp : most ≤ q.S.n) :
    Calls Tryd.prog 28 #[.pointer (some ⟨b, 0, none⟩), .int .i64 v] w (fun e w' => e = .returned (.tuple #[.int .i64 0, .int .i64 3]) ∧ QP B b F most q tk f c w w') := by
  obtain ⟨ba, mb, G, h, hF⟩ := h
  subst hF
  have hpu := LPut_any cS B ba most q.S (v, tk + 1, -1, -1) w.drew hS hcS (h.far (Below.refl _ _).drew).ar hB
  unfold PutP at hpu
  rw [show putA zL most q.S (v, tk + 1, -1, -1) = (q.S, 0, 3) from if_pos hp] at hpu
  have HPU := hid hpu
  have q0 := Rec.cell h.rc 0
  have q4 := Rec.cell h.rc 4
  simp at q0 q4
  have hlb := h.rc.lt
  have e1 : IntKind.i64.wrap (tk + 1) = tk + 1 := by rw [IntKind.wrap_i64]; omega
  have h0 := h.far (Below.refl _ w).drew
  have HA := hid (fun (w3 : World) (G' : Option Nat) (ha : ArL B w3 ba G' most q.S) (hk : KeptA ba G w.drew w3) => h0.arena ha hk)
  clear h0 h hpu hp hS
  go_enter Tryd.func28, Tryd.ntmps28
  go_upto_region 3 with (fail)
  go_region_held3 (fun W => W.cell? ⟨b, 0, none⟩ = some (.pointer (some ⟨ba, 0, none⟩)) ∧ W.cell? ⟨b, 4, none⟩ = some (.int .i64 tk)) (first | (simp [go_sem, *]; done)) (first | (go_at_call 47; refine HPU.out.mono ?_; rintro _ w3 ⟨rfl, ⟨G', ha, hn⟩, -, hk⟩; have HQ3 := hid (HA.out w3 G' ha hk); have HK3 := hid hk; have HN3 := hid hn; clear hk hn ha; have c0 := Rec.cell HQ3.out.rc 0; have c4 := Rec.cell HQ3.out.rc 4; simp at c0 c4))
  have HKF := hid ((Kept.of_below (Below.refl _ w).drew (ft b ba mb G)).trans (Kept.mono HK3.out (fun k _ hk => by rcases hk with hk | hk; exact .inr (.inl hk); exact .inr (.inr (.inr hk)))))
  have HNF := hid (fun (k : Nat) (hk : ft b ba mb G' k) => (show ft b ba mb G k ∨ w.heap.size ≤ k by
    rcases hk with hk | hk | hk | hk
    · exact .inl (.inl hk)
    · exact .inl (.inr (.inl hk))
    · exact .inl (.inr (.inr (.inl hk)))
    · rcases HN3.out with h | ⟨g, h, h2⟩
      · exact .inl (.inr (.inr (.inr (by rw [hk, h]))))
      · rw [h] at hk
        injection hk with hk
        exact .inr (by rw [hk]; exact h2)))
  clear HPU HA HK3 HN3 q0 q4
  go_wp2_with fail
  go_ret2
  exact ⟨rfl, ft b ba mb G', ⟨ba, mb, G', HQ3.out, rfl⟩, HNF.out, HKF.out⟩

end Go.Proofs.YtngokihncjkiaaaDoor
namespace Go.Proofs.YtngokihncjkiaaaDoor
open Go.RowKit
set_option maxHeartbeats 4000000 in
theorem take_any {B : Nat} {w : World} {b : Nat} {F : Nat → Prop} {most : Int} {q : Fq Int} {tk : Int} {f : Int → Option Int} {c cS : Nat} (h : QAt B w b F most q tk f c) (hB : B ≤ w.heap.size) (hS : OkA cS q.S) (hcS : cS ≤ 100000) (p : Int) (hp : isA zL q.S.l p = true) (v : Int) (t pr nx : Int) (hx : (getA zL q.S p).1 = (v, t, pr, nx)) (ht : I64 t) (hft : (f t).isSome = true) :
    Calls Tryd.prog 53 #[.pointer (some ⟨b, 0, none⟩), .int .i64 p] w (fun e w' => e = .returned (.tuple #[.int .i64 v, .bool true]) ∧ QP B b F most (takeQ zL q p) tk (upd f t none) (c - 1) w w') := by
  obtain ⟨ba, mb, G, h, hF⟩ := h
  subst hF
  have hdr := LDrop_any cS B ba most q.S p w hS hcS h.ar hB
  unfold ChP at hdr
  rw [hx, getA_2, hp] at hdr
  have HDR := hid hdr
  have HTQ := hid (show takeQ zL q p = joinF zL ⟨dropA zL q.S p, q.fi, q.la⟩ pr nx by unfold takeQ; rw [if_pos hp, hx])
  have HH := hid h
  have HFT := hid hft
  have HT := hid ht
  have q0 := Rec.cell h.rc 0
  simp at q0
  have hlb := h.rc.lt
  clear h hdr hS hp hx hft ht
  go_enter Tryd.func53, Tryd.ntmps53
  go_upto_region 3 with (go_at_call 69; refine HDR.out.mono ?_; rintro _ w2 ⟨rfl, ha, -, hk⟩; have HQ2 := hid (HH.out.arena ha hk); have HK2 := hid (Kept.mono hk (fun k _ hk => (by rcases hk with hk | hk; exact .inr (.inl hk); exact .inr (.inr (.inr hk)) : ft b ba mb G k))); clear ha hk)
  obtain ⟨X, eX⟩ : ∃ X, w2.heap.size = X := ⟨_, rfl⟩
  obtain ⟨w3, ew3⟩ : ∃ W, W = w2.alloc (.cells #[.int .i64 v, .int .i64 t, .int .i64 pr, .int .i64 nx] 93) := ⟨_, rfl⟩
  have hbx : Rec w3 X 93 #[.int .i64 v, .int .i64 t, .int .i64 pr, .int .i64 nx] := by rw [ew3, ← eX]; exact Rec.new w2 _ _
  have hb3 : Below w2.heap.size w2 w3 := by rw [ew3]; exact (Below.refl _ w2).alloc (Nat.le_refl _) _
  have H3 := hid (HQ2.out.far hb3)
  have HNX := hid (show ¬ ft b ba mb G X from fun hf => by have := (HQ2.out.foot X hf).2; omega)
  have HK3 := hid (HK2.out.trans (Kept.of_below hb3 _))
  rw [eX, ← ew3]
  clear ew3 hb3 eX HDR HK2 HQ2 q0
  obtain ⟨w5, r5, m5, g5, -⟩ := (H3.out.far (Below.refl _ w3).drew).mp.drop (m := 88) (x := t) (by kernel_rfl) (by kernel_rfl) HT.out 0
  rw [HFT.out] at m5
  simp only [if_true] at m5
  obtain ⟨h5, k5⟩ := (H3.out.far (Below.refl _ w3).drew).map m5 g5
  have H5 := hid h5
  have HBX := hid hbx
  have HB5 := hid ((hbx.drew).kept k5 (fun e => HNX.out (.inr (.inr (.inl e)))))
  have HK5 := hid ((HK3.out.trans (Kept.of_below (Below.refl _ w3).drew _)).trans (kept_one k5 (.inr (.inr (.inl rfl)))))
  have q1 := Rec.cell H3.out.rc 1
  have c1 := Rec.cell hbx 1
  simp at q1 c1
  clear h5 k5 m5 g5 hbx HK3
  refine wp_region_split (S := (fun W => W.cell? ⟨b, 1, none⟩ = some (.map (some mb)) ∧ W.cell? ⟨X, 1, none⟩ = some (.int .i64 t))) 6 (by kernel_rfl) (by kernel_rfl) ?_ (fun hHeld => ?_)
  · (first | (simp [go_sem, *]; done))
  simp only [List.take_succ_cons, List.take_zero, List.drop_succ_cons, List.drop_zero]
  refine wpAnyH_take (i := 0) (v := ?_) rfl (by kernel_rfl) (by kernel_rfl) (by kernel_rfl) (fun _ _ _ h => h) (Or.inl ⟨by rfl, ?_⟩) (by assumption) ?_
  rotate_left
  · intro w hSw; (try dsimp only at hSw); go_simp; try with_reducible rfl
  try simp only [put_simp]
  refine wpAnyH_take (i := 1) (v := ?_) rfl (by kernel_rfl) (by kernel_rfl) (by kernel_rfl) (fun _ _ _ h => h) (Or.inl ⟨by rfl, ?_⟩) (by assumption) ?_
  rotate_left
  · intro w hSw; (try dsimp only at hSw); go_simp; try with_reducible rfl
  try simp only [put_simp]
  refine wpAnyH_take (i := 2) (v := ?_) rfl (by kernel_rfl) (by kernel_rfl) (by kernel_rfl) (fun _ _ _ h => h) (Or.inl ⟨by rfl, ?_⟩) (by assumption) ?_
  rotate_left
  · intro w hSw; (try dsimp only at hSw); go_simp; try with_reducible rfl
  try simp only [put_simp]
  refine wpAnyH_take (i := 3) (v := ?_) rfl (by kernel_rfl) (by kernel_rfl) (by kernel_rfl) (fun _ _ _ h => h) (Or.inl ⟨by rfl, ?_⟩) (by assumption) ?_
  rotate_left
  · intro w hSw; (try dsimp only at hSw); go_simp; try with_reducible rfl
  try simp only [put_simp]
  refine wpAnyH_take (i := 4) (v := ?_) rfl (by kernel_rfl) (by kernel_rfl) (by kernel_rfl) (fun _ _ _ h => h) (Or.inl ⟨by rfl, ?_⟩) (by assumption) ?_
  rotate_left
  · intro w hSw; (try dsimp only at hSw); go_simp; try with_reducible rfl
  try simp only [put_simp]
  refine wpAnyH_take (i := 5) (v := ?_) rfl (by kernel_rfl) (by kernel_rfl) (by kernel_rfl) (fun _ _ _ h => h) (Or.inl ⟨by rfl, ?_⟩) (by assumption) ?_
  rotate_left
  · intro w hSw; (try dsimp only at hSw); go_simp; try with_reducible rfl
  try simp only [put_simp]
  refine wpAnyH_done (by kernel_rfl) ?_ _
  change wpList _ _ _ _ _ _
  have d2 := Rec.cell HB5.out 2
  have d3 := Rec.cell HB5.out 3
  simp at d2 d3
  have HJ := hid (join_any H5.out (Nat.le_trans hB HK5.out.size) pr nx)
  go_upto_region 5 with (go_at_call 48; refine HJ.out.mono ?_; rintro _ w6 ⟨rfl, h6, k6⟩; have H6 := hid h6; have HK6 := hid k6; clear h6 k6)
  have d0 := Rec.cell (HB5.out.kept HK6.out HNX.out) 0
  simp at d0
  have HFF := hid (HK5.out.trans HK6.out)
  clear HJ r5 HK5 HK6 H5 H3 q1 c1 d2 d3
  go_wp2_with fail
  go_ret2
  exact ⟨rfl, ft b ba mb G, ⟨ba, mb, G, by rw [HTQ.out]; exact H6.out, rfl⟩, fun k hk => .inl hk, HFF.out⟩
set_option maxHeartbeats 1000000 in
theorem takeN_any {B : Nat} {w : World} {b : Nat} {F : Nat → Prop} {most : Int} {q : Fq Int} {tk : Int} {f : Int → Option Int} {c cS : Nat} (h : QAt B w b F most q tk f c) (hB : B ≤ w.heap.size) (hS : OkA cS q.S) (hcS : cS ≤ 100000) (p : Int) (hp : isA zL q.S.l p = false) :
    Calls Tryd.prog 53 #[.pointer (some ⟨b, 0, none⟩), .int .i64 p] w (fun e w' => e = .returned (.tuple #[.int .i64 0, .bool false]) ∧ QP B b F most q tk f c w w') := by
  obtain ⟨ba, mb, G, h, hF⟩ := h
  subst hF
  have hdr := LDrop_any cS B ba most q.S p w hS hcS h.ar hB
  unfold ChP at hdr
  have hg : getA zL q.S p = (zL, false) := if_neg (by rw [hp]; simp)
  have hd : dropA zL q.S p = q.S := if_neg (by rw [hp]; simp)
  rw [hg, hd] at hdr
  have HDR := hid hdr
  have HH := hid h
  have q0 := Rec.cell h.rc 0
  simp at q0
  have hlb := h.rc.lt
  clear h hdr hS hp hg hd
  go_enter Tryd.func53, Tryd.ntmps53
  go_wp2_with (go_at_call 69; refine HDR.out.mono ?_; rintro _ w2 ⟨rfl, ha, -, hk⟩; have HQ2 := hid (HH.out.arena ha hk); have HK2 := hid (Kept.mono hk (fun k _ hk => (by rcases hk with hk | hk; exact .inr (.inl hk); exact .inr (.inr (.inr hk)) : ft b ba mb G k))); clear ha hk)
  go_ret2
  have hb3 := (Below.refl _ w2).alloc (Nat.le_refl _) (.cells #[.int .i64 zL.1, .int .i64 zL.2.1, .int .i64 zL.2.2.1, .int .i64 zL.2.2.2] 93)
  exact ⟨rfl, ft b ba mb G, ⟨ba, mb, G, HQ2.out.far hb3, rfl⟩, fun k hk => .inl hk, HK2.out.trans (Kept.of_below hb3 _)⟩

end Go.Proofs.YtngokihncjkiaaaDoor
namespace Go.Proofs.YtngokihncjkiaaaDoor
open Go.RowKit
theorem FLen_any {B : Nat} {w : World} {b : Nat} {F : Nat → Prop} {most : Int} {q : Fq Int} {tk : Int} {f : Int → Option Int} {c : Nat} (h : QAt B w b F most q tk f c) :
    Calls Tryd.prog 50 #[.pointer (some ⟨b, 0, none⟩)] w (Gives (.int .i64 q.S.n) w) := by
  obtain ⟨ba, mb, G, h, hF⟩ := h
  have HL := hid (LLen_any ba most q.S w h.ar.rd)
  have q0 := Rec.cell h.rc 0
  simp at q0
  clear h
  go_enter Tryd.func50, Tryd.ntmps50
  go_wp2_with (go_at_call 68; refine HL.out.mono ?_; rintro _ _ ⟨rfl, y1, rfl⟩)
  go_ret
  exact Gives.mk rfl (World.below_past _ _)
set_option maxHeartbeats 1000000 in
theorem FPop_any {B : Nat} {w : World} {b : Nat} {F : Nat → Prop} {most : Int} {q : Fq Int} {tk : Int} {f : Int → Option Int} {c : Nat} (h : QAt B w b F most q tk f c) (R : Ending → World → Prop) (ht : Calls Tryd.prog 53 #[.pointer (some ⟨b, 0, none⟩), .int .i64 q.fi] w (fun e w' => ∃ v ok, e = .returned (.tuple #[.int .i64 v, .bool ok]) ∧ R (.returned (.tuple #[.int .i64 v, .bool ok])) w')) :
    Calls Tryd.prog 32 #[.pointer (some ⟨b, 0, none⟩)] w R := by
  obtain ⟨ba, mb, G, h, hF⟩ := h
  have HT := hid ht
  have q2 := Rec.cell h.rc 2
  simp at q2
  clear h ht
  go_enter Tryd.func32, Tryd.ntmps32
  go_wp2_with (go_at_call 53; refine HT.out.mono ?_; rintro _ w2 ⟨v, ok, rfl, hR⟩)
  exact hR
set_option maxHeartbeats 1000000 in
theorem LNew_any (B : Nat) (most : Int) (w : World) (hB : B ≤ w.heap.size) :
    Calls Tryd.prog 65 #[.int .i64 most] w (fun e w' => e = .returned (.pointer (some ⟨w.heap.size, 0, none⟩)) ∧ ArL B w' w.heap.size none (mostA most) ⟨[], 0, 0⟩ ∧ Below w.heap.size w w') := by
  obtain ⟨m, hm⟩ : ∃ m, mostA most = m := ⟨_, rfl⟩
  rw [hm]
  have key : ∀ W : World, W = w.alloc (.cells #[.int .i64 m, .slice none 0 0, .int .i64 0, .int .i64 0] 110) → ArL B W w.heap.size none m ⟨[], 0, 0⟩ ∧ Below w.heap.size w W := by
    rintro _ rfl
    exact ⟨⟨hB, none, 0, Rec.new w _ _, ⟨rfl, .inl ⟨rfl, rfl⟩⟩, rfl⟩, (Below.refl _ w).alloc (Nat.le_refl _) _⟩
  have K := hid key
  unfold mostA at hm
  clear key
  by_cases h1 : most < 0
  · obtain rfl : m = 0 := by omega
    clear hm
    go_enter Tryd.func65, Tryd.ntmps65
    go_wp2
    go_ret
    exact ⟨rfl, K.out _ rfl⟩
  · by_cases h2 : 4096 < most
    · obtain rfl : m = 4096 := by omega
      clear hm
      have h3 : 0 ≤ most := by omega
      go_enter Tryd.func65, Tryd.ntmps65
      go_wp2
      go_ret
      exact ⟨rfl, K.out _ rfl⟩
    · obtain rfl : m = most := by omega
      clear hm
      have h3 : 0 ≤ m := by omega
      have h4 : m ≤ 4096 := by omega
      go_enter Tryd.func65, Tryd.ntmps65
      go_wp2
      go_ret
      exact ⟨rfl, K.out _ rfl⟩
set_option maxHeartbeats 1000000 in
theorem FNew_any (B : Nat) (most : Int) (w : World) (hB : B ≤ w.heap.size) :
    Calls Tryd.prog 46 #[.int .i64 most] w (fun e w' => ∃ b F, e = .returned (.pointer (some ⟨b, 0, none⟩)) ∧ QAt B w' b F (mostA most) ⟨⟨[], 0, 0⟩, -1, -1⟩ 0 (fun _ => none) 0 ∧ (∀ k, F k → w.heap.size ≤ k) ∧ Below w.heap.size w w') := by
  have HN := hid (LNew_any B most w hB)
  have hmm := @run_makeMap Tryd.prog
  go_enter Tryd.func46, Tryd.ntmps46
  go_wp2_with (go_at_call 65; refine HN.out.mono ?_; rintro _ w2 ⟨rfl, ha, hb⟩; have HA := hid ha; have HB2 := hid hb; clear ha hb)
  go_ret
  have hb := HB2.out
  obtain ⟨W, eW⟩ : ∃ W, W = (w2.alloc (.map #[] 0)).alloc (.cells #[.pointer (some ⟨w.heap.size, 0, none⟩), .map (some w2.heap.size), .int .i64 (-1), .int .i64 (-1), .int .i64 0] 90) := ⟨_, rfl⟩
  have hbW : Below w2.heap.size w2 W := by rw [eW]; exact ((Below.refl _ w2).alloc (Nat.le_refl _) _).alloc (by simp) _
  have hrW : Rec W (w2.heap.size + 1) 90 #[.pointer (some ⟨w.heap.size, 0, none⟩), .map (some w2.heap.size), .int .i64 (-1), .int .i64 (-1), .int .i64 0] := by
    rw [eW]
    have := Rec.new (w2.alloc (.map #[] 0)) 90 #[.pointer (some ⟨w.heap.size, 0, none⟩), .map (some w2.heap.size), .int .i64 (-1), .int .i64 (-1), .int .i64 0]
    simpa using this
  have hmW : MapI Tryd.prog 3 W w2.heap.size (fun _ => none) 0 := by
    rw [eW]
    exact ((MapI.made (P := Tryd.prog) (t := 3) w2).below ((Below.refl _ _).alloc (Nat.le_refl _) _) (by simp)).ext fun z => rfl
  have hs := hb.size
  rw [← eW]
  refine ⟨w2.heap.size + 1, _, rfl, ⟨w.heap.size, w2.heap.size, none, ⟨by omega, by omega, hrW, HA.out.below hbW, hmW⟩, rfl⟩, fun k hk => ?_, hb.trans (hbW.mono hs)⟩
  rcases hk with hk | hk | hk | hk
  · omega
  · omega
  · omega
  · cases hk

end Go.Proofs.YtngokihncjkiaaaDoor
namespace Go.Proofs.YtngokihncjkiaaaDoor
open Go.RowKit
/-! A queue as a list of tickets and values. -/
def QA (B : Nat) (w : World) (b : Nat) (F : Nat → Prop) (most : Int) (tk : Int) (L : List (Int × Int)) : Prop :=
  ∃ q f c Q ks, QAt B w b F most q tk f c ∧ InvQ zL q tk f c Q ks ∧ Q.map (·.2) = L ∧ q.S.l.length ≤ 5000 ∧ most ≤ 4096 ∧ 0 ≤ tk ∧ (L.length : Int) ≤ max most 0
/-- Behind an act. -/
def QR (B b : Nat) (F : Nat → Prop) (most tk : Int) (L : List (Int × Int)) (w w' : World) : Prop :=
  ∃ F', QA B w' b F' most tk L ∧ (∀ k, F' k → F k ∨ w.heap.size ≤ k) ∧ Kept F w w'
section
variable {B : Nat} {w w' : World} {b : Nat} {F : Nat → Prop} {most : Int} {q : Fq Int} {tk : Int} {f : Int → Option Int} {c : Nat} {L : List (Int × Int)}
theorem QAt.far (h : QAt B w b F most q tk f c) (hb : Below w.heap.size w w') : QAt B w' b F most q tk f c := by
  obtain ⟨ba, mb, G, h, hF⟩ := h
  exact ⟨ba, mb, G, h.far hb, hF⟩
theorem QAt.kept {X : Nat → Prop} (h : QAt B w b F most q tk f c) (hk : Kept X w w') (hX : ∀ k, F k → ¬ X k) : QAt B w' b F most q tk f c := by
  obtain ⟨ba, mb, G, h, hF⟩ := h
  exact ⟨ba, mb, G, h.kept hk (fun k hk => hX k (by rw [hF]; exact hk)), hF⟩
theorem QAt.foot (h : QAt B w b F most q tk f c) (k : Nat) (hk : F k) : B ≤ k ∧ k < w.heap.size := by
  obtain ⟨ba, mb, G, h, hF⟩ := h
  exact h.foot k (by rw [← hF]; exact hk)
theorem QA.far (h : QA B w b F most tk L) (hb : Below w.heap.size w w') : QA B w' b F most tk L := by
  obtain ⟨q, f, c, Q, ks, h1, h2⟩ := h
  exact ⟨q, f, c, Q, ks, h1.far hb, h2⟩
theorem QA.kept {X : Nat → Prop} (h : QA B w b F most tk L) (hk : Kept X w w') (hX : ∀ k, F k → ¬ X k) : QA B w' b F most tk L := by
  obtain ⟨q, f, c, Q, ks, h1, h2⟩ := h
  exact ⟨q, f, c, Q, ks, h1.kept hk hX, h2⟩
theorem QA.foot (h : QA B w b F most tk L) (k : Nat) (hk : F k) : B ≤ k ∧ k < w.heap.size := by
  obtain ⟨q, f, c, Q, ks, h1, h2⟩ := h
  exact h1.foot k hk
end
theorem QNew_any (B : Nat) (most : Int) (w : World) (hB : B ≤ w.heap.size) :
    Calls Tryd.prog 46 #[.int .i64 most] w (fun e w' => ∃ b F, e = .returned (.pointer (some ⟨b, 0, none⟩)) ∧ QA B w' b F (mostA most) 0 [] ∧ (∀ k, F k → w.heap.size ≤ k) ∧ Below w.heap.size w w') :=
  (FNew_any B most w hB).mono fun _ _ ⟨b, F, h1, h2, h3, h4⟩ => ⟨b, F, h1, ⟨_, _, _, [], [], h2, InvQ.nil _, rfl, by simp, by unfold mostA; omega, by omega, by simp; omega⟩, h3, h4⟩
theorem QLen_any {B : Nat} {w : World} {b : Nat} {F : Nat → Prop} {most tk : Int} {L : List (Int × Int)} (h : QA B w b F most tk L) :
    Calls Tryd.prog 50 #[.pointer (some ⟨b, 0, none⟩)] w (Gives (.int .i64 (L.length : Int)) w) := by
  obtain ⟨q, f, c, Q, ks, h1, h2, h3, _⟩ := h
  have := FLen_any h1
  rw [h2.n] at this
  rw [← h3, List.length_map]
  exact this
theorem QPush_any {B : Nat} {w : World} {b : Nat} {F : Nat → Prop} {most tk : Int} {L : List (Int × Int)} (h : QA B w b F most tk L) (hB : B ≤ w.heap.size) (ht1 : tk ≤ 1000000) (hr : (L.length : Int) < most) (v : Int) :
    Calls Tryd.prog 28 #[.pointer (some ⟨b, 0, none⟩), .int .i64 v] w (fun e w' => e = .returned (.tuple #[.int .i64 (tk + 1), .int .i64 0]) ∧ QR B b F most (tk + 1) (L ++ [(tk + 1, v)]) w w') := by
  obtain ⟨q, f, c, Q, ks, h1, h2, h3, h4, h5, h6, h7⟩ := h
  have hQL : Q.length = L.length := by rw [← h3, List.length_map]
  have hn : q.S.n < most := by rw [h2.n]; omega
  obtain ⟨S', p, ks', hput, hp, hfn, hll, hinv⟩ := push_inv h2 h6 hn v
  refine (Push_any h1 hB h2.ok (by omega) (by have := h2.c; omega) h6 ht1 (by omega) v S' p 0 hput (by omega) rfl hfn).mono ?_
  rintro _ w2 ⟨e, F', g1, g2, g3⟩
  refine ⟨e, F', ⟨_, _, _, _, _, g1, hinv, by rw [List.map_append, h3]; rfl, ?_, h5, by omega, by simp; omega⟩, g2, g3⟩
  have hl := hinv.len
  rcases hll with g | g
  · have j := (join_len (z := zL) (⟨S', q.fi, q.la⟩ : Fq Int) q.la (p : Int)); show (joinF _ _ _ _).S.l.length ≤ 5000; rw [j]; show S'.l.length ≤ 5000; omega
  · have j := (join_len (z := zL) (⟨S', q.fi, q.la⟩ : Fq Int) q.la (p : Int)); show (joinF _ _ _ _).S.l.length ≤ 5000; rw [j]; show S'.l.length ≤ 5000; omega
theorem QPushF_any {B : Nat} {w : World} {b : Nat} {F : Nat → Prop} {most tk : Int} {L : List (Int × Int)} (h : QA B w b F most tk L) (hB : B ≤ w.heap.size) (ht1 : tk ≤ 1000000) (hr : most ≤ (L.length : Int)) (v : Int) :
    Calls Tryd.prog 28 #[.pointer (some ⟨b, 0, none⟩), .int .i64 v] w (fun e w' => e = .returned (.tuple #[.int .i64 0, .int .i64 3]) ∧ QR B b F most tk L w w') := by
  obtain ⟨q, f, c, Q, ks, h1, h2, h3, h4, h5, h6, h7⟩ := h
  have hQL : Q.length = L.length := by rw [← h3, List.length_map]
  refine (PushF_any h1 hB h2.ok (by omega) h6 ht1 v (by rw [h2.n]; omega)).mono ?_
  rintro _ w2 ⟨e, F', g1, g2, g3⟩
  exact ⟨e, F', ⟨q, f, c, Q, ks, g1, h2, h3, h4, h5, h6, h7⟩, g2, g3⟩
/-- An item is taken off its place. -/
theorem qtake_any {B : Nat} {w : World} {b : Nat} {F : Nat → Prop} {most tk : Int} {q : Fq Int} {f : Int → Option Int} {c : Nat} {Q : List (ItQ Int)} {ks : List Nat} (h1 : QAt B w b F most q tk f c) (h2 : InvQ zL q tk f c Q ks) (h4 : q.S.l.length ≤ 5000) (h5 : most ≤ 4096) (h6 : 0 ≤ tk) (h7 : (Q.length : Int) ≤ max most 0) (ht1 : tk ≤ 1000000) (hB : B ≤ w.heap.size) {i : Nat} {x : ItQ Int} (hx : Q[i]? = some x) :
    Calls Tryd.prog 53 #[.pointer (some ⟨b, 0, none⟩), .int .i64 (x.1 : Int)] w (fun e w' => e = .returned (.tuple #[.int .i64 x.2.2, .bool true]) ∧ QR B b F most tk ((Q.map (·.2)).eraseIdx i) w w') := by
  have his := h2.isA hx
  have hxm := List.mem_of_getElem? hx
  have htk := h2.tk x hxm
  have hil := (List.getElem?_eq_some_iff.1 hx).1
  have hg : (getA zL q.S (x.1 : Int)).1 = (x.2.2, x.2.1, pv Q i, plc Q (i + 1)) := by rw [getA_slot _ _ his]; exact (h2.link i x hx).1
  have hinv := take_inv h2 hx
  refine (take_any h1 hB h2.ok (by omega) (x.1 : Int) his x.2.2 x.2.1 _ _ hg (by unfold I64; omega) (by rw [(h2.f _ _).2 ⟨x, hxm, rfl, rfl⟩]; rfl)).mono ?_
  rintro _ w2 ⟨e, F', g1, g2, g3⟩
  refine ⟨e, F', ⟨_, _, _, _, _, g1, hinv, map_eraseIdx _ _ _, ?_, h5, h6, ?_⟩, g2, g3⟩
  · have := hinv.len
    have e2 := h2.len
    have e3 : (Q.eraseIdx i).length = Q.length - 1 := List.length_eraseIdx_of_lt hil
    rw [this, e3]; simp; omega
  · rw [List.length_eraseIdx_of_lt (by simpa using hil), List.length_map]; omega
theorem QPop_any {B : Nat} {w : World} {b : Nat} {F : Nat → Prop} {most tk : Int} {x : Int × Int} {L : List (Int × Int)} (h : QA B w b F most tk (x :: L)) (hB : B ≤ w.heap.size) (ht1 : tk ≤ 1000000) :
    Calls Tryd.prog 32 #[.pointer (some ⟨b, 0, none⟩)] w (fun e w' => e = .returned (.tuple #[.int .i64 x.2, .bool true]) ∧ QR B b F most tk L w w') := by
  obtain ⟨q, f, c, Q, ks, h1, h2, h3, h4, h5, h6, h7⟩ := h
  cases Q with
  | nil => cases h3
  | cons y Q =>
    simp only [List.map_cons, List.cons.injEq] at h3
    obtain ⟨h3, h8⟩ := h3
    refine FPop_any h1 _ ?_
    have hfi : q.fi = (y.1 : Int) := h2.fi
    rw [hfi]
    refine (qtake_any h1 h2 h4 h5 h6 (by rw [← h8] at h7; simpa using h7) ht1 hB (i := 0) (x := y) rfl).mono ?_
    rintro _ w2 ⟨rfl, g⟩
    refine ⟨_, _, rfl, by rw [← h3], ?_⟩
    simp only [List.map_cons, List.eraseIdx_cons_zero] at g
    rw [← h8]; exact g
theorem QPopN_any {B : Nat} {w : World} {b : Nat} {F : Nat → Prop} {most tk : Int} (h : QA B w b F most tk ([] : List (Int × Int))) (hB : B ≤ w.heap.size) :
    Calls Tryd.prog 32 #[.pointer (some ⟨b, 0, none⟩)] w (fun e w' => e = .returned (.tuple #[.int .i64 0, .bool false]) ∧ QR B b F most tk ([] : List (Int × Int)) w w') := by
  obtain ⟨q, f, c, Q, ks, h1, h2, h3, h4, h5, h6, h7⟩ := h
  cases Q with
  | cons y Q => cases h3
  | nil =>
    refine FPop_any h1 _ ?_
    have hfi : q.fi = -1 := h2.fi
    rw [hfi]
    refine (takeN_any h1 hB h2.ok (by omega) (-1) (isA_neg (by omega))).mono ?_
    rintro _ w2 ⟨rfl, F', g1, g2, g3⟩
    exact ⟨0, _, rfl, rfl, F', ⟨q, f, c, [], ks, g1, h2, rfl, h4, h5, h6, h7⟩, g2, g3⟩

end Go.Proofs.YtngokihncjkiaaaDoor
namespace Go.Proofs.YtngokihncjkiaaaDoor
open Go.RowKit
/-! A queue in memory. -/
structure QInS (B : Nat) (w : World) (b ba mb : Nat) (G : Option Nat) (most : Int) (q : Fq ByteArray) (tk : Int) (f : Int → Option Int) (c : Nat) : Prop where
  big : B ≤ b
  bim : B ≤ mb
  rc : Rec w b 99 #[.pointer (some ⟨ba, 0, none⟩), .map (some mb), .int .i64 q.fi, .int .i64 q.la, .int .i64 tk]
  ar : ArLS B w ba G most q.S
  mp : MapI Tryd.prog 3 w mb f c
section
variable {B : Nat} {w w' : World} {b ba mb : Nat} {G : Option Nat} {most : Int} {q : Fq ByteArray} {tk : Int} {f : Int → Option Int} {c : Nat}
theorem QInS.apart (h : QInS B w b ba mb G most q tk f c) : b ≠ ba ∧ b ≠ mb ∧ ba ≠ mb ∧ some b ≠ G ∧ some ba ≠ G ∧ some mb ≠ G := by
  obtain ⟨A, cp, h1, h2, h3⟩ := h.ar.ex
  refine ⟨?_, MapI.cells h.mp h.rc, MapI.cells h.mp h1, ?_, ?_, ?_⟩
  · rintro rfl
    have e1 := h.rc
    unfold Rec at e1 h1
    rw [e1] at h1
    simp at h1
  · rw [← h3]; exact fun e => own_not_rec h2 h.rc (by decide) e.symm
  · rw [← h3]; exact fun e => own_not_rec h2 h1 (by decide) e.symm
  · rw [← h3]
    intro e
    rcases h2.2 with ⟨h4, _⟩ | ⟨g, cap, cur, hv, hg, hh, hr⟩
    · rw [h4] at e; simp [Value.ownBlock] at e
    · rw [hv] at e
      simp only [Value.ownBlock, Option.some.injEq] at e
      exact MapI.cells h.mp hh e.symm
theorem QInS.far (h : QInS B w b ba mb G most q tk f c) (hb : Below w.heap.size w w') : QInS B w' b ba mb G most q tk f c :=
  ⟨h.big, h.bim, h.rc.below hb (Nat.le_refl _), h.ar.below hb, h.mp.below hb h.mp.lt⟩
theorem QInS.kept {X : Nat → Prop} (h : QInS B w b ba mb G most q tk f c) (hk : Kept X w w') (hX : ∀ k, ft b ba mb G k → ¬ X k) : QInS B w' b ba mb G most q tk f c :=
  ⟨h.big, h.bim, h.rc.kept hk (hX _ (.inl rfl)), h.ar.kept hk (hX _ (.inr (.inl rfl))) (fun g hg => hX g (.inr (.inr (.inr hg.symm)))), h.mp.block (hk.block mb h.mp.lt (hX _ (.inr (.inr (.inl rfl)))))⟩
/-- Behind a change of the arena. -/
theorem QInS.arena {S' : Ar LkS} {G' : Option Nat} (h : QInS B w b ba mb G most q tk f c) (ha : ArLS B w' ba G' most S') (hk : KeptA ba G w w') : QInS B w' b ba mb G' most ⟨S', q.fi, q.la⟩ tk f c := by
  obtain ⟨p1, p2, p3, p4, p5, p6⟩ := h.apart
  have nb : ∀ k, k = b ∨ k = mb → ¬ (k = ba ∨ some k = G) := by
    rintro k (rfl | rfl) (e | e)
    · exact p1 e
    · exact p4 e
    · exact p3 e.symm
    · exact p6 e
  exact ⟨h.big, h.bim, h.rc.kept hk (nb _ (.inl rfl)), ha, h.mp.block (Kept.block hk mb h.mp.lt (nb _ (.inr rfl)))⟩
theorem QInS.field (h : QInS B w b ba mb G most q tk f c) (i : Nat) (u : Value) (fi la tk' : Int) (he : (#[.pointer (some ⟨ba, 0, none⟩), .map (some mb), .int .i64 q.fi, .int .i64 q.la, .int .i64 tk] : Array Value).setIfInBounds i u = #[.pointer (some ⟨ba, 0, none⟩), .map (some mb), .int .i64 fi, .int .i64 la, .int .i64 tk']) : QInS B (w.setCell ⟨b, i, none⟩ u) b ba mb G most ⟨q.S, fi, la⟩ tk' f c := by
  obtain ⟨p1, p2, p3, p4, p5, p6⟩ := h.apart
  have hk : Kept (fun k => k = b) w (w.setCell ⟨b, i, none⟩ u) := (Kept.refl (fun k => k = b) w).setCell (p := ⟨b, i, none⟩) (.inr rfl) u
  refine ⟨h.big, h.bim, ?_, h.ar.kept hk (fun e => p1 e.symm) (fun g hg e => by subst e; exact p4 hg.symm), h.mp.block (hk.block mb h.mp.lt (fun e => p2 e.symm))⟩
  have := Rec.set h.rc i u
  rwa [he] at this
end
theorem QInS.set {B : Nat} {w : World} {b ba mb : Nat} {G : Option Nat} {most : Int} {q : Fq ByteArray} {tk : Int} {f : Int → Option Int} {c : Nat} (h : QInS B w b ba mb G most q tk f c) (hB : B ≤ w.heap.size) (x : Int) (v : LkS) :
    Calls Tryd.prog 73 #[.pointer (some ⟨ba, 0, none⟩), .int .i64 x, aLS v] w (fun e w' => e = .returned (.bool (isA zLS q.S.l x)) ∧ QInS B w' b ba mb G most ⟨setA zLS q.S x v, q.fi, q.la⟩ tk f c ∧ Kept (ft b ba mb G) w w') :=
  (LSetS_any B ba most q.S x v w h.ar hB).mono fun _ _ g => ⟨g.1, h.arena g.2.1 g.2.2.2, Kept.mono g.2.2.2 (fun k _ hk => by rcases hk with hk | hk; exact .inr (.inl hk); exact .inr (.inr (.inr hk)))⟩
set_option maxHeartbeats 4000000 in
theorem joinS_any {B : Nat} {w : World} {b ba mb : Nat} {G : Option Nat} {most : Int} {q : Fq ByteArray} {tk : Int} {f : Int → Option Int} {c : Nat} (h : QInS B w b ba mb G most q tk f c) (hB : B ≤ w.heap.size) (x y : Int) :
    Calls Tryd.prog 60 #[.pointer (some ⟨b, 0, none⟩), .int .i64 x, .int .i64 y] w (fun e w' => e = .returned (.tuple #[]) ∧ QInS B w' b ba mb G most (joinF zLS q x y) tk f c ∧ Kept (ft b ba mb G) w w') := by
  have HG := hid (LGetS_any ba most q.S x w h.ar.rd)
  have HH := hid h
  have q0 := Rec.cell h.rc 0
  simp at q0
  have hlb := h.rc.lt
  have hg2 := getA_2 (z := zLS) (S := q.S) (i := x)
  have hja : joA zLS q x y = if isA zLS q.S.l x = true then ⟨setA zLS q.S x ((getA zLS q.S x).1.1, (getA zLS q.S x).1.2.1, (getA zLS q.S x).1.2.2.1, y), q.fi, q.la⟩ else ⟨q.S, y, q.la⟩ := rfl
  rw [← hg2] at hja
  obtain ⟨⟨⟨g1, g2, g3, g4⟩, gb⟩, eg⟩ : ∃ g, getA zLS q.S x = g := ⟨_, rfl⟩
  rw [eg] at HG hja
  clear h hg2 eg
  obtain ⟨q1, eq1⟩ : ∃ q1, joA zLS q x y = q1 := ⟨_, rfl⟩
  have HJF := hid (show joinF zLS q x y = joB zLS q1 x y by unfold joinF; rw [eq1])
  rw [eq1] at hja
  clear eq1
  cases gb with
  | true =>
    have HJA := hid (show q1 = ⟨setA zLS q.S x (g1, g2, g3, y), q.fi, q.la⟩ from hja)
    clear hja
    go_enter Tryd.func60, Tryd.ntmps60
    go_upto_region 3 with (go_at_call 72; refine HG.out.mono ?_; rintro _ _ ⟨rfl, y1, rfl⟩)
    obtain ⟨X, eX⟩ : ∃ X, w.heap.size + y1.more = X := ⟨_, rfl⟩
    obtain ⟨w3, ew3⟩ : ∃ W, W = (w.past y1).alloc (.cells #[.string g1, .int .i64 g2, .int .i64 g3, .int .i64 y] 102) := ⟨_, rfl⟩
    have hbx : Rec w3 X 102 #[.string g1, .int .i64 g2, .int .i64 g3, .int .i64 y] := by
      rw [ew3, ← eX]
      have := Rec.new (w.past y1) 102 #[.string g1, .int .i64 g2, .int .i64 g3, .int .i64 y]
      rwa [World.size_past] at this
    have hbw3 : Below w.heap.size w w3 := by rw [ew3]; exact (w.below_past y1).alloc (by simp [World.size_past]) _
    have H3 := hid (HH.out.far hbw3)
    have q0 := Rec.cell H3.out.rc 0
    have c0 := Rec.cell hbx 0
    have c1 := Rec.cell hbx 1
    have c2 := Rec.cell hbx 2
    have c3 := Rec.cell hbx 3
    simp at q0 c0 c1 c2 c3
    have HSE := hid ((H3.out.far (Below.refl _ _).drew).set (Nat.le_trans hB hbw3.size) x (g1, g2, g3, y))
    have HKw3 := hid (Kept.of_below hbw3 (ft b ba mb G))
    rw [eX, ← ew3]
    clear ew3 hbx hbw3 eX
    refine wp_region_split (S := (fun W => W.cell? ⟨b, 0, none⟩ = some (.pointer (some ⟨ba, 0, none⟩)) ∧ W.cell? ⟨X, 0, none⟩ = some (.string g1) ∧ W.cell? ⟨X, 1, none⟩ = some (.int .i64 g2) ∧ W.cell? ⟨X, 2, none⟩ = some (.int .i64 g3) ∧ W.cell? ⟨X, 3, none⟩ = some (.int .i64 y))) 6 (by kernel_rfl) (by kernel_rfl) ?_ (fun hHeld => ?_)
    · (first | (simp [go_sem, *]; done))
    simp only [List.take_succ_cons, List.take_zero, List.drop_succ_cons, List.drop_zero]
    refine wpAnyH_take (i := 0) (v := ?_) rfl (by kernel_rfl) (by kernel_rfl) (by kernel_rfl) (fun _ _ _ h => h) (Or.inl ⟨by rfl, ?_⟩) (by assumption) ?_
    rotate_left
    · intro w hSw; (try dsimp only at hSw); go_simp; try with_reducible rfl
    try simp only [put_simp]
    refine wpAnyH_take (i := 1) (v := ?_) rfl (by kernel_rfl) (by kernel_rfl) (by kernel_rfl) (fun _ _ _ h => h) (Or.inl ⟨by rfl, ?_⟩) (by assumption) ?_
    rotate_left
    · intro w hSw; (try dsimp only at hSw); go_simp; try with_reducible rfl
    try simp only [put_simp]
    refine wpAnyH_take (i := 2) (v := ?_) rfl (by kernel_rfl) (by kernel_rfl) (by kernel_rfl) (fun _ _ _ h => h) (Or.inl ⟨by rfl, ?_⟩) (by assumption) ?_
    rotate_left
    · intro w hSw; (try dsimp only at hSw); go_simp; try with_reducible rfl
    try simp only [put_simp]
    refine wpAnyH_take (i := 3) (v := ?_) rfl (by kernel_rfl) (by kernel_rfl) (by kernel_rfl) (fun _ _ _ h => h) (Or.inl ⟨by rfl, ?_⟩) (by assumption) ?_
    rotate_left
    · intro w hSw; (try dsimp only at hSw); go_simp; try with_reducible rfl
    try simp only [put_simp]
    refine wpAnyH_take (i := 4) (v := ?_) rfl (by kernel_rfl) (by kernel_rfl) (by kernel_rfl) (fun _ _ _ h => h) (Or.inl ⟨by rfl, ?_⟩) (by assumption) ?_
    rotate_left
    · intro w hSw; (try dsimp only at hSw); go_simp; try with_reducible rfl
    try simp only [put_simp]
    refine wpAnyH_take (i := 5) (v := ?_) rfl (by kernel_rfl) (by kernel_rfl) (by kernel_rfl) (fun _ _ _ h => h) (Or.inl ⟨by rfl, ?_⟩) (by assumption) ?_
    rotate_left
    · intro w hSw; (try dsimp only at hSw); go_simp; try with_reducible rfl
    try simp only [put_simp]
    refine wpAnyH_done (by kernel_rfl) ?_ _
    change wpList _ _ _ _ _ _
    go_upto_region 5 with (go_at_call 73; refine HSE.out.mono ?_; rintro _ w5 ⟨rfl, h5, hk5⟩)
    have HK5 := hid (HKw3.out.drew.trans hk5)
    rw [← HJA.out] at h5
    have H5 := hid h5
    clear h5 hk5 hHeld HSE H3 HJA c0 c1 c2 c3 q0
    have hK5 := HK5.out.size
    have HG2 := hid (LGetS_any ba most q1.S y w5 H5.out.ar.rd)
    have q0 := Rec.cell H5.out.rc 0
    simp at q0
    have hg2 := getA_2 (z := zLS) (S := q1.S) (i := y)
    have hjb : joB zLS q1 x y = if isA zLS q1.S.l y = true then ⟨setA zLS q1.S y ((getA zLS q1.S y).1.1, (getA zLS q1.S y).1.2.1, x, (getA zLS q1.S y).1.2.2.2), q1.fi, q1.la⟩ else ⟨q1.S, q1.fi, x⟩ := rfl
    rw [← hg2] at hjb
    obtain ⟨⟨⟨d1, d2, d3, d4⟩, db⟩, eg⟩ : ∃ g, getA zLS q1.S y = g := ⟨_, rfl⟩
    rw [eg] at HG2 hjb
    clear hg2 eg
    cases db with
    | true =>
      have HJB := hid (show joB zLS q1 x y = ⟨setA zLS q1.S y (d1, d2, x, d4), q1.fi, q1.la⟩ from hjb)
      clear hjb
      go_upto_region 8 with (go_at_call 72; refine HG2.out.mono ?_; rintro _ _ ⟨rfl, y2, rfl⟩)
      obtain ⟨Y, eY⟩ : ∃ X, w5.heap.size + y2.more = X := ⟨_, rfl⟩
      obtain ⟨w6, ew6⟩ : ∃ W, W = (w5.past y2).alloc (.cells #[.string d1, .int .i64 d2, .int .i64 x, .int .i64 d4] 102) := ⟨_, rfl⟩
      have hbx : Rec w6 Y 102 #[.string d1, .int .i64 d2, .int .i64 x, .int .i64 d4] := by
        rw [ew6, ← eY]
        have := Rec.new (w5.past y2) 102 #[.string d1, .int .i64 d2, .int .i64 x, .int .i64 d4]
        rwa [World.size_past] at this
      have hbw6 : Below w5.heap.size w5 w6 := by rw [ew6]; exact (w5.below_past y2).alloc (by simp [World.size_past]) _
      have H6 := hid (H5.out.far hbw6)
      have q0 := Rec.cell H6.out.rc 0
      have c0 := Rec.cell hbx 0
      have c1 := Rec.cell hbx 1
      have c2 := Rec.cell hbx 2
      have c3 := Rec.cell hbx 3
      simp at q0 c0 c1 c2 c3
      have HSE := hid ((H6.out.far (Below.refl _ _).drew).set (Nat.le_trans (Nat.le_trans hB hK5) hbw6.size) y (d1, d2, x, d4))
      have HKw6 := hid (Kept.of_below hbw6 (ft b ba mb G))
      rw [eY, ← ew6]
      clear ew6 hbx hbw6 eY
      refine wp_region_split (S := (fun W => W.cell? ⟨b, 0, none⟩ = some (.pointer (some ⟨ba, 0, none⟩)) ∧ W.cell? ⟨Y, 0, none⟩ = some (.string d1) ∧ W.cell? ⟨Y, 1, none⟩ = some (.int .i64 d2) ∧ W.cell? ⟨Y, 2, none⟩ = some (.int .i64 x) ∧ W.cell? ⟨Y, 3, none⟩ = some (.int .i64 d4))) 6 (by kernel_rfl) (by kernel_rfl) ?_ (fun hHeld => ?_)
      · (first | (simp [go_sem, *]; done))
      simp only [List.take_succ_cons, List.take_zero, List.drop_succ_cons, List.drop_zero]
      refine wpAnyH_take (i := 0) (v := ?_) rfl (by kernel_rfl) (by kernel_rfl) (by kernel_rfl) (fun _ _ _ h => h) (Or.inl ⟨by rfl, ?_⟩) (by assumption) ?_
      rotate_left
      · intro w hSw; (try dsimp only at hSw); go_simp; try with_reducible rfl
      try simp only [put_simp]
      refine wpAnyH_take (i := 1) (v := ?_) rfl (by kernel_rfl) (by kernel_rfl) (by kernel_rfl) (fun _ _ _ h => h) (Or.inl ⟨by rfl, ?_⟩) (by assumption) ?_
      rotate_left
      · intro w hSw; (try dsimp only at hSw); go_simp; try with_reducible rfl
      try simp only [put_simp]
      refine wpAnyH_take (i := 2) (v := ?_) rfl (by kernel_rfl) (by kernel_rfl) (by kernel_rfl) (fun _ _ _ h => h) (Or.inl ⟨by rfl, ?_⟩) (by assumption) ?_
      rotate_left
      · intro w hSw; (try dsimp only at hSw); go_simp; try with_reducible rfl
      try simp only [put_simp]
      refine wpAnyH_take (i := 3) (v := ?_) rfl (by kernel_rfl) (by kernel_rfl) (by kernel_rfl) (fun _ _ _ h => h) (Or.inl ⟨by rfl, ?_⟩) (by assumption) ?_
      rotate_left
      · intro w hSw; (try dsimp only at hSw); go_simp; try with_reducible rfl
      try simp only [put_simp]
      refine wpAnyH_take (i := 4) (v := ?_) rfl (by kernel_rfl) (by kernel_rfl) (by kernel_rfl) (fun _ _ _ h => h) (Or.inl ⟨by rfl, ?_⟩) (by assumption) ?_
      rotate_left
      · intro w hSw; (try dsimp only at hSw); go_simp; try with_reducible rfl
      try simp only [put_simp]
      refine wpAnyH_take (i := 5) (v := ?_) rfl (by kernel_rfl) (by kernel_rfl) (by kernel_rfl) (fun _ _ _ h => h) (Or.inl ⟨by rfl, ?_⟩) (by assumption) ?_
      rotate_left
      · intro w hSw; (try dsimp only at hSw); go_simp; try with_reducible rfl
      try simp only [put_simp]
      refine wpAnyH_done (by kernel_rfl) ?_ _
      change wpList _ _ _ _ _ _
      go_wp2_with (go_at_call 73; refine HSE.out.mono ?_; rintro _ w7 ⟨rfl, h7, hk7⟩; have H7 := hid h7; have HK7 := hid hk7; clear h7 hk7)
      go_end0
      refine ⟨rfl, ?_, HK5.out.trans (HKw6.out.drew.trans HK7.out)⟩
      rw [HJF.out, HJB.out]
      exact H7.out
    | false =>
      have HJB := hid (show joB zLS q1 x y = ⟨q1.S, q1.fi, x⟩ from hjb)
      clear hjb
      go_upto_if 42 with (go_at_call 72; refine HG2.out.mono ?_; rintro _ _ ⟨rfl, y2, rfl⟩)
      obtain ⟨Y, eY⟩ : ∃ X, w5.heap.size + y2.more = X := ⟨_, rfl⟩
      obtain ⟨w6, ew6⟩ : ∃ W, W = (w5.past y2).alloc (.cells #[.string d1, .int .i64 d2, .int .i64 d3, .int .i64 d4] 102) := ⟨_, rfl⟩
      have hbx : Rec w6 Y 102 #[.string d1, .int .i64 d2, .int .i64 d3, .int .i64 d4] := by
        rw [ew6, ← eY]
        have := Rec.new (w5.past y2) 102 #[.string d1, .int .i64 d2, .int .i64 d3, .int .i64 d4]
        rwa [World.size_past] at this
      have hbw6 : Below w5.heap.size w5 w6 := by rw [ew6]; exact (w5.below_past y2).alloc (by simp [World.size_past]) _
      have H6 := hid (H5.out.far hbw6)
      have q3 := Rec.cell H6.out.rc 3
      have f3 := Rec.frozen H6.out.rc 3
      have l3 := H6.out.rc.lt
      simp at q3
      have HKw6 := hid (Kept.of_below hbw6 (ft b ba mb G))
      rw [eY, ← ew6]
      clear ew6 hbx hbw6 eY
      go_wp2_with fail
      go_end0
      refine ⟨rfl, ?_, HK5.out.trans (HKw6.out.setCell (p := ⟨b, 3, none⟩) (.inr (.inl rfl)) _)⟩
      rw [HJF.out, HJB.out]
      exact H6.out.field 3 (.int .i64 x) q1.fi x tk rfl
  | false =>
    have HJA := hid (show q1 = ⟨q.S, y, q.la⟩ from hja)
    clear hja
    go_enter Tryd.func60, Tryd.ntmps60
    go_upto_if 19 with (go_at_call 72; refine HG.out.mono ?_; rintro _ _ ⟨rfl, y1, rfl⟩)
    obtain ⟨X, eX⟩ : ∃ X, w.heap.size + y1.more = X := ⟨_, rfl⟩
    obtain ⟨w3, ew3⟩ : ∃ W, W = (w.past y1).alloc (.cells #[.string g1, .int .i64 g2, .int .i64 g3, .int .i64 g4] 102) := ⟨_, rfl⟩
    have hbx : Rec w3 X 102 #[.string g1, .int .i64 g2, .int .i64 g3, .int .i64 g4] := by
      rw [ew3, ← eX]
      have := Rec.new (w.past y1) 102 #[.string g1, .int .i64 g2, .int .i64 g3, .int .i64 g4]
      rwa [World.size_past] at this
    have hbw3 : Below w.heap.size w w3 := by rw [ew3]; exact (w.below_past y1).alloc (by simp [World.size_past]) _
    have H3 := hid (HH.out.far hbw3)
    have q2 := Rec.cell H3.out.rc 2
    have f2 := Rec.frozen H3.out.rc 2
    have l2 := H3.out.rc.lt
    simp at q2
    have HKw3 := hid (Kept.of_below hbw3 (ft b ba mb G))
    rw [eX, ← ew3]
    clear ew3 hbx hbw3 eX q0
    go_upto_region 5 with (fail)
    obtain ⟨w5, ew5⟩ : ∃ W, W = w3.setCell ⟨b, 2, none⟩ (.int .i64 y) := ⟨_, rfl⟩
    have h5 := H3.out.field 2 (.int .i64 y) y q.la tk rfl
    rw [← ew5, ← HJA.out] at h5
    have HK5 : Hid (Kept (ft b ba mb G) w w5) := hid (by rw [ew5]; exact HKw3.out.setCell (p := ⟨b, 2, none⟩) (.inr (.inl rfl)) _)
    rw [← ew5]
    have H5 := hid h5
    clear h5 ew5 H3 HJA q2 f2 l2
    have hK5 := HK5.out.size
    have HG2 := hid (LGetS_any ba most q1.S y w5 H5.out.ar.rd)
    have q0 := Rec.cell H5.out.rc 0
    simp at q0
    have hg2 := getA_2 (z := zLS) (S := q1.S) (i := y)
    have hjb : joB zLS q1 x y = if isA zLS q1.S.l y = true then ⟨setA zLS q1.S y ((getA zLS q1.S y).1.1, (getA zLS q1.S y).1.2.1, x, (getA zLS q1.S y).1.2.2.2), q1.fi, q1.la⟩ else ⟨q1.S, q1.fi, x⟩ := rfl
    rw [← hg2] at hjb
    obtain ⟨⟨⟨d1, d2, d3, d4⟩, db⟩, eg⟩ : ∃ g, getA zLS q1.S y = g := ⟨_, rfl⟩
    rw [eg] at HG2 hjb
    clear hg2 eg
    cases db with
    | true =>
      have HJB := hid (show joB zLS q1 x y = ⟨setA zLS q1.S y (d1, d2, x, d4), q1.fi, q1.la⟩ from hjb)
      clear hjb
      go_upto_region 8 with (go_at_call 72; refine HG2.out.mono ?_; rintro _ _ ⟨rfl, y2, rfl⟩)
      obtain ⟨Y, eY⟩ : ∃ X, w5.heap.size + y2.more = X := ⟨_, rfl⟩
      obtain ⟨w6, ew6⟩ : ∃ W, W = (w5.past y2).alloc (.cells #[.string d1, .int .i64 d2, .int .i64 x, .int .i64 d4] 102) := ⟨_, rfl⟩
      have hbx : Rec w6 Y 102 #[.string d1, .int .i64 d2, .int .i64 x, .int .i64 d4] := by
        rw [ew6, ← eY]
        have := Rec.new (w5.past y2) 102 #[.string d1, .int .i64 d2, .int .i64 x, .int .i64 d4]
        rwa [World.size_past] at this
      have hbw6 : Below w5.heap.size w5 w6 := by rw [ew6]; exact (w5.below_past y2).alloc (by simp [World.size_past]) _
      have H6 := hid (H5.out.far hbw6)
      have q0 := Rec.cell H6.out.rc 0
      have c0 := Rec.cell hbx 0
      have c1 := Rec.cell hbx 1
      have c2 := Rec.cell hbx 2
      have c3 := Rec.cell hbx 3
      simp at q0 c0 c1 c2 c3
      have HSE := hid ((H6.out.far (Below.refl _ _).drew).set (Nat.le_trans (Nat.le_trans hB hK5) hbw6.size) y (d1, d2, x, d4))
      have HKw6 := hid (Kept.of_below hbw6 (ft b ba mb G))
      rw [eY, ← ew6]
      clear ew6 hbx hbw6 eY
      refine wp_region_split (S := (fun W => W.cell? ⟨b, 0, none⟩ = some (.pointer (some ⟨ba, 0, none⟩)) ∧ W.cell? ⟨Y, 0, none⟩ = some (.string d1) ∧ W.cell? ⟨Y, 1, none⟩ = some (.int .i64 d2) ∧ W.cell? ⟨Y, 2, none⟩ = some (.int .i64 x) ∧ W.cell? ⟨Y, 3, none⟩ = some (.int .i64 d4))) 6 (by kernel_rfl) (by kernel_rfl) ?_ (fun hHeld => ?_)
      · (first | (simp [go_sem, *]; done))
      simp only [List.take_succ_cons, List.take_zero, List.drop_succ_cons, List.drop_zero]
      refine wpAnyH_take (i := 0) (v := ?_) rfl (by kernel_rfl) (by kernel_rfl) (by kernel_rfl) (fun _ _ _ h => h) (Or.inl ⟨by rfl, ?_⟩) (by assumption) ?_
      rotate_left
      · intro w hSw; (try dsimp only at hSw); go_simp; try with_reducible rfl
      try simp only [put_simp]
      refine wpAnyH_take (i := 1) (v := ?_) rfl (by kernel_rfl) (by kernel_rfl) (by kernel_rfl) (fun _ _ _ h => h) (Or.inl ⟨by rfl, ?_⟩) (by assumption) ?_
      rotate_left
      · intro w hSw; (try dsimp only at hSw); go_simp; try with_reducible rfl
      try simp only [put_simp]
      refine wpAnyH_take (i := 2) (v := ?_) rfl (by kernel_rfl) (by kernel_rfl) (by kernel_rfl) (fun _ _ _ h => h) (Or.inl ⟨by rfl, ?_⟩) (by assumption) ?_
      rotate_left
      · intro w hSw; (try dsimp only at hSw); go_simp; try with_reducible rfl
      try simp only [put_simp]
      refine wpAnyH_take (i := 3) (v := ?_) rfl (by kernel_rfl) (by kernel_rfl) (by kernel_rfl) (fun _ _ _ h => h) (Or.inl ⟨by rfl, ?_⟩) (by assumption) ?_
      rotate_left
      · intro w hSw; (try dsimp only at hSw); go_simp; try with_reducible rfl
      try simp only [put_simp]
      refine wpAnyH_take (i := 4) (v := ?_) rfl (by kernel_rfl) (by kernel_rfl) (by kernel_rfl) (fun _ _ _ h => h) (Or.inl ⟨by rfl, ?_⟩) (by assumption) ?_
      rotate_left
      · intro w hSw; (try dsimp only at hSw); go_simp; try with_reducible rfl
      try simp only [put_simp]
      refine wpAnyH_take (i := 5) (v := ?_) rfl (by kernel_rfl) (by kernel_rfl) (by kernel_rfl) (fun _ _ _ h => h) (Or.inl ⟨by rfl, ?_⟩) (by assumption) ?_
      rotate_left
      · intro w hSw; (try dsimp only at hSw); go_simp; try with_reducible rfl
      try simp only [put_simp]
      refine wpAnyH_done (by kernel_rfl) ?_ _
      change wpList _ _ _ _ _ _
      go_wp2_with (go_at_call 73; refine HSE.out.mono ?_; rintro _ w7 ⟨rfl, h7, hk7⟩; have H7 := hid h7; have HK7 := hid hk7; clear h7 hk7)
      go_end0
      refine ⟨rfl, ?_, HK5.out.trans (HKw6.out.drew.trans HK7.out)⟩
      rw [HJF.out, HJB.out]
      exact H7.out
    | false =>
      have HJB := hid (show joB zLS q1 x y = ⟨q1.S, q1.fi, x⟩ from hjb)
      clear hjb
      go_upto_if 42 with (go_at_call 72; refine HG2.out.mono ?_; rintro _ _ ⟨rfl, y2, rfl⟩)
      obtain ⟨Y, eY⟩ : ∃ X, w5.heap.size + y2.more = X := ⟨_, rfl⟩
      obtain ⟨w6, ew6⟩ : ∃ W, W = (w5.past y2).alloc (.cells #[.string d1, .int .i64 d2, .int .i64 d3, .int .i64 d4] 102) := ⟨_, rfl⟩
      have hbx : Rec w6 Y 102 #[.string d1, .int .i64 d2, .int .i64 d3, .int .i64 d4] := by
        rw [ew6, ← eY]
        have := Rec.new (w5.past y2) 102 #[.string d1, .int .i64 d2, .int .i64 d3, .int .i64 d4]
        rwa [World.size_past] at this
      have hbw6 : Below w5.heap.size w5 w6 := by rw [ew6]; exact (w5.below_past y2).alloc (by simp [World.size_past]) _
      have H6 := hid (H5.out.far hbw6)
      have q3 := Rec.cell H6.out.rc 3
      have f3 := Rec.frozen H6.out.rc 3
      have l3 := H6.out.rc.lt
      simp at q3
      have HKw6 := hid (Kept.of_below hbw6 (ft b ba mb G))
      rw [eY, ← ew6]
      clear ew6 hbx hbw6 eY
      go_wp2_with fail
      go_end0
      refine ⟨rfl, ?_, HK5.out.trans (HKw6.out.setCell (p := ⟨b, 3, none⟩) (.inr (.inl rfl)) _)⟩
      rw [HJF.out, HJB.out]
      exact H6.out.field 3 (.int .i64 x) q1.fi x tk rfl

end Go.Proofs.YtngokihncjkiaaaDoor
namespace Go.Proofs.YtngokihncjkiaaaDoor
open Go.RowKit
/-- A queue, and its blocks. -/
def QAtS (B : Nat) (w : World) (b : Nat) (F : Nat → Prop) (most : Int) (q : Fq ByteArray) (tk : Int) (f : Int → Option Int) (c : Nat) : Prop := ∃ ba mb G, QInS B w b ba mb G most q tk f c ∧ F = ft b ba mb G
/-- Behind an act. -/
def QPS (B b : Nat) (F : Nat → Prop) (most : Int) (q : Fq ByteArray) (tk : Int) (f : Int → Option Int) (c : Nat) (w w' : World) : Prop :=
  ∃ F', QAtS B w' b F' most q tk f c ∧ (∀ k, F' k → F k ∨ w.heap.size ≤ k) ∧ Kept F w w'
theorem QInS.foot {B : Nat} {w : World} {b ba mb : Nat} {G : Option Nat} {most : Int} {q : Fq ByteArray} {tk : Int} {f : Int → Option Int} {c : Nat} (h : QInS B w b ba mb G most q tk f c) (k : Nat) (hk : ft b ba mb G k) : B ≤ k ∧ k < w.heap.size := by
  rcases hk with rfl | rfl | rfl | hk
  · exact ⟨h.big, h.rc.lt⟩
  · exact ⟨h.ar.big, h.ar.lt⟩
  · exact ⟨h.bim, h.mp.lt⟩
  · exact h.ar.row hk.symm
/-- A change of the map. -/
theorem QInS.map {B : Nat} {w w' : World} {b ba mb : Nat} {G : Option Nat} {most : Int} {q : Fq ByteArray} {tk : Int} {f f' : Int → Option Int} {c c' : Nat} (h : QInS B w b ba mb G most q tk f c) (hm : MapI Tryd.prog 3 w' mb f' c') (hg : w.grownBy w' (some mb)) : QInS B w' b ba mb G most q tk f' c' ∧ Kept (fun k => k = mb) w w' := by
  have hk : Kept (fun k => k = mb) w w' := ⟨hg.os, hg.tape, hg.output, hg.size, fun k hk hn => hg.block k hk (fun e => hn (by injection e))⟩
  obtain ⟨p1, p2, p3, p4, p5, p6⟩ := h.apart
  exact ⟨⟨h.big, h.bim, h.rc.kept hk p2, h.ar.kept hk p3 (fun g hG e => by subst e; exact p6 hG.symm), hm⟩, hk⟩
set_option maxHeartbeats 4000000 in
theorem PushS_any {B : Nat} {w : World} {b : Nat} {F : Nat → Prop} {most : Int} {q : Fq ByteArray} {tk : Int} {f : Int → Option Int} {c cS : Nat} (h : QAtS B w b F most q tk f c) (hB : B ≤ w.heap.size) (hS : OkA cS q.S) (hcS : cS ≤ 100000) (hc : c ≤ 100000) (ht0 : 0 ≤ tk) (ht1 : tk ≤ 1000000) (hlen : q.S.l.length ≤ 100000) (v : ByteArray) (S' : Ar LkS) (p e : Nat) (hp : putA zLS most q.S (v, tk + 1, -1, -1) = (S', p, e)) (hp1 : p ≤ 100000) (he : e = 0) (hfn : f (tk + 1) = none) :
    Calls Tryd.prog 41 #[.pointer (some ⟨b, 0, none⟩), .string v] w (fun e w' => e = .returned (.tuple #[.int .i64 (tk + 1), .int .i64 0]) ∧ QPS B b F most (pushQ zLS q S' p) (tk + 1) (upd f (tk + 1) (some (p : Int))) (c + 1) w w') := by
  subst he
  have HFN := hid hfn
  clear hfn
  obtain ⟨ba, mb, G, h, hF⟩ := h
  subst hF
  have hpu := LPutS_any cS B ba most q.S (v, tk + 1, -1, -1) w.drew hS hcS (h.far (Below.refl _ _).drew).ar hB
  unfold PutP at hpu
  rw [hp] at hpu
  have HPU := hid hpu
  have HH := hid h
  have q0 := Rec.cell h.rc 0
  have q4 := Rec.cell h.rc 4
  simp at q0 q4
  have hlb := h.rc.lt
  have e1 : IntKind.i64.wrap (tk + 1) = tk + 1 := by rw [IntKind.wrap_i64]; omega
  clear h hpu hp hS
  go_enter Tryd.func41, Tryd.ntmps41
  go_upto_region 3 with (fail)
  have h0 := HH.out.far (Below.refl _ w).drew
  have HA := hid (fun (w3 : World) (G' : Option Nat) (ha : ArLS B w3 ba G' most S') (hk : KeptA ba G w.drew w3) => h0.arena ha hk)
  clear h0
  go_region_held3 (fun W => W.cell? ⟨b, 0, none⟩ = some (.pointer (some ⟨ba, 0, none⟩)) ∧ W.cell? ⟨b, 4, none⟩ = some (.int .i64 tk)) (first | (simp [go_sem, *]; done)) (first | (go_at_call 59; refine HPU.out.mono ?_; rintro _ w3 ⟨rfl, ⟨G', ha, hn⟩, -, hk⟩; have HQ3 := hid (HA.out w3 G' ha hk); have HK3 := hid hk; have HN3 := hid hn; clear hk hn ha; have c0 := Rec.cell HQ3.out.rc 0; have c4 := Rec.cell HQ3.out.rc 4; simp at c0 c4))
  have HKF := hid ((Kept.of_below (Below.refl _ w).drew (ft b ba mb G)).trans (Kept.mono HK3.out (fun k _ hk => by rcases hk with hk | hk; exact .inr (.inl hk); exact .inr (.inr (.inr hk)))))
  have HNF := hid (fun (k : Nat) (hk : ft b ba mb G' k) => (show ft b ba mb G k ∨ w.heap.size ≤ k by
    rcases hk with hk | hk | hk | hk
    · exact .inl (.inl hk)
    · exact .inl (.inr (.inl hk))
    · exact .inl (.inr (.inr (.inl hk)))
    · rcases HN3.out with h | ⟨g, h, h2⟩
      · exact .inl (.inr (.inr (.inr (by rw [hk, h]))))
      · rw [h] at hk
        injection hk with hk
        exact .inr (by rw [hk]; exact h2)))
  have f4 := Rec.frozen HQ3.out.rc 4
  have l4 := HQ3.out.rc.lt
  have H4 := hid (HQ3.out.field 4 (.int .i64 (tk + 1)) q.fi q.la (tk + 1) rfl)
  obtain ⟨w4, ew4⟩ : ∃ W, W = w3.setCell ⟨b, 4, none⟩ (.int .i64 (tk + 1)) := ⟨_, rfl⟩
  rw [← ew4] at H4
  have HK4 : Hid (Kept (ft b ba mb G) w w4) := hid (by rw [ew4]; exact HKF.out.setCell (p := ⟨b, 4, none⟩) (.inr (.inl rfl)) _)
  have EW4 := hid ew4
  clear ew4 HPU HA HK3 HN3 q0 q4
  go_upto_region 7 with (fail)
  rw [← EW4.out]
  obtain ⟨w5, r5, m5, g5, -⟩ := (H4.out.far (Below.refl _ w4).drew).mp.store (m := 88) (x := tk + 1) (y := (p : Int)) (by kernel_rfl) (by kernel_rfl) (by unfold I64; omega) (by unfold I64; omega) (by unfold maxLen; omega)
  rw [HFN.out] at m5
  obtain ⟨h5, k5⟩ := (H4.out.far (Below.refl _ w4).drew).map m5 g5
  have H5 := hid h5
  have HK5 := hid ((HK4.out.trans (Kept.of_below (Below.refl _ w4).drew _)).trans (kept_one k5 (.inr (.inr (.inl rfl)))))
  have q1 := Rec.cell H4.out.rc 1
  have q4 := Rec.cell H4.out.rc 4
  simp at q1 q4
  clear h5 k5 m5 g5 c0 c4 f4 HKF HK4 EW4
  refine wp_region_split (S := (fun W => W.cell? ⟨b, 1, none⟩ = some (.map (some mb)) ∧ W.cell? ⟨b, 4, none⟩ = some (.int .i64 (tk + 1)))) 9 (by kernel_rfl) (by kernel_rfl) ?_ (fun hHeld => ?_)
  · (first | (simp [go_sem, *]; done))
  simp only [List.take_succ_cons, List.take_zero, List.drop_succ_cons, List.drop_zero]
  refine wpAnyH_take (i := 0) (v := ?_) rfl (by kernel_rfl) (by kernel_rfl) (by kernel_rfl) (fun _ _ _ h => h) (Or.inl ⟨by rfl, ?_⟩) (by assumption) ?_
  rotate_left
  · intro w hSw; (try dsimp only at hSw); go_simp; try with_reducible rfl
  try simp only [put_simp]
  refine wpAnyH_take (i := 1) (v := ?_) rfl (by kernel_rfl) (by kernel_rfl) (by kernel_rfl) (fun _ _ _ h => h) (Or.inl ⟨by rfl, ?_⟩) (by assumption) ?_
  rotate_left
  · intro w hSw; (try dsimp only at hSw); go_simp; try with_reducible rfl
  try simp only [put_simp]
  refine wpAnyH_take (i := 2) (v := ?_) rfl (by kernel_rfl) (by kernel_rfl) (by kernel_rfl) (fun _ _ _ h => h) (Or.inl ⟨by rfl, ?_⟩) (by assumption) ?_
  rotate_left
  · intro w hSw; (try dsimp only at hSw); go_simp; try with_reducible rfl
  try simp only [put_simp]
  refine wpAnyH_take (i := 3) (v := ?_) rfl (by kernel_rfl) (by kernel_rfl) (by kernel_rfl) (fun _ _ _ h => h) (Or.inl ⟨by rfl, ?_⟩) (by assumption) ?_
  rotate_left
  · intro w hSw; (try dsimp only at hSw); go_simp; try with_reducible rfl
  try simp only [put_simp]
  refine wpAnyH_take (i := 4) (v := ?_) rfl (by kernel_rfl) (by kernel_rfl) (by kernel_rfl) (fun _ _ _ h => h) (Or.inl ⟨by rfl, ?_⟩) (by assumption) ?_
  rotate_left
  · intro w hSw; (try dsimp only at hSw); go_simp; try with_reducible rfl
  try simp only [put_simp]
  refine wpAnyH_take (i := 5) (v := ?_) rfl (by kernel_rfl) (by kernel_rfl) (by kernel_rfl) (fun _ _ _ h => h) (Or.inl ⟨by rfl, ?_⟩) (by assumption) ?_
  rotate_left
  · intro w hSw; (try dsimp only at hSw); go_simp; try with_reducible rfl
  try simp only [put_simp]
  refine wpAnyH_take (i := 6) (v := ?_) rfl (by kernel_rfl) (by kernel_rfl) (by kernel_rfl) (fun _ _ _ h => h) (Or.inl ⟨by rfl, ?_⟩) (by assumption) ?_
  rotate_left
  · intro w hSw; (try dsimp only at hSw); go_simp; try with_reducible rfl
  try simp only [put_simp]
  refine wpAnyH_take (i := 7) (v := ?_) rfl (by kernel_rfl) (by kernel_rfl) (by kernel_rfl) (fun _ _ _ h => h) (Or.inl ⟨by rfl, ?_⟩) (by assumption) ?_
  rotate_left
  · intro w hSw; (try dsimp only at hSw); go_simp; try with_reducible rfl
  try simp only [put_simp]
  refine wpAnyH_take (i := 8) (v := ?_) rfl (by kernel_rfl) (by kernel_rfl) (by kernel_rfl) (fun _ _ _ h => h) (Or.inl ⟨by rfl, ?_⟩) (by assumption) ?_
  rotate_left
  · intro w hSw; (try dsimp only at hSw); go_simp; try with_reducible rfl
  try simp only [put_simp]
  refine wpAnyH_done (by kernel_rfl) ?_ _
  change wpList _ _ _ _ _ _
  have d3 := Rec.cell H5.out.rc 3
  simp at d3
  have HJ := hid (joinS_any H5.out (Nat.le_trans hB HK5.out.size) q.la (p : Int))
  go_upto_region 9 with (go_at_call 60; refine HJ.out.mono ?_; rintro _ w6 ⟨rfl, h6, k6⟩; have H6 := hid h6; have HK6 := hid k6; clear h6 k6)
  obtain ⟨q6, eq6⟩ : ∃ q6, joinF zLS ⟨S', q.fi, q.la⟩ q.la (p : Int) = q6 := ⟨_, rfl⟩
  have HPQ := hid (show pushQ zLS q S' (p : Int) = ⟨q6.S, q6.fi, p⟩ by unfold pushQ; rw [eq6])
  rw [eq6] at H6
  have d3 := Rec.cell H6.out.rc 3
  have d4 := Rec.cell H6.out.rc 4
  have f3 := Rec.frozen H6.out.rc 3
  have l3 := H6.out.rc.lt
  simp at d3 d4
  have H7 := hid (H6.out.field 3 (.int .i64 (p : Int)) q6.fi p (tk + 1) rfl)
  have HK7 := hid ((HK5.out.trans' HK6.out (fun i hi hg => (HNF.out i hg).resolve_right (by omega))).setCell (p := ⟨b, 3, none⟩) (.inr (.inl rfl)) (.int .i64 (p : Int)))
  clear eq6 HJ r5 H6 HK6 HK5 H5 H4 HQ3
  go_wp2_with fail
  go_ret2
  exact ⟨rfl, ft b ba mb G', ⟨ba, mb, G', by rw [HPQ.out]; exact H7.out, rfl⟩, HNF.out, HK7.out⟩
set_option maxHeartbeats 1000000 in
theorem PushFS_any {B : Nat} {w : World} {b : Nat} {F : Nat → Prop} {most : Int} {q : Fq ByteArray} {tk : Int} {f : Int → Option Int} {c cS : Nat} (h : QAtS B w b F most q tk f c) (hB : B ≤ w.heap.size) (hS : OkA cS q.S) (hcS : cS ≤ 100000) (ht0 : 0 ≤ tk) (ht1 : tk ≤ 1000000) (v : ByteArray) (hp : most ≤ q.S.n) :
    Calls Tryd.prog 41 #[.pointer (some ⟨b, 0, none⟩), .string v] w (fun e w' => e = .returned (.tuple #[.int .i64 0, .int .i64 3]) ∧ QPS B b F most q tk f c w w') := by
  obtain ⟨ba, mb, G, h, hF⟩ := h
  subst hF
  have hpu := LPutS_any cS B ba most q.S (v, tk + 1, -1, -1) w.drew hS hcS (h.far (Below.refl _ _).drew).ar hB
  unfold PutP at hpu
  rw [show putA zLS most q.S (v, tk + 1, -1, -1) = (q.S, 0, 3) from if_pos hp] at hpu
  have HPU := hid hpu
  have q0 := Rec.cell h.rc 0
  have q4 := Rec.cell h.rc 4
  simp at q0 q4
  have hlb := h.rc.lt
  have e1 : IntKind.i64.wrap (tk + 1) = tk + 1 := by rw [IntKind.wrap_i64]; omega
  have h0 := h.far (Below.refl _ w).drew
  have HA := hid (fun (w3 : World) (G' : Option Nat) (ha : ArLS B w3 ba G' most q.S) (hk : KeptA ba G w.drew w3) => h0.arena ha hk)
  clear h0 h hpu hp hS
  go_enter Tryd.func41, Tryd.ntmps41
  go_upto_region 3 with (fail)
  go_region_held3 (fun W => W.cell? ⟨b, 0, none⟩ = some (.pointer (some ⟨ba, 0, none⟩)) ∧ W.cell? ⟨b, 4, none⟩ = some (.int .i64 tk)) (first | (simp [go_sem, *]; done)) (first | (go_at_call 59; refine HPU.out.mono ?_; rintro _ w3 ⟨rfl, ⟨G', ha, hn⟩, -, hk⟩; have HQ3 := hid (HA.out w3 G' ha hk); have HK3 := hid hk; have HN3 := hid hn; clear hk hn ha; have c0 := Rec.cell HQ3.out.rc 0; have c4 := Rec.cell HQ3.out.rc 4; simp at c0 c4))
  have HKF := hid ((Kept.of_below (Below.refl _ w).drew (ft b ba mb G)).trans (Kept.mono HK3.out (fun k _ hk => by rcases hk with hk | hk; exact .inr (.inl hk); exact .inr (.inr (.inr hk)))))
  have HNF := hid (fun (k : Nat) (hk : ft b ba mb G' k) => (show ft b ba mb G k ∨ w.heap.size ≤ k by
    rcases hk with hk | hk | hk | hk
    · exact .inl (.inl hk)
    · exact .inl (.inr (.inl hk))
    · exact .inl (.inr (.inr (.inl hk)))
    · rcases HN3.out with h | ⟨g, h, h2⟩
      · exact .inl (.inr (.inr (.inr (by rw [hk, h]))))
      · rw [h] at hk
        injection hk with hk
        exact .inr (by rw [hk]; exact h2)))
  clear HPU HA HK3 HN3 q0 q4
  go_wp2_with fail
  go_ret2
  exact ⟨rfl, ft b ba mb G', ⟨ba, mb, G', HQ3.out, rfl⟩, HNF.out, HKF.out⟩

end Go.Proofs.YtngokihncjkiaaaDoor
namespace Go.Proofs.YtngokihncjkiaaaDoor
open Go.RowKit
set_option maxHeartbeats 4000000 in
theorem takeS_any {B : Nat} {w : World} {b : Nat} {F : Nat → Prop} {most : Int} {q : Fq ByteArray} {tk : Int} {f : Int → Option Int} {c cS : Nat} (h : QAtS B w b F most q tk f c) (hB : B ≤ w.heap.size) (hS : OkA cS q.S) (hcS : cS ≤ 100000) (p : Int) (hp : isA zLS q.S.l p = true) (v : ByteArray) (t pr nx : Int) (hx : (getA zLS q.S p).1 = (v, t, pr, nx)) (ht : I64 t) (hft : (f t).isSome = true) :
    Calls Tryd.prog 63 #[.pointer (some ⟨b, 0, none⟩), .int .i64 p] w (fun e w' => e = .returned (.tuple #[.string v, .bool true]) ∧ QPS B b F most (takeQ zLS q p) tk (upd f t none) (c - 1) w w') := by
  obtain ⟨ba, mb, G, h, hF⟩ := h
  subst hF
  have hdr := LDropS_any cS B ba most q.S p w hS hcS h.ar hB
  unfold ChP at hdr
  rw [hx, getA_2, hp] at hdr
  have HDR := hid hdr
  have HTQ := hid (show takeQ zLS q p = joinF zLS ⟨dropA zLS q.S p, q.fi, q.la⟩ pr nx by unfold takeQ; rw [if_pos hp, hx])
  have HH := hid h
  have HFT := hid hft
  have HT := hid ht
  have q0 := Rec.cell h.rc 0
  simp at q0
  have hlb := h.rc.lt
  clear h hdr hS hp hx hft ht
  go_enter Tryd.func63, Tryd.ntmps63
  go_upto_region 3 with (go_at_call 77; refine HDR.out.mono ?_; rintro _ w2 ⟨rfl, ha, -, hk⟩; have HQ2 := hid (HH.out.arena ha hk); have HK2 := hid (Kept.mono hk (fun k _ hk => (by rcases hk with hk | hk; exact .inr (.inl hk); exact .inr (.inr (.inr hk)) : ft b ba mb G k))); clear ha hk)
  obtain ⟨X, eX⟩ : ∃ X, w2.heap.size = X := ⟨_, rfl⟩
  obtain ⟨w3, ew3⟩ : ∃ W, W = w2.alloc (.cells #[.string v, .int .i64 t, .int .i64 pr, .int .i64 nx] 102) := ⟨_, rfl⟩
  have hbx : Rec w3 X 102 #[.string v, .int .i64 t, .int .i64 pr, .int .i64 nx] := by rw [ew3, ← eX]; exact Rec.new w2 _ _
  have hb3 : Below w2.heap.size w2 w3 := by rw [ew3]; exact (Below.refl _ w2).alloc (Nat.le_refl _) _
  have H3 := hid (HQ2.out.far hb3)
  have HNX := hid (show ¬ ft b ba mb G X from fun hf => by have := (HQ2.out.foot X hf).2; omega)
  have HK3 := hid (HK2.out.trans (Kept.of_below hb3 _))
  rw [eX, ← ew3]
  clear ew3 hb3 eX HDR HK2 HQ2 q0
  obtain ⟨w5, r5, m5, g5, -⟩ := (H3.out.far (Below.refl _ w3).drew).mp.drop (m := 88) (x := t) (by kernel_rfl) (by kernel_rfl) HT.out 0
  rw [HFT.out] at m5
  simp only [if_true] at m5
  obtain ⟨h5, k5⟩ := (H3.out.far (Below.refl _ w3).drew).map m5 g5
  have H5 := hid h5
  have HBX := hid hbx
  have HB5 := hid ((hbx.drew).kept k5 (fun e => HNX.out (.inr (.inr (.inl e)))))
  have HK5 := hid ((HK3.out.trans (Kept.of_below (Below.refl _ w3).drew _)).trans (kept_one k5 (.inr (.inr (.inl rfl)))))
  have q1 := Rec.cell H3.out.rc 1
  have c1 := Rec.cell hbx 1
  simp at q1 c1
  clear h5 k5 m5 g5 hbx HK3
  refine wp_region_split (S := (fun W => W.cell? ⟨b, 1, none⟩ = some (.map (some mb)) ∧ W.cell? ⟨X, 1, none⟩ = some (.int .i64 t))) 6 (by kernel_rfl) (by kernel_rfl) ?_ (fun hHeld => ?_)
  · (first | (simp [go_sem, *]; done))
  simp only [List.take_succ_cons, List.take_zero, List.drop_succ_cons, List.drop_zero]
  refine wpAnyH_take (i := 0) (v := ?_) rfl (by kernel_rfl) (by kernel_rfl) (by kernel_rfl) (fun _ _ _ h => h) (Or.inl ⟨by rfl, ?_⟩) (by assumption) ?_
  rotate_left
  · intro w hSw; (try dsimp only at hSw); go_simp; try with_reducible rfl
  try simp only [put_simp]
  refine wpAnyH_take (i := 1) (v := ?_) rfl (by kernel_rfl) (by kernel_rfl) (by kernel_rfl) (fun _ _ _ h => h) (Or.inl ⟨by rfl, ?_⟩) (by assumption) ?_
  rotate_left
  · intro w hSw; (try dsimp only at hSw); go_simp; try with_reducible rfl
  try simp only [put_simp]
  refine wpAnyH_take (i := 2) (v := ?_) rfl (by kernel_rfl) (by kernel_rfl) (by kernel_rfl) (fun _ _ _ h => h) (Or.inl ⟨by rfl, ?_⟩) (by assumption) ?_
  rotate_left
  · intro w hSw; (try dsimp only at hSw); go_simp; try with_reducible rfl
  try simp only [put_simp]
  refine wpAnyH_take (i := 3) (v := ?_) rfl (by kernel_rfl) (by kernel_rfl) (by kernel_rfl) (fun _ _ _ h => h) (Or.inl ⟨by rfl, ?_⟩) (by assumption) ?_
  rotate_left
  · intro w hSw; (try dsimp only at hSw); go_simp; try with_reducible rfl
  try simp only [put_simp]
  refine wpAnyH_take (i := 4) (v := ?_) rfl (by kernel_rfl) (by kernel_rfl) (by kernel_rfl) (fun _ _ _ h => h) (Or.inl ⟨by rfl, ?_⟩) (by assumption) ?_
  rotate_left
  · intro w hSw; (try dsimp only at hSw); go_simp; try with_reducible rfl
  try simp only [put_simp]
  refine wpAnyH_take (i := 5) (v := ?_) rfl (by kernel_rfl) (by kernel_rfl) (by kernel_rfl) (fun _ _ _ h => h) (Or.inl ⟨by rfl, ?_⟩) (by assumption) ?_
  rotate_left
  · intro w hSw; (try dsimp only at hSw); go_simp; try with_reducible rfl
  try simp only [put_simp]
  refine wpAnyH_done (by kernel_rfl) ?_ _
  change wpList _ _ _ _ _ _
  have d2 := Rec.cell HB5.out 2
  have d3 := Rec.cell HB5.out 3
  simp at d2 d3
  have HJ := hid (joinS_any H5.out (Nat.le_trans hB HK5.out.size) pr nx)
  go_upto_region 5 with (go_at_call 60; refine HJ.out.mono ?_; rintro _ w6 ⟨rfl, h6, k6⟩; have H6 := hid h6; have HK6 := hid k6; clear h6 k6)
  have d0 := Rec.cell (HB5.out.kept HK6.out HNX.out) 0
  simp at d0
  have HFF := hid (HK5.out.trans HK6.out)
  clear HJ r5 HK5 HK6 H5 H3 q1 c1 d2 d3
  go_wp2_with fail
  go_ret2
  exact ⟨rfl, ft b ba mb G, ⟨ba, mb, G, by rw [HTQ.out]; exact H6.out, rfl⟩, fun k hk => .inl hk, HFF.out⟩
set_option maxHeartbeats 1000000 in
theorem takeNS_any {B : Nat} {w : World} {b : Nat} {F : Nat → Prop} {most : Int} {q : Fq ByteArray} {tk : Int} {f : Int → Option Int} {c cS : Nat} (h : QAtS B w b F most q tk f c) (hB : B ≤ w.heap.size) (hS : OkA cS q.S) (hcS : cS ≤ 100000) (p : Int) (hp : isA zLS q.S.l p = false) :
    Calls Tryd.prog 63 #[.pointer (some ⟨b, 0, none⟩), .int .i64 p] w (fun e w' => e = .returned (.tuple #[.string ⟨#[]⟩, .bool false]) ∧ QPS B b F most q tk f c w w') := by
  obtain ⟨ba, mb, G, h, hF⟩ := h
  subst hF
  have hdr := LDropS_any cS B ba most q.S p w hS hcS h.ar hB
  unfold ChP at hdr
  have hg : getA zLS q.S p = (zLS, false) := if_neg (by rw [hp]; simp)
  have hd : dropA zLS q.S p = q.S := if_neg (by rw [hp]; simp)
  rw [hg, hd] at hdr
  have HDR := hid hdr
  have HH := hid h
  have q0 := Rec.cell h.rc 0
  simp at q0
  have hlb := h.rc.lt
  clear h hdr hS hp hg hd
  go_enter Tryd.func63, Tryd.ntmps63
  go_wp2_with (go_at_call 77; refine HDR.out.mono ?_; rintro _ w2 ⟨rfl, ha, -, hk⟩; have HQ2 := hid (HH.out.arena ha hk); have HK2 := hid (Kept.mono hk (fun k _ hk => (by rcases hk with hk | hk; exact .inr (.inl hk); exact .inr (.inr (.inr hk)) : ft b ba mb G k))); clear ha hk)
  go_ret2
  have hb3 := (Below.refl _ w2).alloc (Nat.le_refl _) (.cells #[.string zLS.1, .int .i64 zLS.2.1, .int .i64 zLS.2.2.1, .int .i64 zLS.2.2.2] 102)
  exact ⟨rfl, ft b ba mb G, ⟨ba, mb, G, HQ2.out.far hb3, rfl⟩, fun k hk => .inl hk, HK2.out.trans (Kept.of_below hb3 _)⟩

end Go.Proofs.YtngokihncjkiaaaDoor
namespace Go.Proofs.YtngokihncjkiaaaDoor
open Go.RowKit
theorem FLenS_any {B : Nat} {w : World} {b : Nat} {F : Nat → Prop} {most : Int} {q : Fq ByteArray} {tk : Int} {f : Int → Option Int} {c : Nat} (h : QAtS B w b F most q tk f c) :
    Calls Tryd.prog 61 #[.pointer (some ⟨b, 0, none⟩)] w (Gives (.int .i64 q.S.n) w) := by
  obtain ⟨ba, mb, G, h, hF⟩ := h
  have HL := hid (LLenS_any ba most q.S w h.ar.rd)
  have q0 := Rec.cell h.rc 0
  simp at q0
  clear h
  go_enter Tryd.func61, Tryd.ntmps61
  go_wp2_with (go_at_call 74; refine HL.out.mono ?_; rintro _ _ ⟨rfl, y1, rfl⟩)
  go_ret
  exact Gives.mk rfl (World.below_past _ _)
set_option maxHeartbeats 1000000 in
theorem FPopS_any {B : Nat} {w : World} {b : Nat} {F : Nat → Prop} {most : Int} {q : Fq ByteArray} {tk : Int} {f : Int → Option Int} {c : Nat} (h : QAtS B w b F most q tk f c) (R : Ending → World → Prop) (ht : Calls Tryd.prog 63 #[.pointer (some ⟨b, 0, none⟩), .int .i64 q.fi] w (fun e w' => ∃ v ok, e = .returned (.tuple #[.string v, .bool ok]) ∧ R (.returned (.tuple #[.string v, .bool ok])) w')) :
    Calls Tryd.prog 44 #[.pointer (some ⟨b, 0, none⟩)] w R := by
  obtain ⟨ba, mb, G, h, hF⟩ := h
  have HT := hid ht
  have q2 := Rec.cell h.rc 2
  simp at q2
  clear h ht
  go_enter Tryd.func44, Tryd.ntmps44
  go_wp2_with (go_at_call 63; refine HT.out.mono ?_; rintro _ w2 ⟨v, ok, rfl, hR⟩)
  exact hR
set_option maxHeartbeats 1000000 in
theorem LNewS_any (B : Nat) (most : Int) (w : World) (hB : B ≤ w.heap.size) :
    Calls Tryd.prog 71 #[.int .i64 most] w (fun e w' => e = .returned (.pointer (some ⟨w.heap.size, 0, none⟩)) ∧ ArLS B w' w.heap.size none (mostA most) ⟨[], 0, 0⟩ ∧ Below w.heap.size w w') := by
  obtain ⟨m, hm⟩ : ∃ m, mostA most = m := ⟨_, rfl⟩
  rw [hm]
  have key : ∀ W : World, W = w.alloc (.cells #[.int .i64 m, .slice none 0 0, .int .i64 0, .int .i64 0] 120) → ArLS B W w.heap.size none m ⟨[], 0, 0⟩ ∧ Below w.heap.size w W := by
    rintro _ rfl
    exact ⟨⟨hB, none, 0, Rec.new w _ _, ⟨rfl, .inl ⟨rfl, rfl⟩⟩, rfl⟩, (Below.refl _ w).alloc (Nat.le_refl _) _⟩
  have K := hid key
  unfold mostA at hm
  clear key
  by_cases h1 : most < 0
  · obtain rfl : m = 0 := by omega
    clear hm
    go_enter Tryd.func71, Tryd.ntmps71
    go_wp2
    go_ret
    exact ⟨rfl, K.out _ rfl⟩
  · by_cases h2 : 4096 < most
    · obtain rfl : m = 4096 := by omega
      clear hm
      have h3 : 0 ≤ most := by omega
      go_enter Tryd.func71, Tryd.ntmps71
      go_wp2
      go_ret
      exact ⟨rfl, K.out _ rfl⟩
    · obtain rfl : m = most := by omega
      clear hm
      have h3 : 0 ≤ m := by omega
      have h4 : m ≤ 4096 := by omega
      go_enter Tryd.func71, Tryd.ntmps71
      go_wp2
      go_ret
      exact ⟨rfl, K.out _ rfl⟩
set_option maxHeartbeats 1000000 in
theorem FNewS_any (B : Nat) (most : Int) (w : World) (hB : B ≤ w.heap.size) :
    Calls Tryd.prog 58 #[.int .i64 most] w (fun e w' => ∃ b F, e = .returned (.pointer (some ⟨b, 0, none⟩)) ∧ QAtS B w' b F (mostA most) ⟨⟨[], 0, 0⟩, -1, -1⟩ 0 (fun _ => none) 0 ∧ (∀ k, F k → w.heap.size ≤ k) ∧ Below w.heap.size w w') := by
  have HN := hid (LNewS_any B most w hB)
  have hmm := @run_makeMap Tryd.prog
  go_enter Tryd.func58, Tryd.ntmps58
  go_wp2_with (go_at_call 71; refine HN.out.mono ?_; rintro _ w2 ⟨rfl, ha, hb⟩; have HA := hid ha; have HB2 := hid hb; clear ha hb)
  go_ret
  have hb := HB2.out
  obtain ⟨W, eW⟩ : ∃ W, W = (w2.alloc (.map #[] 0)).alloc (.cells #[.pointer (some ⟨w.heap.size, 0, none⟩), .map (some w2.heap.size), .int .i64 (-1), .int .i64 (-1), .int .i64 0] 99) := ⟨_, rfl⟩
  have hbW : Below w2.heap.size w2 W := by rw [eW]; exact ((Below.refl _ w2).alloc (Nat.le_refl _) _).alloc (by simp) _
  have hrW : Rec W (w2.heap.size + 1) 99 #[.pointer (some ⟨w.heap.size, 0, none⟩), .map (some w2.heap.size), .int .i64 (-1), .int .i64 (-1), .int .i64 0] := by
    rw [eW]
    have := Rec.new (w2.alloc (.map #[] 0)) 99 #[.pointer (some ⟨w.heap.size, 0, none⟩), .map (some w2.heap.size), .int .i64 (-1), .int .i64 (-1), .int .i64 0]
    simpa using this
  have hmW : MapI Tryd.prog 3 W w2.heap.size (fun _ => none) 0 := by
    rw [eW]
    exact ((MapI.made (P := Tryd.prog) (t := 3) w2).below ((Below.refl _ _).alloc (Nat.le_refl _) _) (by simp)).ext fun z => rfl
  have hs := hb.size
  rw [← eW]
  refine ⟨w2.heap.size + 1, _, rfl, ⟨w.heap.size, w2.heap.size, none, ⟨by omega, by omega, hrW, HA.out.below hbW, hmW⟩, rfl⟩, fun k hk => ?_, hb.trans (hbW.mono hs)⟩
  rcases hk with hk | hk | hk | hk
  · omega
  · omega
  · omega
  · cases hk

end Go.Proofs.YtngokihncjkiaaaDoor
namespace Go.Proofs.YtngokihncjkiaaaDoor
open Go.RowKit
/-! A queue as a list of tickets and values. -/
def QAS (B : Nat) (w : World) (b : Nat) (F : Nat → Prop) (most : Int) (tk : Int) (L : List (Int × ByteArray)) : Prop :=
  ∃ q f c Q ks, QAtS B w b F most q tk f c ∧ InvQ zLS q tk f c Q ks ∧ Q.map (·.2) = L ∧ q.S.l.length ≤ 5000 ∧ most ≤ 4096 ∧ 0 ≤ tk ∧ (L.length : Int) ≤ max most 0
/-- Behind an act. -/
def QRS (B b : Nat) (F : Nat → Prop) (most tk : Int) (L : List (Int × ByteArray)) (w w' : World) : Prop :=
  ∃ F', QAS B w' b F' most tk L ∧ (∀ k, F' k → F k ∨ w.heap.size ≤ k) ∧ Kept F w w'
section
variable {B : Nat} {w w' : World} {b : Nat} {F : Nat → Prop} {most : Int} {q : Fq ByteArray} {tk : Int} {f : Int → Option Int} {c : Nat} {L : List (Int × ByteArray)}
theorem QAtS.far (h : QAtS B w b F most q tk f c) (hb : Below w.heap.size w w') : QAtS B w' b F most q tk f c := by
  obtain ⟨ba, mb, G, h, hF⟩ := h
  exact ⟨ba, mb, G, h.far hb, hF⟩
theorem QAtS.kept {X : Nat → Prop} (h : QAtS B w b F most q tk f c) (hk : Kept X w w') (hX : ∀ k, F k → ¬ X k) : QAtS B w' b F most q tk f c := by
  obtain ⟨ba, mb, G, h, hF⟩ := h
  exact ⟨ba, mb, G, h.kept hk (fun k hk => hX k (by rw [hF]; exact hk)), hF⟩
theorem QAtS.foot (h : QAtS B w b F most q tk f c) (k : Nat) (hk : F k) : B ≤ k ∧ k < w.heap.size := by
  obtain ⟨ba, mb, G, h, hF⟩ := h
  exact h.foot k (by rw [← hF]; exact hk)
theorem QAS.far (h : QAS B w b F most tk L) (hb : Below w.heap.size w w') : QAS B w' b F most tk L := by
  obtain ⟨q, f, c, Q, ks, h1, h2⟩ := h
  exact ⟨q, f, c, Q, ks, h1.far hb, h2⟩
theorem QAS.kept {X : Nat → Prop} (h : QAS B w b F most tk L) (hk : Kept X w w') (hX : ∀ k, F k → ¬ X k) : QAS B w' b F most tk L := by
  obtain ⟨q, f, c, Q, ks, h1, h2⟩ := h
  exact ⟨q, f, c, Q, ks, h1.kept hk hX, h2⟩
theorem QAS.foot (h : QAS B w b F most tk L) (k : Nat) (hk : F k) : B ≤ k ∧ k < w.heap.size := by
  obtain ⟨q, f, c, Q, ks, h1, h2⟩ := h
  exact h1.foot k hk
end
theorem QNewS_any (B : Nat) (most : Int) (w : World) (hB : B ≤ w.heap.size) :
    Calls Tryd.prog 58 #[.int .i64 most] w (fun e w' => ∃ b F, e = .returned (.pointer (some ⟨b, 0, none⟩)) ∧ QAS B w' b F (mostA most) 0 [] ∧ (∀ k, F k → w.heap.size ≤ k) ∧ Below w.heap.size w w') :=
  (FNewS_any B most w hB).mono fun _ _ ⟨b, F, h1, h2, h3, h4⟩ => ⟨b, F, h1, ⟨_, _, _, [], [], h2, InvQ.nil _, rfl, by simp, by unfold mostA; omega, by omega, by simp; omega⟩, h3, h4⟩
theorem QLenS_any {B : Nat} {w : World} {b : Nat} {F : Nat → Prop} {most tk : Int} {L : List (Int × ByteArray)} (h : QAS B w b F most tk L) :
    Calls Tryd.prog 61 #[.pointer (some ⟨b, 0, none⟩)] w (Gives (.int .i64 (L.length : Int)) w) := by
  obtain ⟨q, f, c, Q, ks, h1, h2, h3, _⟩ := h
  have := FLenS_any h1
  rw [h2.n] at this
  rw [← h3, List.length_map]
  exact this
theorem QPushS_any {B : Nat} {w : World} {b : Nat} {F : Nat → Prop} {most tk : Int} {L : List (Int × ByteArray)} (h : QAS B w b F most tk L) (hB : B ≤ w.heap.size) (ht1 : tk ≤ 1000000) (hr : (L.length : Int) < most) (v : ByteArray) :
    Calls Tryd.prog 41 #[.pointer (some ⟨b, 0, none⟩), .string v] w (fun e w' => e = .returned (.tuple #[.int .i64 (tk + 1), .int .i64 0]) ∧ QRS B b F most (tk + 1) (L ++ [(tk + 1, v)]) w w') := by
  obtain ⟨q, f, c, Q, ks, h1, h2, h3, h4, h5, h6, h7⟩ := h
  have hQL : Q.length = L.length := by rw [← h3, List.length_map]
  have hn : q.S.n < most := by rw [h2.n]; omega
  obtain ⟨S', p, ks', hput, hp, hfn, hll, hinv⟩ := push_inv h2 h6 hn v
  refine (PushS_any h1 hB h2.ok (by omega) (by have := h2.c; omega) h6 ht1 (by omega) v S' p 0 hput (by omega) rfl hfn).mono ?_
  rintro _ w2 ⟨e, F', g1, g2, g3⟩
  refine ⟨e, F', ⟨_, _, _, _, _, g1, hinv, by rw [List.map_append, h3]; rfl, ?_, h5, by omega, by simp; omega⟩, g2, g3⟩
  have hl := hinv.len
  rcases hll with g | g
  · have j := (join_len (z := zLS) (⟨S', q.fi, q.la⟩ : Fq ByteArray) q.la (p : Int)); show (joinF _ _ _ _).S.l.length ≤ 5000; rw [j]; show S'.l.length ≤ 5000; omega
  · have j := (join_len (z := zLS) (⟨S', q.fi, q.la⟩ : Fq ByteArray) q.la (p : Int)); show (joinF _ _ _ _).S.l.length ≤ 5000; rw [j]; show S'.l.length ≤ 5000; omega
theorem QPushFS_any {B : Nat} {w : World} {b : Nat} {F : Nat → Prop} {most tk : Int} {L : List (Int × ByteArray)} (h : QAS B w b F most tk L) (hB : B ≤ w.heap.size) (ht1 : tk ≤ 1000000) (hr : most ≤ (L.length : Int)) (v : ByteArray) :
    Calls Tryd.prog 41 #[.pointer (some ⟨b, 0, none⟩), .string v] w (fun e w' => e = .returned (.tuple #[.int .i64 0, .int .i64 3]) ∧ QRS B b F most tk L w w') := by
  obtain ⟨q, f, c, Q, ks, h1, h2, h3, h4, h5, h6, h7⟩ := h
  have hQL : Q.length = L.length := by rw [← h3, List.length_map]
  refine (PushFS_any h1 hB h2.ok (by omega) h6 ht1 v (by rw [h2.n]; omega)).mono ?_
  rintro _ w2 ⟨e, F', g1, g2, g3⟩
  exact ⟨e, F', ⟨q, f, c, Q, ks, g1, h2, h3, h4, h5, h6, h7⟩, g2, g3⟩
/-- An item is taken off its place. -/
theorem qtakeS_any {B : Nat} {w : World} {b : Nat} {F : Nat → Prop} {most tk : Int} {q : Fq ByteArray} {f : Int → Option Int} {c : Nat} {Q : List (ItQ ByteArray)} {ks : List Nat} (h1 : QAtS B w b F most q tk f c) (h2 : InvQ zLS q tk f c Q ks) (h4 : q.S.l.length ≤ 5000) (h5 : most ≤ 4096) (h6 : 0 ≤ tk) (h7 : (Q.length : Int) ≤ max most 0) (ht1 : tk ≤ 1000000) (hB : B ≤ w.heap.size) {i : Nat} {x : ItQ ByteArray} (hx : Q[i]? = some x) :
    Calls Tryd.prog 63 #[.pointer (some ⟨b, 0, none⟩), .int .i64 (x.1 : Int)] w (fun e w' => e = .returned (.tuple #[.string x.2.2, .bool true]) ∧ QRS B b F most tk ((Q.map (·.2)).eraseIdx i) w w') := by
  have his := h2.isA hx
  have hxm := List.mem_of_getElem? hx
  have htk := h2.tk x hxm
  have hil := (List.getElem?_eq_some_iff.1 hx).1
  have hg : (getA zLS q.S (x.1 : Int)).1 = (x.2.2, x.2.1, pv Q i, plc Q (i + 1)) := by rw [getA_slot _ _ his]; exact (h2.link i x hx).1
  have hinv := take_inv h2 hx
  refine (takeS_any h1 hB h2.ok (by omega) (x.1 : Int) his x.2.2 x.2.1 _ _ hg (by unfold I64; omega) (by rw [(h2.f _ _).2 ⟨x, hxm, rfl, rfl⟩]; rfl)).mono ?_
  rintro _ w2 ⟨e, F', g1, g2, g3⟩
  refine ⟨e, F', ⟨_, _, _, _, _, g1, hinv, map_eraseIdx _ _ _, ?_, h5, h6, ?_⟩, g2, g3⟩
  · have := hinv.len
    have e2 := h2.len
    have e3 : (Q.eraseIdx i).length = Q.length - 1 := List.length_eraseIdx_of_lt hil
    rw [this, e3]; simp; omega
  · rw [List.length_eraseIdx_of_lt (by simpa using hil), List.length_map]; omega
theorem QPopS_any {B : Nat} {w : World} {b : Nat} {F : Nat → Prop} {most tk : Int} {x : Int × ByteArray} {L : List (Int × ByteArray)} (h : QAS B w b F most tk (x :: L)) (hB : B ≤ w.heap.size) (ht1 : tk ≤ 1000000) :
    Calls Tryd.prog 44 #[.pointer (some ⟨b, 0, none⟩)] w (fun e w' => e = .returned (.tuple #[.string x.2, .bool true]) ∧ QRS B b F most tk L w w') := by
  obtain ⟨q, f, c, Q, ks, h1, h2, h3, h4, h5, h6, h7⟩ := h
  cases Q with
  | nil => cases h3
  | cons y Q =>
    simp only [List.map_cons, List.cons.injEq] at h3
    obtain ⟨h3, h8⟩ := h3
    refine FPopS_any h1 _ ?_
    have hfi : q.fi = (y.1 : Int) := h2.fi
    rw [hfi]
    refine (qtakeS_any h1 h2 h4 h5 h6 (by rw [← h8] at h7; simpa using h7) ht1 hB (i := 0) (x := y) rfl).mono ?_
    rintro _ w2 ⟨rfl, g⟩
    refine ⟨_, _, rfl, by rw [← h3], ?_⟩
    simp only [List.map_cons, List.eraseIdx_cons_zero] at g
    rw [← h8]; exact g
theorem QPopNS_any {B : Nat} {w : World} {b : Nat} {F : Nat → Prop} {most tk : Int} (h : QAS B w b F most tk ([] : List (Int × ByteArray))) (hB : B ≤ w.heap.size) :
    Calls Tryd.prog 44 #[.pointer (some ⟨b, 0, none⟩)] w (fun e w' => e = .returned (.tuple #[.string ⟨#[]⟩, .bool false]) ∧ QRS B b F most tk ([] : List (Int × ByteArray)) w w') := by
  obtain ⟨q, f, c, Q, ks, h1, h2, h3, h4, h5, h6, h7⟩ := h
  cases Q with
  | cons y Q => cases h3
  | nil =>
    refine FPopS_any h1 _ ?_
    have hfi : q.fi = -1 := h2.fi
    rw [hfi]
    refine (takeNS_any h1 hB h2.ok (by omega) (-1) (isA_neg (by omega))).mono ?_
    rintro _ w2 ⟨rfl, F', g1, g2, g3⟩
    exact ⟨⟨#[]⟩, _, rfl, rfl, F', ⟨q, f, c, [], ks, g1, h2, rfl, h4, h5, h6, h7⟩, g2, g3⟩

end Go.Proofs.YtngokihncjkiaaaDoor
