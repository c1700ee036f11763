/-
  Layer 05: a queue of strings in memory. No condition.
-/
import Derived.Test.YtifdogmlaengoaaFifBS
import Derived.Test.YtifdogmlaengoaaFifP
import Derived.Test.YtifdogmlaengoaaRegSplit
namespace Go.Proofs.Ytifdogmlaengoaa
open Go.RowKit
/-! A queue in memory. -/
structure QInS (B : Nat) (w : World) (b ba mb : Nat) (G : Option Nat) (most : Int) (q : Fq ByteArray) (tk : Int) (f : Int → Option Int) (c : Nat) : Prop where
  big : B ≤ b
  bim : B ≤ mb
  rc : Rec w b 81 #[.pointer (some ⟨ba, 0, none⟩), .map (some mb), .int .i64 q.fi, .int .i64 q.la, .int .i64 tk]
  ar : ArLS B w ba G most q.S
  mp : MapI Try.prog 3 w mb f c
section
variable {B : Nat} {w w' : World} {b ba mb : Nat} {G : Option Nat} {most : Int} {q : Fq ByteArray} {tk : Int} {f : Int → Option Int} {c : Nat}
theorem QInS.apart (h : QInS B w b ba mb G most q tk f c) : b ≠ ba ∧ b ≠ mb ∧ ba ≠ mb ∧ some b ≠ G ∧ some ba ≠ G ∧ some mb ≠ G := by
  obtain ⟨A, cp, h1, h2, h3⟩ := h.ar.ex
  refine ⟨?_, MapI.cells h.mp h.rc, MapI.cells h.mp h1, ?_, ?_, ?_⟩
  · rintro rfl
    have e1 := h.rc
    unfold Rec at e1 h1
    rw [e1] at h1
    simp at h1
  · rw [← h3]; exact fun e => own_not_rec h2 h.rc (by decide) e.symm
  · rw [← h3]; exact fun e => own_not_rec h2 h1 (by decide) e.symm
  · rw [← h3]
    intro e
    rcases h2.2 with ⟨h4, _⟩ | ⟨g, cap, cur, hv, hg, hh, hr⟩
    · rw [h4] at e; simp [Value.ownBlock] at e
    · rw [hv] at e
      simp only [Value.ownBlock, Option.some.injEq] at e
      exact MapI.cells h.mp hh e.symm
theorem QInS.far (h : QInS B w b ba mb G most q tk f c) (hb : Below w.heap.size w w') : QInS B w' b ba mb G most q tk f c :=
  ⟨h.big, h.bim, h.rc.below hb (Nat.le_refl _), h.ar.below hb, h.mp.below hb h.mp.lt⟩
theorem QInS.kept {X : Nat → Prop} (h : QInS B w b ba mb G most q tk f c) (hk : Kept X w w') (hX : ∀ k, ft b ba mb G k → ¬ X k) : QInS B w' b ba mb G most q tk f c :=
  ⟨h.big, h.bim, h.rc.kept hk (hX _ (.inl rfl)), h.ar.kept hk (hX _ (.inr (.inl rfl))) (fun g hg => hX g (.inr (.inr (.inr hg.symm)))), h.mp.block (hk.block mb h.mp.lt (hX _ (.inr (.inr (.inl rfl)))))⟩
/-- Behind a change of the arena. -/
theorem QInS.arena {S' : Ar LkS} {G' : Option Nat} (h : QInS B w b ba mb G most q tk f c) (ha : ArLS B w' ba G' most S') (hk : KeptA ba G w w') : QInS B w' b ba mb G' most ⟨S', q.fi, q.la⟩ tk f c := by
  obtain ⟨p1, p2, p3, p4, p5, p6⟩ := h.apart
  have nb : ∀ k, k = b ∨ k = mb → ¬ (k = ba ∨ some k = G) := by
    rintro k (rfl | rfl) (e | e)
    · exact p1 e
    · exact p4 e
    · exact p3 e.symm
    · exact p6 e
  exact ⟨h.big, h.bim, h.rc.kept hk (nb _ (.inl rfl)), ha, h.mp.block (Kept.block hk mb h.mp.lt (nb _ (.inr rfl)))⟩
theorem QInS.field (h : QInS B w b ba mb G most q tk f c) (i : Nat) (u : Value) (fi la tk' : Int) (he : (#[.pointer (some ⟨ba, 0, none⟩), .map (some mb), .int .i64 q.fi, .int .i64 q.la, .int .i64 tk] : Array Value).setIfInBounds i u = #[.pointer (some ⟨ba, 0, none⟩), .map (some mb), .int .i64 fi, .int .i64 la, .int .i64 tk']) : QInS B (w.setCell ⟨b, i, none⟩ u) b ba mb G most ⟨q.S, fi, la⟩ tk' f c := by
  obtain ⟨p1, p2, p3, p4, p5, p6⟩ := h.apart
  have hk : Kept (fun k => k = b) w (w.setCell ⟨b, i, none⟩ u) := (Kept.refl (fun k => k = b) w).setCell (p := ⟨b, i, none⟩) (.inr rfl) u
  refine ⟨h.big, h.bim, ?_, h.ar.kept hk (fun e => p1 e.symm) (fun g hg e => by subst e; exact p4 hg.symm), h.mp.block (hk.block mb h.mp.lt (fun e => p2 e.symm))⟩
  have := Rec.set h.rc i u
  rwa [he] at this
end
theorem QInS.set {B : Nat} {w : World} {b ba mb : Nat} {G : Option Nat} {most : Int} {q : Fq ByteArray} {tk : Int} {f : Int → Option Int} {c : Nat} (h : QInS B w b ba mb G most q tk f c) (hB : B ≤ w.heap.size) (x : Int) (v : LkS) :
    Calls Try.prog 45 #[.pointer (some ⟨ba, 0, none⟩), .int .i64 x, aLS v] w (fun e w' => e = .returned (.bool (isA zLS q.S.l x)) ∧ QInS B w' b ba mb G most ⟨setA zLS q.S x v, q.fi, q.la⟩ tk f c ∧ Kept (ft b ba mb G) w w') :=
  (LSetS_any B ba most q.S x v w h.ar hB).mono fun _ _ g => ⟨g.1, h.arena g.2.1 g.2.2.2, Kept.mono g.2.2.2 (fun k _ hk => by rcases hk with hk | hk; exact .inr (.inl hk); exact .inr (.inr (.inr hk)))⟩
set_option maxHeartbeats 4000000 in
theorem joinS_any {B : Nat} {w : World} {b ba mb : Nat} {G : Option Nat} {most : Int} {q : Fq ByteArray} {tk : Int} {f : Int → Option Int} {c : Nat} (h : QInS B w b ba mb G most q tk f c) (hB : B ≤ w.heap.size) (x y : Int) :
    Calls Try.prog 37 #[.pointer (some ⟨b, 0, none⟩), .int .i64 x, .int .i64 y] w (fun e w' => e = .returned (.tuple #[]) ∧ QInS B w' b ba mb G most (joinF zLS q x y) tk f c ∧ Kept (ft b ba mb G) w w') := by
  have HG := hid (LGetS_any ba most q.S x w h.ar.rd)
  have HH := hid h
  have q0 := Rec.cell h.rc 0
  simp at q0
  have hlb := h.rc.lt
  have hg2 := getA_2 (z := zLS) (S := q.S) (i := x)
  have hja : joA zLS q x y = if isA zLS q.S.l x = true then ⟨setA zLS q.S x ((getA zLS q.S x).1.1, (getA zLS q.S x).1.2.1, (getA zLS q.S x).1.2.2.1, y), q.fi, q.la⟩ else ⟨q.S, y, q.la⟩ := rfl
  rw [← hg2] at hja
  obtain ⟨⟨⟨g1, g2, g3, g4⟩, gb⟩, eg⟩ : ∃ g, getA zLS q.S x = g := ⟨_, rfl⟩
  rw [eg] at HG hja
  clear h hg2 eg
  obtain ⟨q1, eq1⟩ : ∃ q1, joA zLS q x y = q1 := ⟨_, rfl⟩
  have HJF := hid (show joinF zLS q x y = joB zLS q1 x y by unfold joinF; rw [eq1])
  rw [eq1] at hja
  clear eq1
  cases gb with
  | true =>
    have HJA := hid (show q1 = ⟨setA zLS q.S x (g1, g2, g3, y), q.fi, q.la⟩ from hja)
    clear hja
    go_enter Try.func37, Try.ntmps37
    go_upto_region 3 with (go_at_call 44; refine HG.out.mono ?_; rintro _ _ ⟨rfl, y1, rfl⟩)
    obtain ⟨X, eX⟩ : ∃ X, w.heap.size + y1.more = X := ⟨_, rfl⟩
    obtain ⟨w3, ew3⟩ : ∃ W, W = (w.past y1).alloc (.cells #[.string g1, .int .i64 g2, .int .i64 g3, .int .i64 y] 79) := ⟨_, rfl⟩
    have hbx : Rec w3 X 79 #[.string g1, .int .i64 g2, .int .i64 g3, .int .i64 y] := by
      rw [ew3, ← eX]
      have := Rec.new (w.past y1) 79 #[.string g1, .int .i64 g2, .int .i64 g3, .int .i64 y]
      rwa [World.size_past] at this
    have hbw3 : Below w.heap.size w w3 := by rw [ew3]; exact (w.below_past y1).alloc (by simp [World.size_past]) _
    have H3 := hid (HH.out.far hbw3)
    have q0 := Rec.cell H3.out.rc 0
    have c0 := Rec.cell hbx 0
    have c1 := Rec.cell hbx 1
    have c2 := Rec.cell hbx 2
    have c3 := Rec.cell hbx 3
    simp at q0 c0 c1 c2 c3
    have HSE := hid ((H3.out.far (Below.refl _ _).drew).set (Nat.le_trans hB hbw3.size) x (g1, g2, g3, y))
    have HKw3 := hid (Kept.of_below hbw3 (ft b ba mb G))
    rw [eX, ← ew3]
    clear ew3 hbx hbw3 eX
    refine wp_region_split (S := (fun W => W.cell? ⟨b, 0, none⟩ = some (.pointer (some ⟨ba, 0, none⟩)) ∧ W.cell? ⟨X, 0, none⟩ = some (.string g1) ∧ W.cell? ⟨X, 1, none⟩ = some (.int .i64 g2) ∧ W.cell? ⟨X, 2, none⟩ = some (.int .i64 g3) ∧ W.cell? ⟨X, 3, none⟩ = some (.int .i64 y))) 6 (by kernel_rfl) (by kernel_rfl) ?_ (fun hHeld => ?_)
    · (first | (simp [go_sem, *]; done))
    simp only [List.take_succ_cons, List.take_zero, List.drop_succ_cons, List.drop_zero]
    refine wpAnyH_take (i := 0) (v := ?_) rfl (by kernel_rfl) (by kernel_rfl) (by kernel_rfl) (fun _ _ _ h => h) (Or.inl ⟨by rfl, ?_⟩) (by assumption) ?_
    rotate_left
    · intro w hSw; (try dsimp only at hSw); go_simp; try with_reducible rfl
    try simp only [put_simp]
    refine wpAnyH_take (i := 1) (v := ?_) rfl (by kernel_rfl) (by kernel_rfl) (by kernel_rfl) (fun _ _ _ h => h) (Or.inl ⟨by rfl, ?_⟩) (by assumption) ?_
    rotate_left
    · intro w hSw; (try dsimp only at hSw); go_simp; try with_reducible rfl
    try simp only [put_simp]
    refine wpAnyH_take (i := 2) (v := ?_) rfl (by kernel_rfl) (by kernel_rfl) (by kernel_rfl) (fun _ _ _ h => h) (Or.inl ⟨by rfl, ?_⟩) (by assumption) ?_
    rotate_left
    · intro w hSw; (try dsimp only at hSw); go_simp; try with_reducible rfl
    try simp only [put_simp]
    refine wpAnyH_take (i := 3) (v := ?_) rfl (by kernel_rfl) (by kernel_rfl) (by kernel_rfl) (fun _ _ _ h => h) (Or.inl ⟨by rfl, ?_⟩) (by assumption) ?_
    rotate_left
    · intro w hSw; (try dsimp only at hSw); go_simp; try with_reducible rfl
    try simp only [put_simp]
    refine wpAnyH_take (i := 4) (v := ?_) rfl (by kernel_rfl) (by kernel_rfl) (by kernel_rfl) (fun _ _ _ h => h) (Or.inl ⟨by rfl, ?_⟩) (by assumption) ?_
    rotate_left
    · intro w hSw; (try dsimp only at hSw); go_simp; try with_reducible rfl
    try simp only [put_simp]
    refine wpAnyH_take (i := 5) (v := ?_) rfl (by kernel_rfl) (by kernel_rfl) (by kernel_rfl) (fun _ _ _ h => h) (Or.inl ⟨by rfl, ?_⟩) (by assumption) ?_
    rotate_left
    · intro w hSw; (try dsimp only at hSw); go_simp; try with_reducible rfl
    try simp only [put_simp]
    refine wpAnyH_done (by kernel_rfl) ?_ _
    change wpList _ _ _ _ _ _
    go_upto_region 5 with (go_at_call 45; refine HSE.out.mono ?_; rintro _ w5 ⟨rfl, h5, hk5⟩)
    have HK5 := hid (HKw3.out.drew.trans hk5)
    rw [← HJA.out] at h5
    have H5 := hid h5
    clear h5 hk5 hHeld HSE H3 HJA c0 c1 c2 c3 q0
    have hK5 := HK5.out.size
    have HG2 := hid (LGetS_any ba most q1.S y w5 H5.out.ar.rd)
    have q0 := Rec.cell H5.out.rc 0
    simp at q0
    have hg2 := getA_2 (z := zLS) (S := q1.S) (i := y)
    have hjb : joB zLS q1 x y = if isA zLS q1.S.l y = true then ⟨setA zLS q1.S y ((getA zLS q1.S y).1.1, (getA zLS q1.S y).1.2.1, x, (getA zLS q1.S y).1.2.2.2), q1.fi, q1.la⟩ else ⟨q1.S, q1.fi, x⟩ := rfl
    rw [← hg2] at hjb
    obtain ⟨⟨⟨d1, d2, d3, d4⟩, db⟩, eg⟩ : ∃ g, getA zLS q1.S y = g := ⟨_, rfl⟩
    rw [eg] at HG2 hjb
    clear hg2 eg
    cases db with
    | true =>
      have HJB := hid (show joB zLS q1 x y = ⟨setA zLS q1.S y (d1, d2, x, d4), q1.fi, q1.la⟩ from hjb)
      clear hjb
      go_upto_region 8 with (go_at_call 44; refine HG2.out.mono ?_; rintro _ _ ⟨rfl, y2, rfl⟩)
      obtain ⟨Y, eY⟩ : ∃ X, w5.heap.size + y2.more = X := ⟨_, rfl⟩
      obtain ⟨w6, ew6⟩ : ∃ W, W = (w5.past y2).alloc (.cells #[.string d1, .int .i64 d2, .int .i64 x, .int .i64 d4] 79) := ⟨_, rfl⟩
      have hbx : Rec w6 Y 79 #[.string d1, .int .i64 d2, .int .i64 x, .int .i64 d4] := by
        rw [ew6, ← eY]
        have := Rec.new (w5.past y2) 79 #[.string d1, .int .i64 d2, .int .i64 x, .int .i64 d4]
        rwa [World.size_past] at this
      have hbw6 : Below w5.heap.size w5 w6 := by rw [ew6]; exact (w5.below_past y2).alloc (by simp [World.size_past]) _
      have H6 := hid (H5.out.far hbw6)
      have q0 := Rec.cell H6.out.rc 0
      have c0 := Rec.cell hbx 0
      have c1 := Rec.cell hbx 1
      have c2 := Rec.cell hbx 2
      have c3 := Rec.cell hbx 3
      simp at q0 c0 c1 c2 c3
      have HSE := hid ((H6.out.far (Below.refl _ _).drew).set (Nat.le_trans (Nat.le_trans hB hK5) hbw6.size) y (d1, d2, x, d4))
      have HKw6 := hid (Kept.of_below hbw6 (ft b ba mb G))
      rw [eY, ← ew6]
      clear ew6 hbx hbw6 eY
      refine wp_region_split (S := (fun W => W.cell? ⟨b, 0, none⟩ = some (.pointer (some ⟨ba, 0, none⟩)) ∧ W.cell? ⟨Y, 0, none⟩ = some (.string d1) ∧ W.cell? ⟨Y, 1, none⟩ = some (.int .i64 d2) ∧ W.cell? ⟨Y, 2, none⟩ = some (.int .i64 x) ∧ W.cell? ⟨Y, 3, none⟩ = some (.int .i64 d4))) 6 (by kernel_rfl) (by kernel_rfl) ?_ (fun hHeld => ?_)
      · (first | (simp [go_sem, *]; done))
      simp only [List.take_succ_cons, List.take_zero, List.drop_succ_cons, List.drop_zero]
      refine wpAnyH_take (i := 0) (v := ?_) rfl (by kernel_rfl) (by kernel_rfl) (by kernel_rfl) (fun _ _ _ h => h) (Or.inl ⟨by rfl, ?_⟩) (by assumption) ?_
      rotate_left
      · intro w hSw; (try dsimp only at hSw); go_simp; try with_reducible rfl
      try simp only [put_simp]
      refine wpAnyH_take (i := 1) (v := ?_) rfl (by kernel_rfl) (by kernel_rfl) (by kernel_rfl) (fun _ _ _ h => h) (Or.inl ⟨by rfl, ?_⟩) (by assumption) ?_
      rotate_left
      · intro w hSw; (try dsimp only at hSw); go_simp; try with_reducible rfl
      try simp only [put_simp]
      refine wpAnyH_take (i := 2) (v := ?_) rfl (by kernel_rfl) (by kernel_rfl) (by kernel_rfl) (fun _ _ _ h => h) (Or.inl ⟨by rfl, ?_⟩) (by assumption) ?_
      rotate_left
      · intro w hSw; (try dsimp only at hSw); go_simp; try with_reducible rfl
      try simp only [put_simp]
      refine wpAnyH_take (i := 3) (v := ?_) rfl (by kernel_rfl) (by kernel_rfl) (by kernel_rfl) (fun _ _ _ h => h) (Or.inl ⟨by rfl, ?_⟩) (by assumption) ?_
      rotate_left
      · intro w hSw; (try dsimp only at hSw); go_simp; try with_reducible rfl
      try simp only [put_simp]
      refine wpAnyH_take (i := 4) (v := ?_) rfl (by kernel_rfl) (by kernel_rfl) (by kernel_rfl) (fun _ _ _ h => h) (Or.inl ⟨by rfl, ?_⟩) (by assumption) ?_
      rotate_left
      · intro w hSw; (try dsimp only at hSw); go_simp; try with_reducible rfl
      try simp only [put_simp]
      refine wpAnyH_take (i := 5) (v := ?_) rfl (by kernel_rfl) (by kernel_rfl) (by kernel_rfl) (fun _ _ _ h => h) (Or.inl ⟨by rfl, ?_⟩) (by assumption) ?_
      rotate_left
      · intro w hSw; (try dsimp only at hSw); go_simp; try with_reducible rfl
      try simp only [put_simp]
      refine wpAnyH_done (by kernel_rfl) ?_ _
      change wpList _ _ _ _ _ _
      go_wp2_with (go_at_call 45; refine HSE.out.mono ?_; rintro _ w7 ⟨rfl, h7, hk7⟩; have H7 := hid h7; have HK7 := hid hk7; clear h7 hk7)
      go_end0
      refine ⟨rfl, ?_, HK5.out.trans (HKw6.out.drew.trans HK7.out)⟩
      rw [HJF.out, HJB.out]
      exact H7.out
    | false =>
      have HJB := hid (show joB zLS q1 x y = ⟨q1.S, q1.fi, x⟩ from hjb)
      clear hjb
      go_upto_if 42 with (go_at_call 44; refine HG2.out.mono ?_; rintro _ _ ⟨rfl, y2, rfl⟩)
      obtain ⟨Y, eY⟩ : ∃ X, w5.heap.size + y2.more = X := ⟨_, rfl⟩
      obtain ⟨w6, ew6⟩ : ∃ W, W = (w5.past y2).alloc (.cells #[.string d1, .int .i64 d2, .int .i64 d3, .int .i64 d4] 79) := ⟨_, rfl⟩
      have hbx : Rec w6 Y 79 #[.string d1, .int .i64 d2, .int .i64 d3, .int .i64 d4] := by
        rw [ew6, ← eY]
        have := Rec.new (w5.past y2) 79 #[.string d1, .int .i64 d2, .int .i64 d3, .int .i64 d4]
        rwa [World.size_past] at this
      have hbw6 : Below w5.heap.size w5 w6 := by rw [ew6]; exact (w5.below_past y2).alloc (by simp [World.size_past]) _
      have H6 := hid (H5.out.far hbw6)
      have q3 := Rec.cell H6.out.rc 3
      have f3 := Rec.frozen H6.out.rc 3
      have l3 := H6.out.rc.lt
      simp at q3
      have HKw6 := hid (Kept.of_below hbw6 (ft b ba mb G))
      rw [eY, ← ew6]
      clear ew6 hbx hbw6 eY
      go_wp2_with fail
      go_end0
      refine ⟨rfl, ?_, HK5.out.trans (HKw6.out.setCell (p := ⟨b, 3, none⟩) (.inr (.inl rfl)) _)⟩
      rw [HJF.out, HJB.out]
      exact H6.out.field 3 (.int .i64 x) q1.fi x tk rfl
  | false =>
    have HJA := hid (show q1 = ⟨q.S, y, q.la⟩ from hja)
    clear hja
    go_enter Try.func37, Try.ntmps37
    go_upto_if 19 with (go_at_call 44; refine HG.out.mono ?_; rintro _ _ ⟨rfl, y1, rfl⟩)
    obtain ⟨X, eX⟩ : ∃ X, w.heap.size + y1.more = X := ⟨_, rfl⟩
    obtain ⟨w3, ew3⟩ : ∃ W, W = (w.past y1).alloc (.cells #[.string g1, .int .i64 g2, .int .i64 g3, .int .i64 g4] 79) := ⟨_, rfl⟩
    have hbx : Rec w3 X 79 #[.string g1, .int .i64 g2, .int .i64 g3, .int .i64 g4] := by
      rw [ew3, ← eX]
      have := Rec.new (w.past y1) 79 #[.string g1, .int .i64 g2, .int .i64 g3, .int .i64 g4]
      rwa [World.size_past] at this
    have hbw3 : Below w.heap.size w w3 := by rw [ew3]; exact (w.below_past y1).alloc (by simp [World.size_past]) _
    have H3 := hid (HH.out.far hbw3)
    have q2 := Rec.cell H3.out.rc 2
    have f2 := Rec.frozen H3.out.rc 2
    have l2 := H3.out.rc.lt
    simp at q2
    have HKw3 := hid (Kept.of_below hbw3 (ft b ba mb G))
    rw [eX, ← ew3]
    clear ew3 hbx hbw3 eX q0
    go_upto_region 5 with (fail)
    obtain ⟨w5, ew5⟩ : ∃ W, W = w3.setCell ⟨b, 2, none⟩ (.int .i64 y) := ⟨_, rfl⟩
    have h5 := H3.out.field 2 (.int .i64 y) y q.la tk rfl
    rw [← ew5, ← HJA.out] at h5
    have HK5 : Hid (Kept (ft b ba mb G) w w5) := hid (by rw [ew5]; exact HKw3.out.setCell (p := ⟨b, 2, none⟩) (.inr (.inl rfl)) _)
    rw [← ew5]
    have H5 := hid h5
    clear h5 ew5 H3 HJA q2 f2 l2
    have hK5 := HK5.out.size
    have HG2 := hid (LGetS_any ba most q1.S y w5 H5.out.ar.rd)
    have q0 := Rec.cell H5.out.rc 0
    simp at q0
    have hg2 := getA_2 (z := zLS) (S := q1.S) (i := y)
    have hjb : joB zLS q1 x y = if isA zLS q1.S.l y = true then ⟨setA zLS q1.S y ((getA zLS q1.S y).1.1, (getA zLS q1.S y).1.2.1, x, (getA zLS q1.S y).1.2.2.2), q1.fi, q1.la⟩ else ⟨q1.S, q1.fi, x⟩ := rfl
    rw [← hg2] at hjb
    obtain ⟨⟨⟨d1, d2, d3, d4⟩, db⟩, eg⟩ : ∃ g, getA zLS q1.S y = g := ⟨_, rfl⟩
    rw [eg] at HG2 hjb
    clear hg2 eg
    cases db with
    | true =>
      have HJB := hid (show joB zLS q1 x y = ⟨setA zLS q1.S y (d1, d2, x, d4), q1.fi, q1.la⟩ from hjb)
      clear hjb
      go_upto_region 8 with (go_at_call 44; refine HG2.out.mono ?_; rintro _ _ ⟨rfl, y2, rfl⟩)
      obtain ⟨Y, eY⟩ : ∃ X, w5.heap.size + y2.more = X := ⟨_, rfl⟩
      obtain ⟨w6, ew6⟩ : ∃ W, W = (w5.past y2).alloc (.cells #[.string d1, .int .i64 d2, .int .i64 x, .int .i64 d4] 79) := ⟨_, rfl⟩
      have hbx : Rec w6 Y 79 #[.string d1, .int .i64 d2, .int .i64 x, .int .i64 d4] := by
        rw [ew6, ← eY]
        have := Rec.new (w5.past y2) 79 #[.string d1, .int .i64 d2, .int .i64 x, .int .i64 d4]
        rwa [World.size_past] at this
      have hbw6 : Below w5.heap.size w5 w6 := by rw [ew6]; exact (w5.below_past y2).alloc (by simp [World.size_past]) _
      have H6 := hid (H5.out.far hbw6)
      have q0 := Rec.cell H6.out.rc 0
      have c0 := Rec.cell hbx 0
      have c1 := Rec.cell hbx 1
      have c2 := Rec.cell hbx 2
      have c3 := Rec.cell hbx 3
      simp at q0 c0 c1 c2 c3
      have HSE := hid ((H6.out.far (Below.refl _ _).drew).set (Nat.le_trans (Nat.le_trans hB hK5) hbw6.size) y (d1, d2, x, d4))
      have HKw6 := hid (Kept.of_below hbw6 (ft b ba mb G))
      rw [eY, ← ew6]
      clear ew6 hbx hbw6 eY
      refine wp_region_split (S := (fun W => W.cell? ⟨b, 0, none⟩ = some (.pointer (some ⟨ba, 0, none⟩)) ∧ W.cell? ⟨Y, 0, none⟩ = some (.string d1) ∧ W.cell? ⟨Y, 1, none⟩ = some (.int .i64 d2) ∧ W.cell? ⟨Y, 2, none⟩ = some (.int .i64 x) ∧ W.cell? ⟨Y, 3, none⟩ = some (.int .i64 d4))) 6 (by kernel_rfl) (by kernel_rfl) ?_ (fun hHeld => ?_)
      · (first | (simp [go_sem, *]; done))
      simp only [List.take_succ_cons, List.take_zero, List.drop_succ_cons, List.drop_zero]
      refine wpAnyH_take (i := 0) (v := ?_) rfl (by kernel_rfl) (by kernel_rfl) (by kernel_rfl) (fun _ _ _ h => h) (Or.inl ⟨by rfl, ?_⟩) (by assumption) ?_
      rotate_left
      · intro w hSw; (try dsimp only at hSw); go_simp; try with_reducible rfl
      try simp only [put_simp]
      refine wpAnyH_take (i := 1) (v := ?_) rfl (by kernel_rfl) (by kernel_rfl) (by kernel_rfl) (fun _ _ _ h => h) (Or.inl ⟨by rfl, ?_⟩) (by assumption) ?_
      rotate_left
      · intro w hSw; (try dsimp only at hSw); go_simp; try with_reducible rfl
      try simp only [put_simp]
      refine wpAnyH_take (i := 2) (v := ?_) rfl (by kernel_rfl) (by kernel_rfl) (by kernel_rfl) (fun _ _ _ h => h) (Or.inl ⟨by rfl, ?_⟩) (by assumption) ?_
      rotate_left
      · intro w hSw; (try dsimp only at hSw); go_simp; try with_reducible rfl
      try simp only [put_simp]
      refine wpAnyH_take (i := 3) (v := ?_) rfl (by kernel_rfl) (by kernel_rfl) (by kernel_rfl) (fun _ _ _ h => h) (Or.inl ⟨by rfl, ?_⟩) (by assumption) ?_
      rotate_left
      · intro w hSw; (try dsimp only at hSw); go_simp; try with_reducible rfl
      try simp only [put_simp]
      refine wpAnyH_take (i := 4) (v := ?_) rfl (by kernel_rfl) (by kernel_rfl) (by kernel_rfl) (fun _ _ _ h => h) (Or.inl ⟨by rfl, ?_⟩) (by assumption) ?_
      rotate_left
      · intro w hSw; (try dsimp only at hSw); go_simp; try with_reducible rfl
      try simp only [put_simp]
      refine wpAnyH_take (i := 5) (v := ?_) rfl (by kernel_rfl) (by kernel_rfl) (by kernel_rfl) (fun _ _ _ h => h) (Or.inl ⟨by rfl, ?_⟩) (by assumption) ?_
      rotate_left
      · intro w hSw; (try dsimp only at hSw); go_simp; try with_reducible rfl
      try simp only [put_simp]
      refine wpAnyH_done (by kernel_rfl) ?_ _
      change wpList _ _ _ _ _ _
      go_wp2_with (go_at_call 45; refine HSE.out.mono ?_; rintro _ w7 ⟨rfl, h7, hk7⟩; have H7 := hid h7; have HK7 := hid hk7; clear h7 hk7)
      go_end0
      refine ⟨rfl, ?_, HK5.out.trans (HKw6.out.drew.trans HK7.out)⟩
      rw [HJF.out, HJB.out]
      exact H7.out
    | false =>
      have HJB := hid (show joB zLS q1 x y = ⟨q1.S, q1.fi, x⟩ from hjb)
      clear hjb
      go_upto_if 42 with (go_at_call 44; refine HG2.out.mono ?_; rintro _ _ ⟨rfl, y2, rfl⟩)
      obtain ⟨Y, eY⟩ : ∃ X, w5.heap.size + y2.more = X := ⟨_, rfl⟩
      obtain ⟨w6, ew6⟩ : ∃ W, W = (w5.past y2).alloc (.cells #[.string d1, .int .i64 d2, .int .i64 d3, .int .i64 d4] 79) := ⟨_, rfl⟩
      have hbx : Rec w6 Y 79 #[.string d1, .int .i64 d2, .int .i64 d3, .int .i64 d4] := by
        rw [ew6, ← eY]
        have := Rec.new (w5.past y2) 79 #[.string d1, .int .i64 d2, .int .i64 d3, .int .i64 d4]
        rwa [World.size_past] at this
      have hbw6 : Below w5.heap.size w5 w6 := by rw [ew6]; exact (w5.below_past y2).alloc (by simp [World.size_past]) _
      have H6 := hid (H5.out.far hbw6)
      have q3 := Rec.cell H6.out.rc 3
      have f3 := Rec.frozen H6.out.rc 3
      have l3 := H6.out.rc.lt
      simp at q3
      have HKw6 := hid (Kept.of_below hbw6 (ft b ba mb G))
      rw [eY, ← ew6]
      clear ew6 hbx hbw6 eY
      go_wp2_with fail
      go_end0
      refine ⟨rfl, ?_, HK5.out.trans (HKw6.out.setCell (p := ⟨b, 3, none⟩) (.inr (.inl rfl)) _)⟩
      rw [HJF.out, HJB.out]
      exact H6.out.field 3 (.int .i64 x) q1.fi x tk rfl

end Go.Proofs.Ytifdogmlaengoaa
