/-
  Layer 02: both objects, and the deed that is done; what each call makes of them. No condition.
-/
import Derived.Test.YtgaenonggnkknaaRunS
namespace Go.Proofs.Ytgaenonggnkknaa
open Go.RowKit
theorem rec_ne {W : World} {g g' : Nat} {t t' : TypeId} {cs cs' : Array Value} (h : Rec W g t cs) (h' : Rec W g' t' cs') (hn : t ≠ t') : g ≠ g' := by
  rintro rfl
  have e1 : W.heap[g]? = some (.cells cs t (0, 0)) := h
  have e2 : W.heap[g]? = some (.cells cs' t' (0, 0)) := h'
  rw [e1] at e2
  simp only [Option.some.injEq, Obj.cells.injEq] at e2
  exact hn e2.2.1
structure Two (w : World) (ba bw g6 g8 : Nat) (mm : Int) (S : Ar Int) (D : Dc) (x : De) (W : World) : Prop where
  a : ArI w.heap.size W ba mm S
  d : DcAt w.heap.size W bw mm D
  below : Below w.heap.size w W
  b6 : Rec W g6 26 #[.pointer (some ⟨bw, 0, none⟩)]
  b8 : Rec W g8 29 (deV x).toArray
section
variable {w : World} {ba bw g6 g8 : Nat} {mm : Int} {S S' : Ar Int} {D D' : Dc} {x : De} {W W' : World}
theorem Two.past (h : Two w ba bw g6 g8 mm S D x W) (y : Past) : Two w ba bw g6 g8 mm S D x (W.past y) :=
  ⟨h.a.below (W.below_past y), h.d.below (W.below_past y), h.below.trans ((W.below_past y).mono h.below.size), h.b6.past y, h.b8.past y⟩
theorem Two.far (h : Two w ba bw g6 g8 mm S D x W) (hb : Below W.heap.size W W') : Two w ba bw g6 g8 mm S D x W' :=
  ⟨h.a.below hb, h.d.below hb, h.below.trans (hb.mono h.below.size), h.b6.below hb (Nat.le_refl _), h.b8.below hb (Nat.le_refl _)⟩
theorem Two.afterA (h : Two w ba bw g6 g8 mm S D x W) (ha : ArI w.heap.size W' ba mm S') (hb : Below w.heap.size W W') (hk : KeptT ba (fun t => t = 65) W W') : Two w ba bw g6 g8 mm S' D x W' := by
  obtain ⟨A, cp, hrec, _⟩ := h.a.ex
  exact ⟨ha, h.d.kept hk hrec (by decide) (by decide) (by decide) (by decide) (by decide) (by decide), h.below.trans hb,
    Rec.keptT h.b6 hk (rec_ne h.b6 hrec (by decide)) (by decide), Rec.keptT h.b8 hk (rec_ne h.b8 hrec (by decide)) (by decide)⟩
theorem Two.afterD (h : Two w ba bw g6 g8 mm S D x W) (hd : DcAt w.heap.size W' bw mm D') (hb : Below w.heap.size W W') (hk : KeptT bw Tib W W') : Two w ba bw g6 g8 mm S D' x W' := by
  obtain ⟨_, _, _, _, _, _, hrec, _⟩ := h.d.ex
  exact ⟨h.a.kept hk hrec (by decide) (by decide) (by unfold Tib; decide) (by unfold Tib; decide), hd, h.below.trans hb,
    Rec.keptT h.b6 hk (rec_ne h.b6 hrec (by decide)) (by unfold Tib; decide), Rec.keptT h.b8 hk (rec_ne h.b8 hrec (by decide)) (by unfold Tib; decide)⟩
def TwoP (r : Value) (w : World) (ba bw g6 g8 : Nat) (mm : Int) (S : Ar Int) (D : Dc) (x : De) (e : Ending) (W' : World) : Prop := e = .returned r ∧ Two w ba bw g6 g8 mm S D x W'
theorem two_put (v : Int) (hS : OkA 300 S) (h : Two w ba bw g6 g8 mm S D x W) :
    Calls Try.prog 8 #[.pointer (some ⟨ba, 0, none⟩), .int .i64 v] W (TwoP (.tuple #[.int .i64 (putA 0 mm S v).2.1, .int .i64 (putA 0 mm S v).2.2]) w ba bw g6 g8 mm (putA 0 mm S v).1 D x) :=
  (Put_any w.heap.size ba mm S v W hS h.a h.below.size).mono fun _ _ ⟨h1, h2, h3, h4⟩ => ⟨h1, h.afterA h2 h3 h4⟩
theorem two_rput (v : Int) (hD : OkD 300 D) (h : Two w ba bw g6 g8 mm S D x W) :
    Calls Try.prog 9 #[.pointer (some ⟨bw, 0, none⟩), .int .i64 v] W (TwoP (.tuple #[.int .i64 (putD mm D v).2.1, .int .i64 (putD mm D v).2.2]) w ba bw g6 g8 mm S (putD mm D v).1 x) :=
  (RPut_any w.heap.size bw mm D v W hD h.d h.below.size).mono fun _ _ ⟨h1, h2, h3, h4⟩ => ⟨h1, h.afterD h2 h3 h4⟩
theorem two_drop (i : Int) (hS : OkA 300 S) (h : Two w ba bw g6 g8 mm S D x W) :
    Calls Try.prog 10 #[.pointer (some ⟨ba, 0, none⟩), .int .i64 i] W (TwoP (.tuple #[.int .i64 (getA 0 S i).1, .bool (getA 0 S i).2]) w ba bw g6 g8 mm (dropA 0 S i) D x) :=
  (Drop_any w.heap.size ba mm S i W hS h.a h.below.size).mono fun _ _ ⟨h1, h2, h3, h4⟩ => ⟨h1, h.afterA h2 h3 h4⟩
theorem two_rdrop (i : Int) (hD : OkD 300 D) (h : Two w ba bw g6 g8 mm S D x W) :
    Calls Try.prog 11 #[.pointer (some ⟨bw, 0, none⟩), .int .i64 i] W (TwoP (.tuple #[.int .i64 (getD D i).1, .bool (getD D i).2]) w ba bw g6 g8 mm S (dropD D i) x) :=
  (RDrop_any w.heap.size bw mm D i W hD h.d h.below.size).mono fun _ _ ⟨h1, h2, h3, h4⟩ => ⟨h1, h.afterD h2 h3 h4⟩
theorem two_set (i v : Int) (h : Two w ba bw g6 g8 mm S D x W) :
    Calls Try.prog 12 #[.pointer (some ⟨ba, 0, none⟩), .int .i64 i, .int .i64 v] W (TwoP (.bool (isA 0 S.l i)) w ba bw g6 g8 mm (setA 0 S i v) D x) :=
  (Set_any w.heap.size ba mm S i v W h.a h.below.size).mono fun _ _ ⟨h1, h2, h3, h4⟩ => ⟨h1, h.afterA h2 h3 h4⟩
theorem Two.c6 (h : Two w ba bw g6 g8 mm S D x W) : W.cell? ⟨g6, 0, none⟩ = some (.pointer (some ⟨bw, 0, none⟩)) := by rw [Rec.cell h.b6]; rfl
theorem Two.c8 (h : Two w ba bw g6 g8 mm S D x W) : W.cell? ⟨g8, 0, none⟩ = some (.int .u8 x.1) ∧ W.cell? ⟨g8, 1, none⟩ = some (.int .i64 x.2.1) ∧ W.cell? ⟨g8, 2, none⟩ = some (.int .i64 x.2.2) := ⟨by rw [Rec.cell h.b8]; rfl, by rw [Rec.cell h.b8]; rfl, by rw [Rec.cell h.b8]; rfl⟩
theorem two_store {k : Nat} (v : Int) (hk : k < D.l.length) (h : Two w ba bw g6 g8 mm S D x W) : ∃ g1 c1, W.cell? ⟨bw, 1, none⟩ = some (.slice (some ⟨g1, 0, none⟩) D.l.length c1) ∧ (∃ u, W.cell? ⟨g1, k, none⟩ = some u) ∧ W.frozen? ⟨g1, k, none⟩ = false ∧ g1 < W.heap.size ∧
    Two w ba bw g6 g8 mm S ⟨D.l.set k v, D.on, D.free⟩ x (W.setCell ⟨g1, k, none⟩ (.int .i64 v)) := by
  obtain ⟨A1, c1, A2, c2, A3, c3, hrec, hL, hO, hF, hap⟩ := h.d.ex
  obtain ⟨g1', cap1, eA, hg1⟩ := own_succ hL (by omega)
  cases eA
  have q1 := Rec.cell hrec 1
  simp at q1
  have st1 := hL.stored k (.int .i64 v)
  have hr3 := Rec.grown hrec hL st1.2 (by decide)
  have hO3 := own_apart hO st1.2 (apart_types hO hL (by decide))
  have hF3 := own_apart hF st1.2 hap.symm
  have hk3 := KeptT.grown (b := bw) (ts := Tib) hL st1.2 (.inl rfl)
  have hb3 := (Below.refl w.heap.size W).setCell (p := ⟨g1', k, none⟩) hg1 (Value.int .i64 v)
  refine ⟨g1', c1, q1, ?_, hL.frozenAt k, (hL.lt g1' rfl).2, h.afterD ⟨h.d.big, some ⟨g1', 0, none⟩, c1, A2, c2, A3, c3, ?_, ?_, hO3, hF3, ?_⟩ hb3 hk3⟩
  · rw [hL.cellAt k (by omega)]
    exact ⟨_, List.getElem?_eq_getElem (by rw [i64s_length]; exact hk)⟩
  · simp only [List.length_set]
    exact hr3
  · simp only [List.length_set]
    rw [← i64s_set]
    exact st1.1
  · simp only [List.length_set]
    exact hap
end
end Go.Proofs.Ytgaenonggnkknaa
