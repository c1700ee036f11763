/-
  Layer 04: both heaps beside one another: what the law's deeds do to them. No condition.
-/
import Derived.Test.YtcbdghjakdbedaaDue
namespace Go.Proofs.Ytcbdghjakdbedaa
open Go Go.RowKit HpI
abbrev tDe : TypeId := 32
/-- A deed. -/
structure De where
  k : Int
  v : Int
  i : Int
  x : Int
abbrev deV (d : De) : List Value := [.int .u8 d.k, .int .u64 d.v, .int .i64 d.i, .int .i64 d.x]
theorem deV_length (d : De) : (deV d).length = 4 := rfl
/-- Both heaps, and the deed's box. -/
structure Bo (w : World) (B b mb br : Nat) (mo : Int) (g : Nat) (d : De) (L M : List It) (W : World) : Prop where
  hp : HP B W b mb mo L
  rf : RHp B W br mo M
  bel : Below w.heap.size w W
  bB : B ≤ W.heap.size
  wB : w.heap.size ≤ B
  box : Rec W g tDe #[.int .u8 d.k, .int .u64 d.v, .int .i64 d.i, .int .i64 d.x]
section
variable {w W W' : World} {B b mb br g : Nat} {mo : Int} {d : De} {L L' M M' : List It}
theorem Bo.far (h : Bo w B b mb br mo g d L M W) (hb : Below W.heap.size W W') : Bo w B b mb br mo g d L M W' :=
  ⟨h.hp.far hb, h.rf.far hb, h.bel.trans (hb.mono h.bel.size), Nat.le_trans h.bB hb.size, h.wB, h.box.below hb (Nat.le_refl _)⟩
theorem Bo.drew (h : Bo w B b mb br mo g d L M W) : Bo w B b mb br mo g d L M W.drew := h.far (Below.refl _ _).drew
theorem Bo.past (h : Bo w B b mb br mo g d L M W) (x : Past) : Bo w B b mb br mo g d L M (W.past x) := h.far (W.below_past x)
theorem Bo.perm (h : Bo w B b mb br mo g d L M W) (p : L.Perm L') : Bo w B b mb br mo g d L' M W := ⟨h.hp.perm p, h.rf, h.bel, h.bB, h.wB, h.box⟩
theorem Bo.hgrew (h : Bo w B b mb br mo g d L M W) (hk : HGrew b mb W W') (hP : HP B W' b mb mo L') (hb : Below B W W') : Bo w B b mb br mo g d L' M W' :=
  ⟨hP, h.rf.ks (Kept.ks hk.kept) (fun k h1 h2 => both_apart h.hp h.rf h2 h1), h.bel.trans (hb.mono h.wB), Nat.le_trans h.bB hb.size, h.wB,
    h.box.kept hk.kept (fun hf => by
      have e := rec_ty h.box
      rcases hF_ty h.hp hf with e' | e' | e' <;> (rw [e] at e'; first | cases e' | exact absurd e' (by decide)))⟩
theorem Bo.hkept (h : Bo w B b mb br mo g d L M W) (hk : HKept b mb W W') (hP : HP B W' b mb mo L') (hb : Below B W W') : Bo w B b mb br mo g d L' M W' := h.hgrew hk.grew hP hb
theorem Bo.rkept (h : Bo w B b mb br mo g d L M W) (hk : Kept (rF br W) W W') (hR : RHp B W' br mo M') (hb : Below B W W') : Bo w B b mb br mo g d L M' W' :=
  ⟨(h.hp.ks (Kept.ks hk) (fun k h1 h2 => both_apart h.hp h.rf h1 h2)).1, hR, h.bel.trans (hb.mono h.wB), Nat.le_trans h.bB hb.size, h.wB,
    h.box.kept hk (fun hf => by
      have e := rec_ty h.box
      rcases rF_ty h.rf hf with e' | e' <;> (rw [e] at e'; exact absurd e' (by decide)))⟩
theorem Bo.rkept1 (h : Bo w B b mb br mo g d L M W) (hk : Kept (fun k => k = br) W W') (hR : RHp B W' br mo M') (hb : Below B W W') : Bo w B b mb br mo g d L M' W' :=
  h.rkept (hk.mono (fun k _ e => .inl e)) hR hb
/-- The box's cells. -/
def BC (g : Nat) (d : De) (W : World) : Prop := W.cell? ⟨g, 0, none⟩ = some (.int .u8 d.k) ∧ W.cell? ⟨g, 1, none⟩ = some (.int .u64 d.v) ∧ W.cell? ⟨g, 2, none⟩ = some (.int .i64 d.i) ∧ W.cell? ⟨g, 3, none⟩ = some (.int .i64 d.x)
theorem Bo.bc (h : Bo w B b mb br mo g d L M W) : BC g d W := ⟨by rw [Rec.cell h.box]; rfl, by rw [Rec.cell h.box]; rfl, by rw [Rec.cell h.box]; rfl, by rw [Rec.cell h.box]; rfl⟩
abbrev itO (d : De) : It := ⟨d.v, d.i, d.x⟩
theorem bo_push (h : Bo w B b mb br mo g d L M W) (hmo : mo ≤ 4096) (hi : I64 d.i) :
    Calls Try.prog 8 #[.pointer (some ⟨b, 0, none⟩), .agg #[.int .u64 d.v, .int .i64 d.i], .int .i64 d.x] W (fun e W' => e = .returned (.int .i64 (pushE L mo d.i)) ∧ Bo w B b mb br mo g d (pushL L mo (itO d)) M W' ∧ BC g d W') :=
  (Push_any h.hp hmo h.bB (itO d) hi).mono fun _ _ ⟨e, h1, h2, h3⟩ => ⟨e, h.hgrew h3 h1 h2, (h.hgrew h3 h1 h2).bc⟩
theorem bo_rpush (h : Bo w B b mb br mo g d L M W) (hmo : mo ≤ 4096) (hM : M.length ≤ 4096) :
    Calls Try.prog 9 #[.pointer (some ⟨br, 0, none⟩), .agg #[.int .u64 d.v, .int .i64 d.i], .int .i64 d.x] W (fun e W' => e = .returned (.int .i64 (pushE M mo d.i)) ∧ Bo w B b mb br mo g d L (rpushL M mo (itO d)) W' ∧ BC g d W') :=
  (RPush_any h.rf hM hmo h.bB (itO d)).mono fun _ _ ⟨e, h1, h2, h3⟩ => ⟨e, h.rkept h3 h1 h2, (h.rkept h3 h1 h2).bc⟩
theorem push_same (hp : L.Perm M) (x : It) : pushE L mo x.id = pushE M mo x.id ∧ (pushL L mo x).Perm (rpushL M mo x) := by
  have e : pushE L mo x.id = pushE M mo x.id := by
    unfold pushE
    rw [hp.length_eq]
    have : x.id ∈ L.map (·.id) ↔ x.id ∈ M.map (·.id) := (hp.map _).mem_iff
    simp only [this]
  refine ⟨e, ?_⟩
  unfold pushL rpushL
  rw [e]
  split
  · exact (List.Perm.cons _ hp).trans (List.perm_append_singleton _ _).symm
  · exact hp
/-- What Pop, or Remove, leaves. -/
theorem bo_pop (h : Bo w B b mb br mo g d L M W) (h0 : 0 < L.length) :
    Calls Try.prog 10 #[.pointer (some ⟨b, 0, none⟩)] W (fun e W' => ∃ x L', e = .returned (kvOf x) ∧ Least L x ∧ (x :: L').Perm L ∧ Bo w B b mb br mo g d L' M W') :=
  (Pop_some h.hp h0 h.bB).mono fun _ _ ⟨x, e, h1, ⟨L', h2, h3⟩, h4, h5⟩ => ⟨x, L', e, h1, h2, h.hkept h5 h3 h4⟩
theorem bo_remove (h : Bo w B b mb br mo g d L M W) (x : It) (hx : x ∈ L) :
    Calls Try.prog 13 #[.pointer (some ⟨b, 0, none⟩), .int .i64 x.id] W (fun e W' => e = .returned (kvOf x) ∧ ∃ L', (x :: L').Perm L ∧ Bo w B b mb br mo g d L' M W') :=
  (Remove_some h.hp x hx h.bB).mono fun _ _ ⟨e, ⟨L', h2, h3⟩, h4, h5⟩ => ⟨e, L', h2, h.hkept h5 h3 h4⟩
theorem bo_take (h : Bo w B b mb br mo g d L M W) (hM : M.length ≤ 4096) (i : Nat) (x : It) (hx : M[i]? = some x) :
    Calls Try.prog 11 #[.pointer (some ⟨br, 0, none⟩), .int .i64 i] W (fun e W' => e = .returned (.tuple #[itOf x, .bool true]) ∧ Bo w B b mb br mo g d L (M.eraseIdx i) W' ∧ Kept (fun k => k = br) W W') :=
  (RTake_some h.rf hM h.bB i x hx).mono fun _ _ ⟨e, h1, h2, h3, _⟩ => ⟨e, h.rkept1 h3 h1 h2, h3⟩
theorem bo_move (h : Bo w B b mb br mo g d L M W) (x : It) (hx : x ∈ L) (v : Int) (L' : List It) (hL : L.Perm (x :: L')) :
    Calls Try.prog 15 #[.pointer (some ⟨b, 0, none⟩), .int .i64 x.id, .int .u64 v] W (fun e W' => e = .returned (.int .i64 0) ∧ Bo w B b mb br mo g d (⟨v, x.id, x.x⟩ :: L') M W') :=
  (Move_some h.hp x hx v L' hL h.bB).mono fun _ _ ⟨e, h1, h2, h3⟩ => ⟨e, h.hkept h3 h1 h2⟩
theorem bo_due (h : Bo w B b mb br mo g d M M W) (u most : Int) (hm0 : 0 ≤ most) (hm1 : most ≤ 5000) :
    Calls Try.prog 17 #[.pointer (some ⟨b, 0, none⟩), .pointer (some ⟨br, 0, none⟩), .int .u64 u, .int .i64 most] W (fun e W' => e = .returned (.bool true) ∧ ∃ L', HP B W' b mb mo L' ∧ RHp B W' br mo L' ∧ Below w.heap.size w W' ∧ B ≤ W'.heap.size ∧ ((M.length : Int) ≤ most → ∀ y ∈ L', u < y.v) ∧ ∀ y ∈ L', y ∈ M) :=
  (due_any W h.hp h.rf h.bB u most hm0 hm1).mono fun _ _ ⟨e, L', h1, h2, h3, h4, _, h6⟩ => ⟨e, L', h1, h2, h.bel.trans (h3.mono h.wB), Nat.le_trans h.bB h3.size, h4, h6⟩
theorem bo_put (h : Bo w B b mb br mo g d L M W) (i : Nat) (x : It) (hx : M[i]? = some x) : ∃ (q c : Nat), W.cell? ⟨br, 1, none⟩ = some (.slice (some ⟨q, 0, none⟩) M.length c) ∧ W.cell? ⟨q, i * 3, none⟩ = some (.int .u64 x.v) ∧ W.frozen? ⟨q, i * 3, none⟩ = false ∧ q < W.heap.size ∧ br < W.heap.size ∧ ¬ g = q ∧
    ∀ v, Bo w B b mb br mo g d L (M.set i ⟨v, x.id, x.x⟩) (W.setCell ⟨q, i * 3, none⟩ (.int .u64 v)) := by
  obtain ⟨a, c, hrec, hown⟩ := h.rf.ex
  obtain ⟨hi, hxe⟩ := List.getElem?_eq_some_iff.1 hx
  obtain ⟨q, cap, eA, hq⟩ := own_succ hown (by omega)
  cases eA
  have i0 := own_cell (j := 0) itV_length hown hx (by omega)
  rw [Nat.add_zero] at i0
  have ho := own_there hown (o := i * 3) (m := 3) (by omega)
  have hf : rF br W q := .inr ⟨M.length, c, by rw [Rec.cell hrec 1]; rfl⟩
  have hgq : ¬ g = q := by
    intro e
    have h1 := rec_ty h.box
    rw [e, own_ty hown rfl] at h1
    exact absurd h1 (by decide)
  refine ⟨q, c, by rw [Rec.cell hrec 1]; rfl, by rw [i0]; rfl, by have := (ho 0 (by omega)).2; simpa using this, World.block_lt_of_cell? W _ (by rw [i0]; rfl : W.cell? ⟨q, i * 3, none⟩ = some (.int .u64 x.v)), hrec.lt, hgq, fun v => ?_⟩
  obtain ⟨p1, p2, p3, p4⟩ := own_put1 (j := 0) (y := (⟨v, x.id, x.x⟩ : It)) (u := .int .u64 v) itV_length (by omega) hrec (by decide) hown hx (by omega) rfl
  rw [Nat.add_zero] at p1 p2 p3 p4
  refine h.rkept ((Kept.refl _ _).setCell (p := ⟨q, i * 3, none⟩) (.inr hf) _) ⟨h.rf.big, some ⟨q, 0, none⟩, c, ?_, p2⟩ p3
  rw [List.length_set]
  exact p1
theorem bo_len (h : HP B W b mb mo M) : Calls Try.prog 18 #[.pointer (some ⟨b, 0, none⟩)] W (Gives (.int .i64 M.length) W) :=
  (Len_any h).mono fun _ _ ⟨e, e2⟩ => by rw [e, e2]; exact Gives.refl rfl
end
end Go.Proofs.Ytcbdghjakdbedaa
