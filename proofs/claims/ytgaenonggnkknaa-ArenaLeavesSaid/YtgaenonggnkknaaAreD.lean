/-
  Layer 02: the document's object in memory, and what its functions do. No condition.
-/
import Derived.Test.YtgaenonggnkknaaAreC
import Derived.Test.YtgaenonggnkknaaPushB
namespace Go.Proofs.Ytgaenonggnkknaa
open Go.RowKit
def bls (l : List Bool) : List Value := l.map Value.bool
theorem bls_snoc (l : List Bool) (x : Bool) : bls l ++ [.bool x] = bls (l ++ [x]) := by simp [bls]
theorem bls_set (l : List Bool) (k : Nat) (x : Bool) : (bls l).set k (.bool x) = bls (l.set k x) := by simp [bls]
theorem i64s_set (l : List Int) (k : Nat) (x : Int) : (i64s l).set k (.int .i64 x) = i64s (l.set k x) := by simp [i64s]
def nats (l : List Nat) : List Int := l.map fun (n : Nat) => (n : Int)
theorem nats_length (l : List Nat) : (nats l).length = l.length := by simp [nats]
theorem nats_snoc (l : List Nat) (x : Nat) : nats l ++ [(x : Int)] = nats (l ++ [x]) := by simp [nats]
theorem bl_at {w : World} {A : Option Addr} {l : List Bool} (h : Cells w A (bls l)) {k : Nat} (hk : k < l.length) : ∃ b off : Nat, A = some ⟨b, off, none⟩ ∧ w.cell? ⟨b, off + k, none⟩ = some (.bool (l[k]?.getD false)) := by
  obtain ⟨b, off, rfl, h2⟩ := h.at (k := k) (by simpa [bls] using hk)
  exact ⟨b, off, rfl, by rw [h2]; simp [bls, hk]⟩
/-- All that is small. -/
structure OkD (c : Nat) (D : Dc) : Prop where
  len : D.l.length ≤ c
  lon : D.on.length = D.l.length
  lfr : D.free.length ≤ c
  fr : ∀ k ∈ D.free, k < D.l.length
theorem OkD.nil : OkD 0 ⟨[], [], []⟩ := ⟨Nat.le_refl _, rfl, Nat.le_refl _, fun k h => by cases h⟩
theorem OkD.mono {c d : Nat} {D : Dc} (h : OkD c D) (hd : c ≤ d) : OkD d D := ⟨Nat.le_trans h.len hd, h.lon, Nat.le_trans h.lfr hd, h.fr⟩
theorem OkD.put {c : Nat} {D : Dc} (h : OkD c D) (most v : Int) : OkD (c + 1) (putD most D v).1 := by
  have h1 := h.len
  have h2 := h.lon
  have h3 := h.lfr
  unfold putD
  split
  · exact h.mono (by omega)
  · rcases List.eq_nil_or_concat D.free with hf | ⟨fr, k, hf⟩
    · have e : D.free.getLast? = none := by rw [hf]; rfl
      rw [e]
      exact ⟨by simp; omega, by simp [h2], by simp only; omega, fun k hk => by have := h.fr k hk; simp; omega⟩
    · rw [List.concat_eq_append] at hf
      have e : D.free.getLast? = some k := by rw [hf]; simp
      rw [e]
      exact ⟨by simp; omega, by simp [h2], by simp; omega, fun j hj => by have := h.fr j (List.dropLast_subset _ hj); simpa using this⟩
theorem OkD.set {c : Nat} {D : Dc} (h : OkD c D) (i v : Int) : OkD c (setD D i v) := by
  unfold setD
  split
  · exact ⟨by simpa using h.len, by simpa using h.lon, h.lfr, fun k hk => by simpa using h.fr k hk⟩
  · exact h
theorem isD_iff {D : Dc} {i : Int} : isD D i = true ↔ 0 ≤ i ∧ i < D.l.length ∧ onD D i.toNat = true := by simp [isD, and_assoc]
theorem OkD.drop {c : Nat} {D : Dc} (h : OkD c D) (i : Int) : OkD (c + 1) (dropD D i) := by
  unfold dropD
  split
  · rename_i hi
    obtain ⟨a, b, _⟩ := isD_iff.1 hi
    refine ⟨by have := h.len; simp only; omega, by simpa using h.lon, by have := h.lfr; simp; omega, fun k hk => ?_⟩
    simp at hk
    rcases hk with hk | rfl
    · exact h.fr k hk
    · simp only; omega
  · exact h.mono (by omega)
/-- The document's object, of the call's own. -/
structure DcAt (B : Nat) (w : World) (b : Nat) (most : Int) (D : Dc) : Prop where
  big : B ≤ b
  ex : ∃ A1 c1 A2 c2 A3 c3, Rec w b 42 #[.int .i64 most, .slice A1 D.l.length c1, .slice A2 D.on.length c2, .slice A3 D.free.length c3] ∧
    w.ownsRow B 3 1 (.slice A1 D.l.length c1) D.l.length (i64s D.l) ∧ w.ownsRow B 4 1 (.slice A2 D.on.length c2) D.on.length (bls D.on) ∧ w.ownsRow B 3 1 (.slice A3 D.free.length c3) D.free.length (i64s (nats D.free)) ∧
    Apart (.slice A1 D.l.length c1) (.slice A3 D.free.length c3)
structure DcRd (w : World) (b : Nat) (most : Int) (D : Dc) : Prop where
  ex : ∃ A1 c1 A2 c2 A3 c3, Rec w b 42 #[.int .i64 most, .slice A1 D.l.length c1, .slice A2 D.on.length c2, .slice A3 D.free.length c3] ∧ Cells w A1 (i64s D.l) ∧ Cells w A2 (bls D.on)
section
variable {B : Nat} {w w' : World} {b : Nat} {most : Int} {D : Dc}
theorem DcAt.below (h : DcAt B w b most D) (hb : Below w.heap.size w w') : DcAt B w' b most D := by
  obtain ⟨A1, c1, A2, c2, A3, c3, h1, h2, h3, h4, h5⟩ := h.ex
  exact ⟨h.big, A1, c1, A2, c2, A3, c3, h1.below hb (Nat.le_refl _), own_below h2 hb (Nat.le_refl _), own_below h3 hb (Nat.le_refl _), own_below h4 hb (Nat.le_refl _), h5⟩
theorem DcAt.rd (h : DcAt B w b most D) : DcRd w b most D := by
  obtain ⟨A1, c1, A2, c2, A3, c3, h1, h2, h3, h4, h5⟩ := h.ex
  exact ⟨A1, c1, A2, c2, A3, c3, h1, Cells.of_own h2, Cells.of_own h3⟩
theorem DcRd.below (h : DcRd w b most D) (hb : Below w.heap.size w w') : DcRd w' b most D := by
  obtain ⟨A1, c1, A2, c2, A3, c3, h1, h2, h3⟩ := h.ex
  exact ⟨A1, c1, A2, c2, A3, c3, h1.below hb (Nat.le_refl _), h2.below hb, h3.below hb⟩
theorem DcAt.kept {b' : Nat} {ts : TypeId → Prop} {T : TypeId} {cs : Array Value} (h : DcAt B w b most D) (hk : KeptT b' ts w w') (hb : Rec w b' T cs) (hT : T ≠ 3) (hT2 : T ≠ 4) (hT3 : T ≠ 42) (h1 : ¬ ts 3) (h2 : ¬ ts 4) (h3 : ¬ ts 42) : DcAt B w' b most D := by
  obtain ⟨A1, c1, A2, c2, A3, c3, k1, k2, k3, k4, k5⟩ := h.ex
  refine ⟨h.big, A1, c1, A2, c2, A3, c3, Rec.keptT k1 hk ?_ h3, own_keptT k2 hk hb hT h1, own_keptT k3 hk hb hT2 h2, own_keptT k4 hk hb hT h1, k5⟩
  rintro rfl
  have e1 : w.heap[b]? = some (.cells cs T (0, 0)) := hb
  have e2 : w.heap[b]? = _ := k1
  rw [e1] at e2
  simp only [Option.some.injEq, Obj.cells.injEq] at e2
  exact hT3 e2.2.1
end
theorem RIs_any (b : Nat) (most : Int) (D : Dc) (i : Int) (w : World) (h : DcRd w b most D) (hl : D.on.length = D.l.length) :
    Calls Try.prog 13 #[.pointer (some ⟨b, 0, none⟩), .int .i64 i] w (Gives (.bool (isD D i)) w) := by
  obtain ⟨A1, c1, A2, c2, A3, c3, hrec, hc, hb⟩ := h.ex
  have q1 := Rec.cell hrec 1
  have q2 := Rec.cell hrec 2
  simp at q1 q2
  clear h hrec
  by_cases g1 : i < 0
  · have HE := hid (show isD D i = false by unfold isD; rw [decide_eq_false (by omega)]; rfl)
    clear hc hb
    go_enter Try.func13, Try.ntmps13
    go_wp2
    go_ret
    exact Gives.refl (by rw [HE.out]; rfl)
  · obtain ⟨k, rfl⟩ := Int.eq_ofNat_of_zero_le (show 0 ≤ i by omega)
    by_cases g2 : k < D.l.length
    · obtain ⟨g, o, rfl, c0⟩ := bl_at hb (k := k) (by omega)
      have HE := hid (show isD D k = onD D k by unfold isD; rw [decide_eq_true (by omega), decide_eq_true (by omega)]; rfl)
      rw [hl] at q2
      obtain ⟨n, en⟩ : ∃ n, D.l.length = n := ⟨_, rfl⟩
      obtain ⟨on, eon⟩ : ∃ on, onD D k = on := ⟨_, rfl⟩
      have c0' : w.cell? ⟨g, o + k, none⟩ = some (.bool (onD D k)) := c0
      rw [en] at q1 g2 q2
      rw [eon] at c0' HE
      clear hc hb en eon c0 hl
      go_enter Try.func13, Try.ntmps13
      go_wp2
      go_ret
      exact Gives.refl (by rw [HE.out]; rfl)
    · have HE := hid (show isD D k = false by unfold isD; rw [decide_eq_false (p := (k : Int) < D.l.length) (by omega), Bool.and_false]; rfl)
      obtain ⟨n, en⟩ : ∃ n, D.l.length = n := ⟨_, rfl⟩
      rw [en] at q1 g2
      clear hc hb en hl q2
      go_enter Try.func13, Try.ntmps13
      go_wp2
      go_ret
      exact Gives.refl (by rw [HE.out]; rfl)
theorem RGet_any (b : Nat) (most : Int) (D : Dc) (i : Int) (w : World) (h : DcRd w b most D) (hl : D.on.length = D.l.length) :
    Calls Try.prog 15 #[.pointer (some ⟨b, 0, none⟩), .int .i64 i] w (Gives (.tuple #[.int .i64 (getD D i).1, .bool (getD D i).2]) w) := by
  have HI := hid (RIs_any b most D i w h hl)
  by_cases g1 : isD D i = true
  · have HE := hid (show getD D i = (atL D.l i.toNat, true) from if_pos g1)
    rw [g1] at HI
    obtain ⟨h1, h2, _⟩ := isD_iff.1 g1
    obtain ⟨k, rfl⟩ := Int.eq_ofNat_of_zero_le h1
    have hkl : k < D.l.length := by omega
    obtain ⟨A1, c1, A2, c2, A3, c3, hrec, hc, hb⟩ := h.ex
    obtain ⟨g, o, rfl, c0⟩ := i64_at hc hkl
    have q1 := Rec.cell hrec 1
    simp at q1
    rw [Int.toNat_natCast] at HE
    obtain ⟨n, en⟩ : ∃ n, D.l.length = n := ⟨_, rfl⟩
    obtain ⟨x, ex⟩ : ∃ x, atL D.l k = x := ⟨_, rfl⟩
    rw [en] at q1 hkl
    rw [ex] at c0 HE
    clear h hc hrec en ex h1 h2 g1 hb hl
    go_enter Try.func15, Try.ntmps15
    go_wp2_with (go_at_call 13; refine HI.out.mono ?_; rintro _ _ ⟨rfl, x1, rfl⟩)
    go_ret2
    exact Gives.mk (by rw [HE.out]; rfl) (World.below_past _ _)
  · have HE := hid (show getD D i = (0, false) from if_neg g1)
    rw [Bool.eq_false_iff.2 g1] at HI
    clear h g1
    go_enter Try.func15, Try.ntmps15
    go_wp2_with (go_at_call 13; refine HI.out.mono ?_; rintro _ _ ⟨rfl, x1, rfl⟩)
    go_ret2
    exact Gives.mk (by rw [HE.out]; rfl) (World.below_past _ _)
theorem RLen_any (b : Nat) (most : Int) (D : Dc) (w : World) (h : DcRd w b most D) (hl : D.l.length ≤ 300) (hf : D.free.length ≤ 300) :
    Calls Try.prog 17 #[.pointer (some ⟨b, 0, none⟩)] w (Gives (.int .i64 ((D.l.length : Int) - D.free.length)) w) := by
  obtain ⟨A1, c1, A2, c2, A3, c3, hrec, hc, hb⟩ := h.ex
  have q1 := Rec.cell hrec 1
  have q3 := Rec.cell hrec 3
  simp at q1 q3
  obtain ⟨n, en⟩ : ∃ n, D.l.length = n := ⟨_, rfl⟩
  obtain ⟨m, em⟩ : ∃ m, D.free.length = m := ⟨_, rfl⟩
  rw [en] at q1 hl ⊢
  rw [em] at q3 hf ⊢
  have e1 : IntKind.i64.wrap ((n : Int) - m) = (n : Int) - m := by rw [IntKind.wrap_i64]; omega
  clear h hrec hc hb en em
  go_enter Try.func17, Try.ntmps17
  go_wp2_with fail
  refine wp_region_past (by kernel_rfl) (by kernel_rfl) ?_
  repeat (go_big_quiet_step ((fail)))
  refine wpQuiet_nil ?_
  rintro _ ⟨_, rfl⟩
  go_wp2
  go_ret
  exact Gives.mk rfl (World.below_past _ _)
end Go.Proofs.Ytgaenonggnkknaa
