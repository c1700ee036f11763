/-
  Layer 18: the product's ledger in memory, and what its functions do. No condition.
-/
import Derived.Test.YtookaodcdglhfaaDoorLedS
import Derived.Test.YtookaodcdglhfaaDoorRowPut
import Derived.Test.YtookaodcdglhfaaDoorRegMid
import Derived.StillTailTactics
namespace Go.Proofs.YtookaodcdglhfaaDoor
open Go.RowKit
abbrev ptV (x : Pt) : List Value := [.int .i64 x.w, .int .u64 x.v, .int .i64 x.h]
theorem ptV_length (x : Pt) : (ptV x).length = 3 := rfl
abbrev tL : TypeId := 52
abbrev tP : TypeId := 54
structure LgAt (B : Nat) (w : World) (b : Nat) (S : Lg) : Prop where
  big : B ≤ b
  ex : ∃ A c, Rec w b tL #[.slice A S.l.length c, .int .i64 S.sl, .int .i64 S.cr, .int .u64 S.fl, .int .u64 (S.act : Int)] ∧ w.ownsRow B tP 3 (.slice A S.l.length c) S.l.length (tab ptV S.l)
section
variable {B : Nat} {w w' : World} {b : Nat} {S : Lg}
theorem LgAt.far (h : LgAt B w b S) (hb : Below w.heap.size w w') : LgAt B w' b S := by
  obtain ⟨A, c, h1, h2⟩ := h.ex
  exact ⟨h.big, A, c, h1.below hb (Nat.le_refl _), own_below h2 hb (Nat.le_refl _)⟩
theorem LgAt.past (h : LgAt B w b S) (x : Past) : LgAt B (w.past x) b S := h.far (w.below_past x)
theorem LgAt.lt (h : LgAt B w b S) : b < w.heap.size := by
  obtain ⟨A, c, h1, h2⟩ := h.ex
  exact Rec.lt h1
theorem is_any (h : LgAt B w b S) (p : Int) : Calls Tryd.prog 28 #[.pointer (some ⟨b, 0, none⟩), .int .i64 p] w (Gives (.bool (isP S.l p)) w) := by
  obtain ⟨A, c, h1, h2⟩ := h.ex
  have q0 := Rec.cell h1 0
  simp at q0
  obtain ⟨n, en⟩ : ∃ n, S.l.length = n := ⟨_, rfl⟩
  have HE := hid (show isP S.l p = (decide (0 ≤ p) && decide (p < (n : Int))) by unfold isP; rw [en])
  rw [en] at q0
  clear h h1 h2 en
  rcases dec_cases (0 ≤ p) with g1 | g1 <;> rcases dec_cases (p < (n : Int)) with g2 | g2
  all_goals
    rw [g1, g2] at HE
    go_enter Tryd.func28, Tryd.ntmps28
    go_wp2
    go_ret
    exact Gives.refl (by rw [HE.out]; simp_all)
end
theorem is_nil (p : Int) (w : World) : Calls Tryd.prog 28 #[.pointer none, .int .i64 p] w (Gives (.bool false) w) := by
  go_enter Tryd.func28, Tryd.ntmps28
  go_wp2
  go_ret
  exact Gives.refl rfl
section
variable {B : Nat} {w w' : World} {b : Nat} {S : Lg}
/-- The cells of a party. -/
theorem LgAt.party (h : LgAt B w b S) {k : Nat} (hk : k < S.l.length) : ∃ g cap, w.cell? ⟨b, 0, none⟩ = some (.slice (some ⟨g, 0, none⟩) S.l.length cap) ∧ w.cell? ⟨g, k * 3, none⟩ = some (.int .i64 (pt S.l k).w) ∧ w.cell? ⟨g, k * 3 + 1, none⟩ = some (.int .u64 (pt S.l k).v) ∧ w.cell? ⟨g, k * 3 + 2, none⟩ = some (.int .i64 (pt S.l k).h) := by
  obtain ⟨A, c, h1, h2⟩ := h.ex
  obtain ⟨g, cap, eA, _⟩ := own_succ h2 (by omega)
  cases eA
  have q0 := Rec.cell h1 0
  simp at q0
  refine ⟨g, _, q0, ?_, ?_, ?_⟩
  · have := own_cell (j := 0) ptV_length h2 (pt_at hk) (by omega); exact this
  · have := own_cell (j := 1) ptV_length h2 (pt_at hk) (by omega); exact this
  · have := own_cell (j := 2) ptV_length h2 (pt_at hk) (by omega); exact this
theorem LgAt.pty (h : LgAt B w b S) {g n cap k : Nat} (hq : w.cell? ⟨b, 0, none⟩ = some (.slice (some ⟨g, 0, none⟩) n cap)) (hk : k < S.l.length) : w.cell? ⟨g, k * 3, none⟩ = some (.int .i64 (pt S.l k).w) ∧ w.cell? ⟨g, k * 3 + 1, none⟩ = some (.int .u64 (pt S.l k).v) ∧ w.cell? ⟨g, k * 3 + 2, none⟩ = some (.int .i64 (pt S.l k).h) := by
  obtain ⟨g2, cap2, r0, r1, r2, r3⟩ := h.party hk
  rw [hq] at r0
  simp only [Option.some.injEq, Value.slice.injEq, Addr.mk.injEq] at r0
  obtain ⟨⟨rfl, _⟩, _⟩ := r0
  exact ⟨r1, r2, r3⟩
theorem LgAt.rest (h : LgAt B w b S) : w.cell? ⟨b, 1, none⟩ = some (.int .i64 S.sl) ∧ w.cell? ⟨b, 2, none⟩ = some (.int .i64 S.cr) ∧ w.cell? ⟨b, 3, none⟩ = some (.int .u64 S.fl) ∧ w.cell? ⟨b, 4, none⟩ = some (.int .u64 (S.act : Int)) := by
  obtain ⟨A, c, h1, h2⟩ := h.ex
  exact ⟨by rw [Rec.cell h1 1]; rfl, by rw [Rec.cell h1 2]; rfl, by rw [Rec.cell h1 3]; rfl, by rw [Rec.cell h1 4]; rfl⟩
theorem LgAt.soft (h : LgAt B w b S) {g n cap : Nat} (hq : w.cell? ⟨b, 0, none⟩ = some (.slice (some ⟨g, 0, none⟩) n cap)) : (∀ j, w.frozen? ⟨g, j, none⟩ = false) ∧ B ≤ g ∧ g < w.heap.size ∧ b ≠ g := by
  obtain ⟨A, c, h1, h2⟩ := h.ex
  have q0 := Rec.cell h1 0
  rw [hq] at q0
  simp at q0
  obtain ⟨rfl, rfl, rfl⟩ := q0
  exact ⟨fun j => h2.frozenAt j, (h2.lt g rfl).1, (h2.lt g rfl).2, fun e => own_not_rec h2 h1 (by decide) (by rw [e]; rfl)⟩
def vF (S : Lg) (p : Int) : Int := if isP S.l p then (pt S.l p.toNat).v else 0
def heldF (S : Lg) (p : Int) : Int := if isP S.l p then (pt S.l p.toNat).h else 0
def weightF (S : Lg) (p : Int) : Int := if isP S.l p then (pt S.l p.toNat).w else 0
theorem V_any (h : LgAt B w b S) (p : Int) : Calls Tryd.prog 11 #[.pointer (some ⟨b, 0, none⟩), .int .i64 p] w (Gives (.int .u64 (vF S p)) w) := by
  have HI := hid (is_any h p)
  cases e : isP S.l p with
  | false =>
    have HE := hid (show vF S p = 0 by unfold vF; rw [e]; rfl)
    rw [e] at HI
    clear e h
    go_enter Tryd.func11, Tryd.ntmps11
    go_wp2_with (go_at_call 28; refine HI.out.mono ?_; rintro _ _ ⟨rfl, x1, rfl⟩)
    go_ret
    exact Gives.mk (by rw [HE.out]; rfl) (w.below_past _)
  | true =>
    obtain ⟨h0, h1⟩ := isP_iff.1 e
    obtain ⟨k, rfl⟩ := Int.eq_ofNat_of_zero_le h0
    have hk : k < S.l.length := by omega
    obtain ⟨g, cap, q0, q1, q2, q3⟩ := h.party hk
    have HE := hid (show vF S k = (pt S.l k).v by unfold vF; rw [e]; rfl)
    obtain ⟨n, en⟩ : ∃ n, S.l.length = n := ⟨_, rfl⟩
    rw [en] at q0 hk
    rw [e] at HI
    clear e h en h0 h1
    go_enter Tryd.func11, Tryd.ntmps11
    go_wp2_with (go_at_call 28; refine HI.out.mono ?_; rintro _ _ ⟨rfl, x1, rfl⟩)
    go_ret
    exact Gives.mk (by rw [HE.out]; rfl) (w.below_past _)
theorem Held_any (h : LgAt B w b S) (p : Int) : Calls Tryd.prog 25 #[.pointer (some ⟨b, 0, none⟩), .int .i64 p] w (Gives (.int .i64 (heldF S p)) w) := by
  have HI := hid (is_any h p)
  cases e : isP S.l p with
  | false =>
    have HE := hid (show heldF S p = 0 by unfold heldF; rw [e]; rfl)
    rw [e] at HI
    clear e h
    go_enter Tryd.func25, Tryd.ntmps25
    go_wp2_with (go_at_call 28; refine HI.out.mono ?_; rintro _ _ ⟨rfl, x1, rfl⟩)
    go_ret
    exact Gives.mk (by rw [HE.out]; rfl) (w.below_past _)
  | true =>
    obtain ⟨h0, h1⟩ := isP_iff.1 e
    obtain ⟨k, rfl⟩ := Int.eq_ofNat_of_zero_le h0
    have hk : k < S.l.length := by omega
    obtain ⟨g, cap, q0, q1, q2, q3⟩ := h.party hk
    have HE := hid (show heldF S k = (pt S.l k).h by unfold heldF; rw [e]; rfl)
    obtain ⟨n, en⟩ : ∃ n, S.l.length = n := ⟨_, rfl⟩
    rw [en] at q0 hk
    rw [e] at HI
    clear e h en h0 h1
    go_enter Tryd.func25, Tryd.ntmps25
    go_wp2_with (go_at_call 28; refine HI.out.mono ?_; rintro _ _ ⟨rfl, x1, rfl⟩)
    go_ret
    exact Gives.mk (by rw [HE.out]; rfl) (w.below_past _)
theorem Weight_any (h : LgAt B w b S) (p : Int) : Calls Tryd.prog 26 #[.pointer (some ⟨b, 0, none⟩), .int .i64 p] w (Gives (.int .i64 (weightF S p)) w) := by
  have HI := hid (is_any h p)
  cases e : isP S.l p with
  | false =>
    have HE := hid (show weightF S p = 0 by unfold weightF; rw [e]; rfl)
    rw [e] at HI
    clear e h
    go_enter Tryd.func26, Tryd.ntmps26
    go_wp2_with (go_at_call 28; refine HI.out.mono ?_; rintro _ _ ⟨rfl, x1, rfl⟩)
    go_ret
    exact Gives.mk (by rw [HE.out]; rfl) (w.below_past _)
  | true =>
    obtain ⟨h0, h1⟩ := isP_iff.1 e
    obtain ⟨k, rfl⟩ := Int.eq_ofNat_of_zero_le h0
    have hk : k < S.l.length := by omega
    obtain ⟨g, cap, q0, q1, q2, q3⟩ := h.party hk
    have HE := hid (show weightF S k = (pt S.l k).w by unfold weightF; rw [e]; rfl)
    obtain ⟨n, en⟩ : ∃ n, S.l.length = n := ⟨_, rfl⟩
    rw [en] at q0 hk
    rw [e] at HI
    clear e h en h0 h1
    go_enter Tryd.func26, Tryd.ntmps26
    go_wp2_with (go_at_call 28; refine HI.out.mono ?_; rintro _ _ ⟨rfl, x1, rfl⟩)
    go_ret
    exact Gives.mk (by rw [HE.out]; rfl) (w.below_past _)
theorem Floor_any (h : LgAt B w b S) : Calls Tryd.prog 18 #[.pointer (some ⟨b, 0, none⟩)] w (Gives (.int .u64 S.fl) w) := by
  obtain ⟨A, c, h1, h2⟩ := h.ex
  have q0 := Rec.cell h1 3
  simp at q0
  clear h h1 h2
  go_enter Tryd.func18, Tryd.ntmps18
  go_wp2
  go_ret
  exact Gives.refl rfl
theorem Floor_nil (w : World) : Calls Tryd.prog 18 #[.pointer none] w (Gives (.int .u64 0) w) := by
  go_enter Tryd.func18, Tryd.ntmps18
  go_wp2
  go_ret
  exact Gives.refl rfl
theorem Active_any (h : LgAt B w b S) : Calls Tryd.prog 19 #[.pointer (some ⟨b, 0, none⟩)] w (Gives (.int .u64 (S.act : Int)) w) := by
  obtain ⟨A, c, h1, h2⟩ := h.ex
  have q0 := Rec.cell h1 4
  simp at q0
  clear h h1 h2
  go_enter Tryd.func19, Tryd.ntmps19
  go_wp2
  go_ret
  exact Gives.refl rfl
theorem Active_nil (w : World) : Calls Tryd.prog 19 #[.pointer none] w (Gives (.int .u64 0) w) := by
  go_enter Tryd.func19, Tryd.ntmps19
  go_wp2
  go_ret
  exact Gives.refl rfl
theorem Len_any (h : LgAt B w b S) : Calls Tryd.prog 21 #[.pointer (some ⟨b, 0, none⟩)] w (Gives (.int .i64 (S.l.length : Int)) w) := by
  obtain ⟨A, c, h1, h2⟩ := h.ex
  have q0 := Rec.cell h1 0
  simp at q0
  clear h h1 h2
  go_enter Tryd.func21, Tryd.ntmps21
  go_wp2
  go_ret
  exact Gives.refl rfl
theorem Len_nil (w : World) : Calls Tryd.prog 21 #[.pointer none] w (Gives (.int .i64 0) w) := by
  go_enter Tryd.func21, Tryd.ntmps21
  go_wp2
  go_ret
  exact Gives.refl rfl
theorem V_nil (p : Int) (w : World) : Calls Tryd.prog 11 #[.pointer none, .int .i64 p] w (Gives (.int .u64 0) w) := by
  go_enter Tryd.func11, Tryd.ntmps11
  go_wp2_with ((go_at_call 28; refine (is_nil _ _).mono ?_; rintro _ _ ⟨rfl, _, rfl⟩))
  go_ret
  exact Gives.mk rfl (w.below_past _)
theorem Held_nil (p : Int) (w : World) : Calls Tryd.prog 25 #[.pointer none, .int .i64 p] w (Gives (.int .i64 0) w) := by
  go_enter Tryd.func25, Tryd.ntmps25
  go_wp2_with ((go_at_call 28; refine (is_nil _ _).mono ?_; rintro _ _ ⟨rfl, _, rfl⟩))
  go_ret
  exact Gives.mk rfl (w.below_past _)
theorem Weight_nil (p : Int) (w : World) : Calls Tryd.prog 26 #[.pointer none, .int .i64 p] w (Gives (.int .i64 0) w) := by
  go_enter Tryd.func26, Tryd.ntmps26
  go_wp2_with ((go_at_call 28; refine (is_nil _ _).mono ?_; rintro _ _ ⟨rfl, _, rfl⟩))
  go_ret
  exact Gives.mk rfl (w.below_past _)
theorem Charge_nil (p : Int) (w : World) : Calls Tryd.prog 8 #[.pointer none, .int .i64 p] w (Gives (.bool false) w) := by
  go_enter Tryd.func8, Tryd.ntmps8
  go_wp2_with ((go_at_call 28; refine (is_nil _ _).mono ?_; rintro _ _ ⟨rfl, _, rfl⟩))
  go_ret
  exact Gives.mk rfl (w.below_past _)
theorem Weigh_nil (p q : Int) (w : World) : Calls Tryd.prog 16 #[.pointer none, .int .i64 p, .int .i64 q] w (Gives (.bool false) w) := by
  go_enter Tryd.func16, Tryd.ntmps16
  go_wp2_with ((go_at_call 28; refine (is_nil _ _).mono ?_; rintro _ _ ⟨rfl, _, rfl⟩))
  go_ret
  exact Gives.mk rfl (w.below_past _)
/-- What a function that turns a ledger leaves. -/
def LgP (B b : Nat) (S' : Lg) (r : Value) (w : World) (e : Ending) (w' : World) : Prop := e = .returned r ∧ LgAt B w' b S' ∧ Below B w w' ∧ KeptT b (fun t => t = tP) w w'
/-- One cell of a party turns. -/
theorem LgAt.put (h : LgAt B w b S) {g n cap k j : Nat} {y : Pt} {u : Value} (hq : w.cell? ⟨b, 0, none⟩ = some (.slice (some ⟨g, 0, none⟩) n cap)) (hk : k < S.l.length) (hj : j < 3) (hy : ptV y = (ptV (pt S.l k)).set j u) :
    LgAt B (w.setCell ⟨g, k * 3 + j, none⟩ u) b { S with l := S.l.set k y } ∧ Below B w (w.setCell ⟨g, k * 3 + j, none⟩ u) ∧ KeptT b (fun t => t = tP) w (w.setCell ⟨g, k * 3 + j, none⟩ u) ∧ (w.setCell ⟨g, k * 3 + j, none⟩ u).cell? ⟨b, 0, none⟩ = some (.slice (some ⟨g, 0, none⟩) n cap) := by
  have hne := (h.soft hq).2.2.2
  obtain ⟨A, c, h1, h2⟩ := h.ex
  have q0 := Rec.cell h1 0
  rw [hq] at q0
  simp at q0
  obtain ⟨rfl, rfl, rfl⟩ := q0
  obtain ⟨r1, r2, r3, r4⟩ := own_put1 ptV_length (by omega) h1 (by decide) h2 (pt_at hk) hj hy
  rw [← S.l.length_set (i := k) (a := y)] at r1
  refine ⟨⟨h.big, _, _, r1, r2⟩, r3, r4, ?_⟩
  have hne2 : (⟨g, k * 3 + j, none⟩ : Addr) ≠ ⟨b, 0, none⟩ := by intro e; injection e with e; exact hne e.symm
  exact (World.cell?_setCell_other _ _ _ _ hne2).trans hq
set_option maxHeartbeats 2000000 in
theorem Charge_any (hS : OkG S) (h : LgAt B w b S) (p : Int) (hB : B ≤ w.heap.size) : Calls Tryd.prog 8 #[.pointer (some ⟨b, 0, none⟩), .int .i64 p] w (LgP B b (chargeF S p) (.bool (isP S.l p)) w) := by
  have HI := hid (is_any h p)
  cases e : isP S.l p with
  | false =>
    have HE := hid (show chargeF S p = S by unfold chargeF; rw [e]; rfl)
    rw [e] at HI
    have HH := hid h
    clear e h
    go_enter Tryd.func8, Tryd.ntmps8
    go_wp2_with (go_at_call 28; refine HI.out.mono ?_; rintro _ _ ⟨rfl, x1, rfl⟩)
    go_ret
    exact ⟨rfl, by rw [HE.out]; exact HH.out.past _, (w.below_past _).mono hB, KeptT.of_below (w.below_past _) _ _⟩
  | true =>
    obtain ⟨h0, h1⟩ := isP_iff.1 e
    obtain ⟨k, rfl⟩ := Int.eq_ofNat_of_zero_le h0
    have hk : k < S.l.length := by omega
    have HE := hid (show chargeF S k = { S with l := S.l.set k (chargeP (pt S.l k)) } by unfold chargeF; rw [e]; rfl)
    have HK := hid hk
    obtain ⟨hv, hw⟩ := hS.at hk
    have HA := hid (fun W => Add_any (pt S.l k).v (lockF (pt S.l k).w) hv (lock_u64 _) W)
    have HL := hid (fun W => Lock_any (pt S.l k).w W)
    obtain ⟨n, en⟩ : ∃ n, S.l.length = n := ⟨_, rfl⟩
    have hkn : k < n := by omega
    have HH := hid h
    have EN := hid en
    rw [e] at HI
    clear e h en h0 h1 hv hw hk hS
    go_enter Tryd.func8, Tryd.ntmps8
    go_wp2_with fail
    refine HI.out.mono ?_
    rintro _ _ ⟨rfl, x1, rfl⟩
    obtain ⟨w1, ew1⟩ : ∃ w1, w1 = w.past x1 := ⟨_, rfl⟩
    have hb1 : Below w.heap.size w w1 := by rw [ew1]; exact w.below_past x1
    rw [← ew1]
    have h1 := HH.out.far hb1
    obtain ⟨g, cap, q0, q1, q2, q3⟩ := h1.party HK.out
    have HQ := hid q0
    have H1 := hid h1
    have HB1 := hid hb1
    rw [EN.out] at q0
    clear h1 hb1 ew1
    go_wp2_with fail
    refine wp_region_any (by kernel_rfl) ?_
    refine wpAny_take (i := 0) (v := ?_) rfl (by kernel_rfl) (by kernel_rfl) (by kernel_rfl) (fun _ _ _ h => h) (Or.inl ⟨by rfl, ?_⟩) ?_
    rotate_left
    · intro w; go_simp; try with_reducible rfl
    go_simp
    refine wpAny_mid (C := fun w' => ∃ x : Past, w' = w1.past x) 1 11 5 rfl (by kernel_rfl) (by kernel_rfl) (by kernel_rfl) (past_of ⟨rfl, rfl, rfl, Nat.le_refl _, fun _ _ => rfl⟩) rfl ?_
    simp only [List.drop_succ_cons, List.drop_zero, List.take_succ_cons, List.take_zero]
    repeat (go_big_quiet_step ((first | (go_at_call 30; first | with_reducible exact Calls.in_past (HL.out _) | with_reducible exact Calls.in_past2 (HL.out _)) | (go_at_call 29; first | with_reducible exact Calls.in_past (HA.out _) | with_reducible exact Calls.in_past2 (HA.out _)) | (go_at_call 30; first | exact Calls.in_past (HL.out _) | exact Calls.in_past2 (HL.out _)) | (go_at_call 29; first | exact Calls.in_past (HA.out _) | exact Calls.in_past2 (HA.out _)))))
    refine wpQuiet_nil ?_
    rintro _ ⟨xq, rfl⟩
    refine wpAny_take (i := 12) (v := ?_) rfl (by kernel_rfl) (by kernel_rfl) (by kernel_rfl) (fun _ _ _ h => h) (Or.inl ⟨by rfl, ?_⟩) ?_
    rotate_left
    · intro w; go_simp; try with_reducible rfl
    refine wpAny_take (i := 13) (v := ?_) rfl (by kernel_rfl) (by kernel_rfl) (by kernel_rfl) (fun _ _ _ h => h) (Or.inl ⟨by rfl, ?_⟩) ?_
    rotate_left
    · intro w; go_simp; try with_reducible rfl
    refine wpAny_take (i := 14) (v := ?_) rfl (by kernel_rfl) (by kernel_rfl) (by kernel_rfl) (fun _ _ _ h => h) (Or.inl ⟨by rfl, ?_⟩) ?_
    rotate_left
    · intro w; go_simp; try with_reducible rfl
    refine wpAny_take (i := 15) (v := ?_) rfl (by kernel_rfl) (by kernel_rfl) (by kernel_rfl) (fun _ _ _ h => h) (Or.inl ⟨by rfl, ?_⟩) ?_
    rotate_left
    · intro w; go_simp; try with_reducible rfl
    have q0' := below_cell (w1.below_past xq) (Nat.le_refl _) _ _ HQ.out
    have f1 := ((H1.out.past xq).soft q0').1 (k * 3 + 1)
    have P2 := (H1.out.past xq).put (k := k) (j := 1) (y := ⟨(pt S.l k).w, addF (pt S.l k).v (lockF (pt S.l k).w), (pt S.l k).h⟩) (u := .int .u64 (addF (pt S.l k).v (lockF (pt S.l k).w))) q0' HK.out (by omega) rfl
    clear q0'
    refine wpAny_ready (rs := [16]) (by kernel_rfl) (by simp) ?_
    refine AllReady.cons rfl (fun K hK => ?_) AllReady.nil
    go_simp
    refine hK _ _ ?_
    clear hK K
    refine wpAny_done (by kernel_rfl) ?_ _
    obtain ⟨w2, ew2⟩ : ∃ w2, w2 = (w1.past xq).setCell ⟨g, k * 3 + 1, none⟩ (.int .u64 (addF (pt S.l k).v (lockF (pt S.l k).w))) := ⟨_, rfl⟩
    rw [← ew2] at P2 ⊢
    obtain ⟨h2, hb2, hk2, e0⟩ := P2
    have hk2l : k < (S.l.set k ⟨(pt S.l k).w, addF (pt S.l k).v (lockF (pt S.l k).w), (pt S.l k).h⟩).length := by rw [List.length_set]; exact HK.out
    obtain ⟨r1, r2, r3⟩ := h2.pty e0 hk2l
    have f2 := (h2.soft e0).1 (k * 3 + 2)
    have P3 := hid (h2.put (k := k) (j := 2) (y := chargeP (pt S.l k)) (u := .int .i64 (wrap64 ((pt S.l k).h + 1))) e0 hk2l (by omega) (by rw [pt_set_self HK.out]; rfl))
    rw [pt_set_self HK.out] at r3
    simp only at r3
    have HB2 := hid ((HB1.out.mono hB).trans (((w1.below_past xq).mono (Nat.le_trans hB HB1.out.size)).trans hb2))
    have HK2 := hid (((KeptT.of_below HB1.out b (fun t => t = tP)).trans (KeptT.of_below (w1.below_past xq) _ _)).trans hk2)
    clear h2 hb2 hk2 hk2l r1 r2 q0 q1 q2 q3 f1 ew2
    go_wp2_with fail
    go_ret
    obtain ⟨h3, hb3, hk3, _⟩ := P3.out
    simp only [List.set_set] at h3
    exact ⟨rfl, by rw [HE.out]; exact h3, HB2.out.trans hb3, HK2.out.trans hk3⟩
end
end Go.Proofs.YtookaodcdglhfaaDoor
