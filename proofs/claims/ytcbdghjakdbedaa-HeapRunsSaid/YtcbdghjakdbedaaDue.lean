/-
  Layer 04: due: those that are due are the document's. No condition.
-/
import Derived.Test.YtcbdghjakdbedaaRefC
import Derived.Test.YtcbdghjakdbedaaPastRd
import Derived.Shelf.Abstract
import Derived.Stop.RegionWithIn
import Derived.Sort.CutIn
namespace Go.Proofs.Ytcbdghjakdbedaa
open Go Go.RowKit Go.Shelf HpI
attribute [local go_sem] Oper.semAt_some
theorem took_inv {u : Int} {L0 pre L : List It} {x : It} (h : Took u L0 (pre ++ [x]) L) : ∃ L1, Took u L0 pre L1 ∧ Least L1 x ∧ x.v ≤ u ∧ (x :: L).Perm L1 := by
  generalize e : pre ++ [x] = q at h
  cases h with
  | nil h => simp at e
  | snoc h hx hu hp =>
    obtain ⟨rfl, e2⟩ := List.append_inj' e rfl
    injection e2 with e2
    subst e2
    exact ⟨_, h, hx, hu, hp⟩
theorem took_same {u : Int} {L0 pre L1 L2 : List It} (h1 : Took u L0 pre L1) (h2 : Took u L0 pre L2) : L1.Perm L2 :=
  (List.perm_append_left_iff pre).1 (h1.perm.trans h2.perm.symm)
theorem least_one {L : List It} (hnd : (L.map (·.id)).Nodup) {x y : It} (h1 : Least L x) (h2 : Least L y) : x = y := by
  have a := h1.2 y h2.1
  have b := h2.2 x h1.1
  obtain ⟨-, e⟩ := Hp.eq_of_nlt a b
  obtain ⟨i, hi, rfl⟩ := List.getElem_of_mem h1.1
  obtain ⟨j, hj, rfl⟩ := List.getElem_of_mem h2.1
  have := nodup_at hnd hi hj e.symm
  subst this
  rfl
/-- What comes next, at the document. -/
theorem took_ref {u : Int} {L0 pre Lr L1 : List It} {x : It} (hnd : (L0.map (·.id)).Nodup) (h : Took u L0 (pre ++ [x]) L1) (hr : Took u L0 pre Lr) :
    ∃ (i : Nat), firstF Lr = i ∧ Lr[i]? = some x ∧ x.v ≤ u ∧ Took u L0 (pre ++ [x]) (Lr.eraseIdx i) ∧ Lr.length ≤ L0.length := by
  obtain ⟨L2, t2, hx, hu, hp⟩ := took_inv h
  have hxr := hx.perm (took_same t2 hr)
  have hlen := hr.length
  have hndr : (Lr.map (·.id)).Nodup := by
    have h8 := (hr.perm.map (·.id)).nodup_iff.2 hnd
    rw [List.map_append, List.nodup_append] at h8
    exact h8.2.1
  rcases first_in Lr with ⟨rfl, -⟩ | ⟨i, hi, e, hl⟩
  · exact absurd hxr.1 (by simp)
  · have ex := least_one hndr hl hxr
    refine ⟨i, e, by rw [List.getElem?_eq_getElem hi, ex], hu, hr.snoc hxr hu (by rw [← ex]; exact erase_perm Lr i hi), by omega⟩
theorem kept_cell {b : Nat} {V w3 : World} (h : Kept (fun k => k = b) V w3) (k o : Nat) (hk : k < V.heap.size) (hb : b < k) : w3.cell? ⟨k, o, none⟩ = V.cell? ⟨k, o, none⟩ := World.cell?_of_block (h.block k hk (by omega))
theorem kept_frozen {b : Nat} {V w3 : World} (h : Kept (fun k => k = b) V w3) (k o : Nat) (hk : k < V.heap.size) (hb : b < k) : w3.frozen? ⟨k, o, none⟩ = V.frozen? ⟨k, o, none⟩ := World.frozen?_of_block (h.block k hk (by omega))
/-- Between two rounds. -/
structure DueI (B : Nat) (w : World) (br : Nat) (mo u : Int) (L0 : List It) (K N : Nat) (most : Int) (pre : List It) (U : World) : Prop where
  ref : ∃ Lr, RHp B U br mo Lr ∧ Took u L0 pre Lr ∧ ∀ k, rF br U k → rF br w k ∨ N ≤ k
  bel : Below B w U
  b5 : Boxed U K 26 (.pointer (some ⟨br, 0, none⟩))
  b6 : Boxed U (K + 1) 28 (.int .u64 u)
  b7 : Boxed U (K + 2) 3 (.int .i64 most)
  b9 : Boxed U (K + 3) 3 (.int .i64 pre.length)
  b10 : Boxed U (K + 4) 4 (.bool true)
theorem DueI.ks {B : Nat} {w : World} {br K N : Nat} {mo u most : Int} {L0 pre : List It} {A U : World} {X : Nat → Prop} (h : DueI B w br mo u L0 K N most pre A) (hk : KS X A U) (hB : ∀ k, X k → B ≤ k) (hBA : B ≤ w.heap.size)
    (hK : ∀ k, K ≤ k → k ≤ K + 4 → ¬ X k) (hr : ∀ k, (rF br w k ∨ N ≤ k) → ¬ X k) : DueI B w br mo u L0 K N most pre U := by
  obtain ⟨Lr, h1, h2, h3⟩ := h.ref
  have hb : br < A.heap.size := h1.lt
  exact ⟨⟨Lr, h1.ks hk (fun k hf => hr k (h3 k hf)), h2, fun k hf => h3 k (rF_same (hk.block br hb (hr br (h3 br (.inl rfl)))) hf)⟩, h.bel.trans (hk.under hB (by have := h.bel.size; omega)),
    hk.boxed (hK _ (by omega) (by omega)) h.b5, hk.boxed (hK _ (by omega) (by omega)) h.b6, hk.boxed (hK _ (by omega) (by omega)) h.b7, hk.boxed (hK _ (by omega) (by omega)) h.b9, hk.boxed (hK _ (by omega) (by omega)) h.b10⟩
/-- What a round's Take leaves. -/
structure TkF (B br : Nat) (mo : Int) (L : List It) (x : It) (W : World) (g : Nat) (W4 : World) : Prop where
  ks : KS (fun k => k = br) W W4
  ref : RHp B W4 br mo L
  row : ∀ k, rowOf br W4 k → W.heap.size ≤ k
  box : Rec W4 g tRI #[.int .u64 x.v, .int .i64 x.id, .int .i64 x.x]
  big : W.heap.size ≤ g
theorem tk_late {B br : Nat} {mo : Int} {L : List It} {x : It} {W V w3 : World} (hb : Below W.heap.size W V) (hk : Kept (fun k => k = br) V w3) (hr : RHp B w3 br mo L ∧ ∀ k, rowOf br w3 k → V.heap.size ≤ k) : TkF B br mo L x W w3.heap.size (w3.alloc (.cells #[.int .u64 x.v, .int .i64 x.id, .int .i64 x.x] tRI)) := by
  have ha : Below w3.heap.size w3 (w3.alloc (.cells #[.int .u64 x.v, .int .i64 x.id, .int .i64 x.x] tRI)) := (Below.refl _ _).alloc (Nat.le_refl _) _
  have h1 := hb.size
  have h2 := hk.size
  exact ⟨((KS.of_below hb).trans (Kept.ks hk)).trans (KS.of_below ha), hr.1.far ha, fun k hk' => by have := hr.2 k (row_same (ha.block br hr.1.lt) hk'); omega, Rec.new _ _ _, by omega⟩
theorem tk_soon {B br : Nat} {mo : Int} {L : List It} {x : It} {W V w3 : World} {g : Nat} {cs : Array Value} (hb : Below W.heap.size W V) (hg : Rec V g tRI cs) (hgW : W.heap.size ≤ g) (hc : cs.size = 3) (hbr : br < W.heap.size) (hk : Kept (fun k => k = br) V w3) (hr : RHp B w3 br mo L ∧ ∀ k, rowOf br w3 k → V.heap.size ≤ k) :
    TkF B br mo L x W g (((w3.setCell ⟨g, 0, none⟩ (.int .u64 x.v)).setCell ⟨g, 1, none⟩ (.int .i64 x.id)).setCell ⟨g, 2, none⟩ (.int .i64 x.x)) := by
  have h1 := hb.size
  have h2 := hk.size
  have hg3 : Rec w3 g tRI cs := hg.kept hk (by omega)
  obtain ⟨W4, e4⟩ : ∃ W4, W4 = (((w3.setCell ⟨g, 0, none⟩ (.int .u64 x.v)).setCell ⟨g, 1, none⟩ (.int .i64 x.id)).setCell ⟨g, 2, none⟩ (.int .i64 x.x)) := ⟨_, rfl⟩
  have k4 : KS (fun k => k = g) w3 W4 := by
    rw [e4]
    exact (((KS.refl (fun k => k = g) w3).setCell (b := g) rfl 0 _).setCell (b := g) rfl 1 _).setCell (b := g) rfl 2 _
  have r4 : Rec W4 g tRI #[.int .u64 x.v, .int .i64 x.id, .int .i64 x.x] := by
    have := ((hg3.set 0 (.int .u64 x.v)).set 1 (.int .i64 x.id)).set 2 (.int .i64 x.x)
    rw [e4]
    obtain ⟨a, b, c, e⟩ := cs_three (cs := cs.toList) (by simpa using hc)
    rw [arr_of e] at this
    simpa using this
  rw [← e4]
  have hgl := hg.lt
  refine ⟨⟨k4.os.trans (hk.os.trans hb.os), k4.tape.trans (hk.tape.trans hb.tape), k4.output.trans (hk.output.trans hb.output), by have := k4.size; omega, fun k h3 h4 => (k4.block k (by omega) (by omega)).trans ((hk.block k (by omega) h4).trans (hb.block k h3))⟩, hr.1.ks k4 (fun k hf e => ?_), fun k hk' => ?_, r4, hgW⟩
  · subst e
    rcases hf with h | h
    · omega
    · have := hr.2 _ h; omega
  · have := hr.2 k (row_same (k4.block br (by omega) (by omega)) hk'); omega
def DuePost (B b mb br : Nat) (mo mo' u most : Int) (L : List It) (w : World) (e : Ending) (w' : World) : Prop :=
  e = .returned (.bool true) ∧ ∃ L', HP B w' b mb mo L' ∧ RHp B w' br mo' L' ∧ Below B w w' ∧ ((L.length : Int) ≤ most → ∀ y ∈ L', u < y.v) ∧ L'.length ≤ L.length ∧ ∀ y ∈ L', y ∈ L
theorem due_fin {B b mb br D : Nat} {mo mo' u most : Int} {L L1 Lr : List It} {w W : World} {x : Past} (hp : HP B W b mb mo L1) (hr : RHp B W br mo' Lr) (hpm : L1.Perm Lr) (hb : Below B w W) (hKD : W.heap[D]? = some (.deferred (some []))) (hBD : B ≤ D)
    (hFD : ∀ k, hF b mb W k → k ≠ D) (hgt : (L.length : Int) ≤ most → ∀ y ∈ L1, u < y.v) (hlen : Lr.length ≤ L.length) (hsub : ∀ y ∈ L1, y ∈ L) : DuePost B b mb br mo mo' u most L w (.returned (.bool true)) ((W.past x).putObj D (.deferred none)) := by
  have hx := W.below_past x
  have hk : KS (fun k => k = D) (W.past x) ((W.past x).putObj D (.deferred none)) := (KS.refl (fun k => k = D) _).putObj rfl _
  obtain ⟨-, hf1⟩ := hp.ks (X := fun _ => False) (KS.of_below hx) (fun _ _ h => h)
  have hp1 := hp.far hx
  have hr1 := hr.far hx
  have hDl := (Array.getElem?_eq_some_iff.1 hKD).1
  have hB : B ≤ W.heap.size := by omega
  refine ⟨rfl, Lr, ((hp1.ks hk (fun k hf e => hFD k (hf1 k hf) e)).1).perm hpm, hr1.ks hk (fun k hf e => ?_), ?_, fun h y hy => hgt h y (hpm.mem_iff.2 hy), hlen, fun y hy => hsub y (hpm.mem_iff.2 hy)⟩
  · subst e
    have h1 : (W.past x).heap[k]? = some (.deferred (some [])) := (hx.block k hDl).trans hKD
    rcases rF_ty hr1 hf with e | e <;> (unfold tyAt at e; rw [h1] at e; cases e)
  · exact below_putObj (hb.trans (hx.mono hB)) hBD _
set_option maxRecDepth 100000 in
set_option maxHeartbeats 4000000 in
theorem due_any {B b mb br : Nat} {mo mo' : Int} {L : List It} (w : World) (h : HP B w b mb mo L) (r : RHp B w br mo' L) (hB : B ≤ w.heap.size) (u most : Int) (hm0 : 0 ≤ most) (hm1 : most ≤ 5000) :
    Calls Try.prog 17 #[.pointer (some ⟨b, 0, none⟩), .pointer (some ⟨br, 0, none⟩), .int .u64 u, .int .i64 most] w (DuePost B b mb br mo mo' u most L w) := by
  obtain ⟨K, eK⟩ : ∃ K, w.heap.size = K := ⟨_, rfl⟩
  obtain ⟨w5, ew5⟩ : ∃ w5, w5 = ((((w.alloc (.cells #[.pointer (some ⟨br, 0, none⟩)] 26)).alloc (.cells #[.int .u64 u] 28)).alloc (.cells #[.int .i64 most] 3)).alloc (.cells #[.int .i64 0] 3)).alloc (.cells #[.bool true] 4) := ⟨_, rfl⟩
  have hb5 : Below w.heap.size w w5 := by rw [ew5]; exact (((((Below.refl _ w).alloc (Nat.le_refl _) _).alloc (by simp) _).alloc (by simp; omega) _).alloc (by simp; omega) _).alloc (by simp; omega) _
  have hs5 : w5.heap.size = K + 5 := by rw [ew5]; simp [eK]
  have b5 : Boxed w5 K 26 (.pointer (some ⟨br, 0, none⟩)) := by rw [ew5, ← eK]; exact ((((Boxed.new w _ _).alloc _).alloc _).alloc _).alloc _
  have b6 : Boxed w5 (K + 1) 28 (.int .u64 u) := by
    rw [ew5, ← eK]
    have := ((Boxed.new (w.alloc (.cells #[.pointer (some ⟨br, 0, none⟩)] 26)) 28 (.int .u64 u)).alloc (.cells #[.int .i64 most] 3)).alloc (.cells #[.int .i64 0] 3) |>.alloc (.cells #[.bool true] 4)
    simpa using this
  have b7 : Boxed w5 (K + 2) 3 (.int .i64 most) := by
    rw [ew5, ← eK]
    have := ((Boxed.new ((w.alloc (.cells #[.pointer (some ⟨br, 0, none⟩)] 26)).alloc (.cells #[.int .u64 u] 28)) 3 (.int .i64 most)).alloc (.cells #[.int .i64 0] 3)).alloc (.cells #[.bool true] 4)
    simpa using this
  have b9 : Boxed w5 (K + 3) 3 (.int .i64 0) := by
    rw [ew5, ← eK]
    have := (Boxed.new (((w.alloc (.cells #[.pointer (some ⟨br, 0, none⟩)] 26)).alloc (.cells #[.int .u64 u] 28)).alloc (.cells #[.int .i64 most] 3)) 3 (.int .i64 0)).alloc (.cells #[.bool true] 4)
    simpa using this
  have b10 : Boxed w5 (K + 4) 4 (.bool true) := by
    rw [ew5, ← eK]
    have := Boxed.new ((((w.alloc (.cells #[.pointer (some ⟨br, 0, none⟩)] 26)).alloc (.cells #[.int .u64 u] 28)).alloc (.cells #[.int .i64 most] 3)).alloc (.cells #[.int .i64 0] 3)) 4 (.bool true)
    simpa using this
  have EW5 := hid ew5
  have EK := hid eK
  have q6 := b6.cell
  have H := hid (And.intro h r)
  have HLN := hid (h.good.len)
  clear ew5 h r
  refine (callsIn_wide (n := 5)).1 ?_
  refine callsIn_of_wp_marks Try.func17 rfl trivial ?_ rfl
  refine wpIn_wide.2 ?_
  simp only [Try.ntmps17, List.size_toArray, List.length_cons, List.length_nil, Nat.reduceAdd, Nat.reduceSub, Array.replicate_succ, Array.replicate_zero, List.push_toArray, List.append_toArray, List.nil_append, List.cons_append]
  go_wp2_with fail
  rw [← EW5.out]
  refine (Due_any _ _ w5).mono ?_
  rintro _ w6 ⟨rfl, hb6, hs6, hx6, hu6⟩
  have hb46 := hb5.trans (hb6.mono (by omega))
  have hP5 := H.out.1.far hb5
  have hP6 := H.out.1.far hb46
  have hR6 := H.out.2.far hb46
  have hMh := new_out hP5 hb6 (Nat.le_refl _)
  have hMu := new_out hP5 hb6 (Nat.le_succ _)
  rw [hs5] at hx6 hu6 hMh hMu ⊢
  have hsz6 : w6.heap.size = K + 7 := by omega
  have hbr : br < K := by rw [← eK]; exact H.out.2.lt
  have hMK : ∀ k, hF b mb w6 k → B ≤ k ∧ k < K ∧ ¬ rF br w k := fun k hk => by
    have h1 := hF_lt hP6 hk
    have h2 : k < K := by
      rcases Nat.lt_or_ge k K with h | h
      · exact h
      · exact absurd hk (new_out H.out.1 hb46 (by omega))
    exact ⟨h1.1, h2, fun hr => by
      have h3 : rF br w6 k := by
        rcases hr with hr | ⟨n', c', hr⟩
        · exact .inl hr
        · exact .inr ⟨n', c', below_cell hb46 (Nat.le_refl _) _ _ hr⟩
      exact both_apart hP6 hR6 hk h3⟩
  obtain ⟨N, eN⟩ : ∃ N, N = K + 9 := ⟨_, rfl⟩
  have HRD : Hid (DueI B w br mo' u L K N most [] w6) := hid ⟨⟨L, hR6, .nil (List.Perm.refl _), fun k hk => .inl (rF_same (hb46.block br (by rw [eK]; exact hbr)) hk)⟩, hb46.mono hB,
    (hb6.block _ (by omega)).trans b5, (hb6.block _ (by omega)).trans b6, (hb6.block _ (by omega)).trans b7, (hb6.block _ (by omega)).trans b9, (hb6.block _ (by omega)).trans b10⟩
  obtain ⟨T, eT⟩ : ∃ T : Nat → Prop, T = fun q => q = br ∨ q = K + 3 ∨ q = K + 4 := ⟨_, rfl⟩
  have hTw : ∀ q, T q → q < w6.heap.size := by rw [eT]; rintro q (rfl | rfl | rfl) <;> omega
  have hTh : ¬ T (K + 5) := by rw [eT]; rintro (h | h | h) <;> omega
  have hTu : ¬ T (K + 5 + 1) := by rw [eT]; rintro (h | h | h) <;> omega
  have hTM : ∀ q, hF b mb w6 q → ¬ T q := by
    rw [eT]
    rintro q hq (rfl | rfl | rfl)
    · exact (hMK _ hq).2.2 (.inl rfl)
    · have := (hMK _ hq).2.1; omega
    · have := (hMK _ hq).2.1; omega
  have hseq := due_seq (5 - 1) (by omega) w6 (K + 5) (K + 5 + 1) u L T hx6 hu6 hTh hTu hMh hMu hP6 hTM (by omega)
  have hst : ∀ (pre : List It) (A' U : World), DueI B w br mo' u L K N most pre A' → KS (TT (hF b mb w6) w6.heap.size (w6.heap.size + 2)) A' U → DueI B w br mo' u L K N most pre U := fun pre A' U h hk => by
    refine h.ks hk (fun k hX => ?_) hB (fun k h1 h2 hX => ?_) (fun k hr hX => ?_)
    · rcases hX with hX | hX
      · exact (hMK k hX).1
      · omega
    · rcases hX with hX | hX
      · have := (hMK k hX).2.1; omega
      · omega
    · rcases hX with hX | hX
      · rcases hr with hr | hr
        · exact (hMK k hX).2.2 hr
        · have := (hMK k hX).2.1; omega
      · rcases hr with hr | hr
        · have := (rF_lt H.out.2 hr).2; omega
        · omega
  have HST := hid hst
  have HMK := hid hMK
  have hMl : ∀ q, hF b mb w6 q → q < w6.heap.size := fun q hq => by have := (hMK q hq).2.1; omega
  have HML := hid hMl
  have HSEQ := hid hseq
  have HSZ := hid (And.intro hsz6 eN)
  have HT := hid eT
  have HBR := hid hbr
  clear hseq eT hx6 hu6 hMh hMu hP5 hP6 hR6 hb46 hb5 hb6 hMK hMl hTM hs5 hs6 b5 b6 b7 b9 b10 q6 hst eN
  go_wp2_with fail
  refine (wpIn_wide (n := 5)).1 ?_
  apply wpIn_rangeFunc_H1 rfl (by omega) (gf := 36) (lb := #[.pointer (some ⟨K + 5, 0, none⟩), .pointer (some ⟨K + 5 + 1, 0, none⟩)]) rfl trivial (enters_of Try.func36 (by kernel_rfl) rfl) HSEQ.out HML.out (fun _ _ _ h hk => dueS_far HML.out h hk) (fun _ _ _ h hk => dueSp_far HML.out h hk) hTw (KS.refl _ _) (fun _ => rfl)
    (fun pre U => DueI B w br mo' u L K N most pre U ∧ (pre.length : Int) ≤ most)
    (fun c pre U => c = .exit 0 ∧ DueI B w br mo' u L K N most pre U ∧ (pre.length : Int) = most + 1)
    (fun _ _ _ h hk => ⟨HST.out _ _ _ h.1 hk, h.2⟩)
    (fun _ _ _ _ h hk => ⟨h.1, HST.out _ _ _ h.2.1 hk, h.2.2⟩)
    ⟨HRD.out, by simpa using hm0⟩
    30 (fun x => #[.int .u64 x.v, .int .i64 x.id]) _ ?assign ?body ?done ?stop
  case assign =>
    intro lq x W c K' hsW hc hK
    simp only [encK]
    gi_wp2
    try rw [hc]
    exact hK _ (by rw [← hc]; exact Rec.new W _ _) ((Below.refl _ W).alloc (Nat.le_refl _) _)
  case body =>
    rintro lq pre x c W hsW ⟨hJ, hle⟩ hlen ⟨L1, htk⟩ hcS hrec
    obtain ⟨Lr, hLr, htr, hrF⟩ := hJ.ref
    obtain ⟨i, e1, hxi, hxu, htk2, hlr⟩ := took_ref H.out.1.good.nd htk htr
    have hlr4 : Lr.length ≤ 4096 := by have := HLN.out; omega
    have HFI := hid (fun W' (hb : Below W.heap.size W W') => e1 ▸ RFirst_any (hLr.far hb) hlr4)
    have HTA := hid (fun W' (hb : Below W.heap.size W W') => RTake_some (hLr.far hb) hlr4 (by have := hb.size; have := HSZ.out; omega) i x hxi)
    have c0 := Rec.cell hrec 0
    have c1 := Rec.cell hrec 1
    have q5 := hJ.b5.cell
    have q6 := hJ.b6.cell
    have q7 := hJ.b7.cell
    have q9 := hJ.b9.cell
    have q10 := hJ.b10.cell
    simp at c0 c1
    have hbrW : br < W.heap.size := hLr.lt
    have hKW : K < W.heap.size := hJ.b5.lt
    have hbrW' : ∀ c, br < W.heap.size + c := fun c => by omega
    have HJ := hid hJ
    have HREC := hid hrec
    have HTK := hid (And.intro htk2 hrF)
    clear hJ htk htr hxi hrec e1 hLr htk2 hrF HSEQ
    have HLR := hid hbrW
    gi_wp2_with fail
    gi_cut [13, 14] from 21 (fun v13 v14 W4 => ∃ g : Nat, v13 = .pointer (some ⟨g, 0, none⟩) ∧ v14 = .bool true ∧ Hid (TkF B br mo' (Lr.eraseIdx i) x W g W4))
    case first =>
      gi_region_with (first | (gi_at_call 12; refine (callsIn_wide.2 (HFI.out _ (by (repeat (first | exact Below.refl _ _ | refine RowKit.Below.past ?_ _ | refine RowKit.Below.alloc' ?_ _ | refine RowKit.Below.drew' ?_ | refine RowKit.Below.drewN' ?_ _))))).mono ?_; rintro _ _ ⟨rfl, y1, rfl⟩) | (gi_at_call 11; refine (callsIn_wide.2 (HTA.out _ (by (repeat (first | exact Below.refl _ _ | refine RowKit.Below.past ?_ _ | refine RowKit.Below.alloc' ?_ _ | refine RowKit.Below.drew' ?_ | refine RowKit.Below.drewN' ?_ _))))).mono ?_; rintro _ w3 ⟨rfl, hR3, hb3, hk3, hf3⟩; have hcc := kept_cell hk3; have hcf := kept_frozen hk3; have hsz := hk3.size; have HK3 := hid hk3; have HR3 := hid (And.intro hR3 hf3); clear hR3 hb3 hf3))
      all_goals (
        gi_wp2_with fail
        gi_meet
        case rel => exact ⟨_, rfl, rfl, hid (by first | exact tk_late (by (repeat (first | exact Below.refl _ _ | refine RowKit.Below.past ?_ _ | refine RowKit.Below.alloc' ?_ _ | refine RowKit.Below.drew' ?_ | refine RowKit.Below.drewN' ?_ _))) HK3.out HR3.out | exact tk_soon (by (repeat (first | exact Below.refl _ _ | refine RowKit.Below.past ?_ _ | refine RowKit.Below.alloc' ?_ _ | refine RowKit.Below.drew' ?_ | refine RowKit.Below.drewN' ?_ _))) ((Rec.new W _ _).past _) (Nat.le_refl _) rfl HLR.out HK3.out HR3.out | exact tk_soon (by (repeat (first | exact Below.refl _ _ | refine RowKit.Below.past ?_ _ | refine RowKit.Below.alloc' ?_ _ | refine RowKit.Below.drew' ?_ | refine RowKit.Below.drewN' ?_ _))) (by have := Rec.new (W.past y1) tRI #[.int .u64 0, .int .i64 0, .int .i64 0]; rwa [World.size_past] at this) (Nat.le_add_right _ _) rfl HLR.out HK3.out HR3.out)⟩)
    case rest =>
      obtain ⟨g, rfl, rfl, hT⟩ := hcut
      have hsz := HSZ.out.1
      have hne : ∀ k, K ≤ k → k ≠ br := fun k hk => by omega
      have hJ4 : DueI B w br mo' u L K N most pre wc ∨ True := .inr trivial
      have b5 := hT.out.ks.boxed (hne _ (by omega)) HJ.out.b5
      have b6 := hT.out.ks.boxed (hne _ (by omega)) HJ.out.b6
      have b7 := hT.out.ks.boxed (hne _ (by omega)) HJ.out.b7
      have b9 := hT.out.ks.boxed (hne _ (by omega)) HJ.out.b9
      have b10 := hT.out.ks.boxed (hne _ (by omega)) HJ.out.b10
      have bc : Rec wc c 30 #[.int .u64 x.v, .int .i64 x.id] := (hT.out.ks.block c HREC.out.lt (hne _ (by omega))).trans HREC.out
      have r5 := b5.cell
      have r6 := b6.cell
      have r7 := b7.cell
      have r9 := b9.cell
      have r10 := b10.cell
      have f9 := b9.frozen
      have f10 := b10.frozen
      have l9 := b9.lt
      have l10 := b10.lt
      have s0 := Rec.cell bc 0
      have s1 := Rec.cell bc 1
      have g0 := Rec.cell hT.out.box 0
      have g1 := Rec.cell hT.out.box 1
      have g2 := Rec.cell hT.out.box 2
      simp at s0 s1 g0 g1 g2
      have d1 : decide (x.v ≤ u) = true := by simp [hxu]
      obtain ⟨p, ep⟩ : ∃ p, pre.length = p := ⟨_, rfl⟩
      rw [ep] at r9 hle
      have e1 : IntKind.i64.wrap ((p : Int) + 1) = (p : Int) + 1 := by rw [IntKind.wrap_i64]; omega
      have HB9 := hid (And.intro (And.intro b5 b6) (And.intro b7 (And.intro b9 b10)))
      have HEP := hid ep
      clear b5 b6 b7 b9 b10 bc ep hJ4 hne q5 q6 q7 q9 q10 c0 c1
      have HF := hid (show ∀ W2 : World, W2 = (wc.setCell ⟨K + 1 + 1 + 1 + 1, 0, none⟩ (.bool true)).setCell ⟨K + 1 + 1 + 1, 0, none⟩ (.int .i64 ((p : Int) + 1)) → KS T W W2 ∧ DueI B w br mo' u L K N most (pre ++ [x]) W2 from by
        rintro W2 rfl
        obtain ⟨⟨h5, h6⟩, h7, h9, h10⟩ := HB9.out
        have hz1 : N = K + 9 := HSZ.out.2
        have hk2 : KS (fun q => q = K + 3 ∨ q = K + 4) wc ((wc.setCell ⟨K + 1 + 1 + 1 + 1, 0, none⟩ (.bool true)).setCell ⟨K + 1 + 1 + 1, 0, none⟩ (.int .i64 ((p : Int) + 1))) :=
          ((KS.refl (fun q => q = K + 3 ∨ q = K + 4) wc).setCell (b := K + 1 + 1 + 1 + 1) (.inr rfl) 0 _).setCell (b := K + 1 + 1 + 1) (.inl rfl) 0 _
        have hk1 := hT.out.ks
        have hrow : ∀ k, rF br wc k → k = br ∨ W.heap.size ≤ k := fun k hk => hk.imp id (hT.out.row k)
        have hbr := HBR.out
        refine ⟨⟨hk2.os.trans hk1.os, hk2.tape.trans hk1.tape, hk2.output.trans hk1.output, Nat.le_trans hk1.size hk2.size, fun k h1 h2 => ?_⟩, ⟨_, hT.out.ref.ks hk2 (fun k hk e => by have := hrow k hk; omega), HTK.out.1, fun k hk => ?_⟩, ?_, hk2.boxed (by omega) h5, hk2.boxed (by omega) h6, hk2.boxed (by omega) h7, ?_, ?_⟩
        · rw [HT.out] at h2
          exact (hk2.block k (Nat.lt_of_lt_of_le h1 hk1.size) (fun e => h2 (.inr e))).trans (hk1.block k h1 (fun e => h2 (.inl e)))
        · rcases hrow k (rF_same (hk2.block br (by have := hk1.size; omega) (by omega)) hk) with e | e
          · exact .inl (.inl e)
          · exact .inr (by omega)
        · have hBbr := H.out.2.big
          refine (HJ.out.bel.trans (hk1.under (n := B) (by rintro k rfl; exact hBbr) (by omega))).trans (hk2.under (n := B) (by rintro k (rfl | rfl) <;> omega) (by have := hk1.size; omega))
        · have h := (((KS.refl (fun q => q = K + 4) wc).setCell (b := K + 1 + 1 + 1 + 1) rfl 0 (.bool true)).boxed (by omega) h9).set (.int .i64 ((p : Int) + 1))
          have e : (((pre ++ [x]).length : Nat) : Int) = (p : Int) + 1 := by rw [List.length_append, HEP.out]; simp
          rw [e]
          exact h
        · have h := (h10.set (.bool true))
          exact ((KS.refl (fun q => q = K + 3) _).setCell (b := K + 1 + 1 + 1) rfl 0 _).boxed (by omega) h)
      have HEL := hid (show (((pre ++ [x]).length : Nat) : Int) = (p : Int) + 1 by rw [List.length_append, HEP.out]; simp)
      by_cases hmo : (p : Int) + 1 > most
      · gi_wp2_with fail
        obtain ⟨z1, z2⟩ := HF.out _ rfl
        exact ⟨z1, rfl, z2, by rw [HEL.out]; omega⟩
      · gi_wp2_with fail
        obtain ⟨z1, z2⟩ := HF.out _ rfl
        exact ⟨z1, z2, by rw [HEL.out]; omega⟩
  case' stop =>
    rintro D c pre W hD ⟨L1, htk, hPW, hFW⟩ ⟨hc, hJ, hp⟩ hKD
    subst hc
    have hgt : (L.length : Int) ≤ most → ∀ y ∈ L1, u < y.v := fun h => by have := htk.length; omega
    have hres : (pre.length : Int) > most ∨ ∀ y ∈ L1, u < y.v := .inl (by omega)
    have hpb : pre.length ≤ 5001 := by omega
    refine wpIn_wide.2 ?_
  case' done =>
    rintro D pre W hD ⟨L1, htk, hgt1, hPW, hFW⟩ ⟨hJ, hp⟩ hKD
    have hgt : (L.length : Int) ≤ most → ∀ y ∈ L1, u < y.v := fun _ => hgt1
    have hres : (pre.length : Int) > most ∨ ∀ y ∈ L1, u < y.v := .inr hgt1
    have hpb : pre.length ≤ 5001 := by omega
  all_goals (
    obtain ⟨Lr, hLr, htr, hrF⟩ := hJ.ref
    have hpm := took_same htk htr
    have hlr4 : Lr.length ≤ 4096 := by have := htr.length; have := HLN.out; omega
    have HFI := hid (RFirst_any hLr hlr4)
    have hft := first_in Lr
    obtain ⟨a, cp, q0, q1, qs⟩ := hLr.cells
    have q5 := hJ.b5.cell
    have q6 := hJ.b6.cell
    have q7 := hJ.b7.cell
    have q9 := hJ.b9.cell
    have q10 := hJ.b10.cell
    have hrl := hLr.lt
    have l5 := hJ.b5.lt
    have l6 := hJ.b6.lt
    have l7 := hJ.b7.lt
    have l9 := hJ.b9.lt
    have l10 := hJ.b10.lt
    have HFN := hid (fun xp : Past => due_fin (u := u) (most := most) (L := L) (x := xp) hPW hLr hpm hJ.bel hKD (by have := HSZ.out.1; omega) (fun k hk => by have := (HMK.out k (hFW k hk)).2.1; have := HSZ.out.1; omega) hgt (by have := htk.length; rw [hpm.length_eq] at this; omega) (fun y hy => htk.perm.mem_iff.1 (List.mem_append_right _ hy)))
    have HKD := hid hKD
    have HRES := hid (And.intro hres hpm)
    obtain ⟨p, ep⟩ : ∃ p, pre.length = p := ⟨_, rfl⟩
    rw [ep] at q9 hpb
    have HEP := hid ep
    clear hJ hPW hKD htk htr hFW hLr hpm hgt hres hp hrF ep HSEQ
    go_wp2_with fail
    refine HFI.out.mono ?_
    rintro _ _ ⟨rfl, y1, rfl⟩
    by_cases hmo : (p : Int) > most
    · have d1 : decide (most < (p : Int)) = true := by simp; omega
      go_wp2_with fail
      refine wp_region_past (by kernel_rfl) (by kernel_rfl) ?_
      repeat (go_big_quiet_step ((fail)))
      refine wpQuiet_nil ?_
      rintro _ ⟨_, rfl⟩
      rename_i xq
      go_wp2_with fail
      obtain ⟨Wf, eWf⟩ : ∃ Wf, Wf = W.past (y1.and xq) := ⟨_, rfl⟩
      have hKf : Wf.heap[D]? = some (.deferred (some [])) := by rw [eWf]; exact ((W.below_past _).block D (Array.getElem?_eq_some_iff.1 HKD.out).1).trans HKD.out
      have hfn := HFN.out (y1.and xq)
      rw [← eWf] at hfn
      rw [World.past_past, ← eWf]
      refine ⟨by simp, .inl ⟨_, _, rfl, run_takeDeferred hKf, ?_⟩⟩
      exact ⟨.bool true, by simp [results, Try.results17, go_sem], hfn⟩
    · have d1 : decide (most < (p : Int)) = false := by simp; omega
      rcases hft with ⟨rfl, e⟩ | ⟨i, hi, e, hle⟩
      · rw [e]
        go_wp2_with fail
        refine wp_region_past (by kernel_rfl) (by kernel_rfl) ?_
        repeat (go_big_quiet_step ((fail)))
        refine wpQuiet_nil ?_
        rintro _ ⟨_, rfl⟩
        rename_i xq
        go_wp2_with fail
        obtain ⟨Wf, eWf⟩ : ∃ Wf, Wf = W.past (y1.and xq) := ⟨_, rfl⟩
        have hKf : Wf.heap[D]? = some (.deferred (some [])) := by rw [eWf]; exact ((W.below_past _).block D (Array.getElem?_eq_some_iff.1 HKD.out).1).trans HKD.out
        have hfn := HFN.out (y1.and xq)
        rw [← eWf] at hfn
        rw [World.past_past, ← eWf]
        refine ⟨by simp, .inl ⟨_, _, rfl, run_takeDeferred hKf, ?_⟩⟩
        exact ⟨.bool true, by simp [results, Try.results17, go_sem], hfn⟩
      · rw [e]
        obtain ⟨g, rfl, s0, -, -⟩ := qs i hi
        have hv : u < Lr[i].v := by
          rcases HRES.out.1 with h | h
          · have := HEP.out; omega
          · exact h _ (HRES.out.2.mem_iff.2 (List.getElem_mem hi))
        have d2 : decide (u < Lr[i].v) = true := by simp [hv]
        have d3 : decide ((i : Int) < 0) = false := by simp
        have hil : (i : Int) < Lr.length := by omega
        go_wp2_with fail
        refine wp_region_past (by kernel_rfl) (by kernel_rfl) ?_
        repeat (go_big_quiet_step ((fail)))
        refine wpQuiet_nil ?_
        rintro _ ⟨_, rfl⟩
        rename_i xq
        go_wp2_with fail
        obtain ⟨Wf, eWf⟩ : ∃ Wf, Wf = W.past (y1.and xq) := ⟨_, rfl⟩
        have hKf : Wf.heap[D]? = some (.deferred (some [])) := by rw [eWf]; exact ((W.below_past _).block D (Array.getElem?_eq_some_iff.1 HKD.out).1).trans HKD.out
        have hfn := HFN.out (y1.and xq)
        rw [← eWf] at hfn
        rw [World.past_past, ← eWf]
        refine ⟨by simp, .inl ⟨_, _, rfl, run_takeDeferred hKf, ?_⟩⟩
        exact ⟨.bool true, by simp [results, Try.results17, go_sem], hfn⟩)
end Go.Proofs.Ytcbdghjakdbedaa
