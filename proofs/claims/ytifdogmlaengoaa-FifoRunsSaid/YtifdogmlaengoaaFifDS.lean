/-
  Layer 05: push, take and the like (strings). No condition.
-/
import Derived.Test.YtifdogmlaengoaaFifCS
import Derived.Test.YtifdogmlaengoaaRegSplit
import Derived.Deep.RegionHeld3
namespace Go.Proofs.Ytifdogmlaengoaa
open Go.RowKit
/-- A queue, and its blocks. -/
def QAtS (B : Nat) (w : World) (b : Nat) (F : Nat → Prop) (most : Int) (q : Fq ByteArray) (tk : Int) (f : Int → Option Int) (c : Nat) : Prop := ∃ ba mb G, QInS B w b ba mb G most q tk f c ∧ F = ft b ba mb G
/-- Behind an act. -/
def QPS (B b : Nat) (F : Nat → Prop) (most : Int) (q : Fq ByteArray) (tk : Int) (f : Int → Option Int) (c : Nat) (w w' : World) : Prop :=
  ∃ F', QAtS B w' b F' most q tk f c ∧ (∀ k, F' k → F k ∨ w.heap.size ≤ k) ∧ Kept F w w'
theorem QInS.foot {B : Nat} {w : World} {b ba mb : Nat} {G : Option Nat} {most : Int} {q : Fq ByteArray} {tk : Int} {f : Int → Option Int} {c : Nat} (h : QInS B w b ba mb G most q tk f c) (k : Nat) (hk : ft b ba mb G k) : B ≤ k ∧ k < w.heap.size := by
  rcases hk with rfl | rfl | rfl | hk
  · exact ⟨h.big, h.rc.lt⟩
  · exact ⟨h.ar.big, h.ar.lt⟩
  · exact ⟨h.bim, h.mp.lt⟩
  · exact h.ar.row hk.symm
/-- A change of the map. -/
theorem QInS.map {B : Nat} {w w' : World} {b ba mb : Nat} {G : Option Nat} {most : Int} {q : Fq ByteArray} {tk : Int} {f f' : Int → Option Int} {c c' : Nat} (h : QInS B w b ba mb G most q tk f c) (hm : MapI Try.prog 3 w' mb f' c') (hg : w.grownBy w' (some mb)) : QInS B w' b ba mb G most q tk f' c' ∧ Kept (fun k => k = mb) w w' := by
  have hk : Kept (fun k => k = mb) w w' := ⟨hg.os, hg.tape, hg.output, hg.size, fun k hk hn => hg.block k hk (fun e => hn (by injection e))⟩
  obtain ⟨p1, p2, p3, p4, p5, p6⟩ := h.apart
  exact ⟨⟨h.big, h.bim, h.rc.kept hk p2, h.ar.kept hk p3 (fun g hG e => by subst e; exact p6 hG.symm), hm⟩, hk⟩
set_option maxHeartbeats 4000000 in
theorem PushS_any {B : Nat} {w : World} {b : Nat} {F : Nat → Prop} {most : Int} {q : Fq ByteArray} {tk : Int} {f : Int → Option Int} {c cS : Nat} (h : QAtS B w b F most q tk f c) (hB : B ≤ w.heap.size) (hS : OkA cS q.S) (hcS : cS ≤ 100000) (hc : c ≤ 100000) (ht0 : 0 ≤ tk) (ht1 : tk ≤ 1000000) (hlen : q.S.l.length ≤ 100000) (v : ByteArray) (S' : Ar LkS) (p e : Nat) (hp : putA zLS most q.S (v, tk + 1, -1, -1) = (S', p, e)) (hp1 : p ≤ 100000) (he : e = 0) (hfn : f (tk + 1) = none) :
    Calls Try.prog 22 #[.pointer (some ⟨b, 0, none⟩), .string v] w (fun e w' => e = .returned (.tuple #[.int .i64 (tk + 1), .int .i64 0]) ∧ QPS B b F most (pushQ zLS q S' p) (tk + 1) (upd f (tk + 1) (some (p : Int))) (c + 1) w w') := by
  subst he
  have HFN := hid hfn
  clear hfn
  obtain ⟨ba, mb, G, h, hF⟩ := h
  subst hF
  have hpu := LPutS_any cS B ba most q.S (v, tk + 1, -1, -1) w.drew hS hcS (h.far (Below.refl _ _).drew).ar hB
  unfold PutP at hpu
  rw [hp] at hpu
  have HPU := hid hpu
  have HH := hid h
  have q0 := Rec.cell h.rc 0
  have q4 := Rec.cell h.rc 4
  simp at q0 q4
  have hlb := h.rc.lt
  have e1 : IntKind.i64.wrap (tk + 1) = tk + 1 := by rw [IntKind.wrap_i64]; omega
  clear h hpu hp hS
  go_enter Try.func22, Try.ntmps22
  go_upto_region 3 with (fail)
  have h0 := HH.out.far (Below.refl _ w).drew
  have HA := hid (fun (w3 : World) (G' : Option Nat) (ha : ArLS B w3 ba G' most S') (hk : KeptA ba G w.drew w3) => h0.arena ha hk)
  clear h0
  go_region_held3 (fun W => W.cell? ⟨b, 0, none⟩ = some (.pointer (some ⟨ba, 0, none⟩)) ∧ W.cell? ⟨b, 4, none⟩ = some (.int .i64 tk)) (first | (simp [go_sem, *]; done)) (first | (go_at_call 36; refine HPU.out.mono ?_; rintro _ w3 ⟨rfl, ⟨G', ha, hn⟩, -, hk⟩; have HQ3 := hid (HA.out w3 G' ha hk); have HK3 := hid hk; have HN3 := hid hn; clear hk hn ha; have c0 := Rec.cell HQ3.out.rc 0; have c4 := Rec.cell HQ3.out.rc 4; simp at c0 c4))
  have HKF := hid ((Kept.of_below (Below.refl _ w).drew (ft b ba mb G)).trans (Kept.mono HK3.out (fun k _ hk => by rcases hk with hk | hk; exact .inr (.inl hk); exact .inr (.inr (.inr hk)))))
  have HNF := hid (fun (k : Nat) (hk : ft b ba mb G' k) => (show ft b ba mb G k ∨ w.heap.size ≤ k by
    rcases hk with hk | hk | hk | hk
    · exact .inl (.inl hk)
    · exact .inl (.inr (.inl hk))
    · exact .inl (.inr (.inr (.inl hk)))
    · rcases HN3.out with h | ⟨g, h, h2⟩
      · exact .inl (.inr (.inr (.inr (by rw [hk, h]))))
      · rw [h] at hk
        injection hk with hk
        exact .inr (by rw [hk]; exact h2)))
  have f4 := Rec.frozen HQ3.out.rc 4
  have l4 := HQ3.out.rc.lt
  have H4 := hid (HQ3.out.field 4 (.int .i64 (tk + 1)) q.fi q.la (tk + 1) rfl)
  obtain ⟨w4, ew4⟩ : ∃ W, W = w3.setCell ⟨b, 4, none⟩ (.int .i64 (tk + 1)) := ⟨_, rfl⟩
  rw [← ew4] at H4
  have HK4 : Hid (Kept (ft b ba mb G) w w4) := hid (by rw [ew4]; exact HKF.out.setCell (p := ⟨b, 4, none⟩) (.inr (.inl rfl)) _)
  have EW4 := hid ew4
  clear ew4 HPU HA HK3 HN3 q0 q4
  go_upto_region 7 with (fail)
  rw [← EW4.out]
  obtain ⟨w5, r5, m5, g5, -⟩ := (H4.out.far (Below.refl _ w4).drew).mp.store (m := 68) (x := tk + 1) (y := (p : Int)) (by kernel_rfl) (by kernel_rfl) (by unfold I64; omega) (by unfold I64; omega) (by unfold maxLen; omega)
  rw [HFN.out] at m5
  obtain ⟨h5, k5⟩ := (H4.out.far (Below.refl _ w4).drew).map m5 g5
  have H5 := hid h5
  have HK5 := hid ((HK4.out.trans (Kept.of_below (Below.refl _ w4).drew _)).trans (kept_one k5 (.inr (.inr (.inl rfl)))))
  have q1 := Rec.cell H4.out.rc 1
  have q4 := Rec.cell H4.out.rc 4
  simp at q1 q4
  clear h5 k5 m5 g5 c0 c4 f4 HKF HK4 EW4
  refine wp_region_split (S := (fun W => W.cell? ⟨b, 1, none⟩ = some (.map (some mb)) ∧ W.cell? ⟨b, 4, none⟩ = some (.int .i64 (tk + 1)))) 9 (by kernel_rfl) (by kernel_rfl) ?_ (fun hHeld => ?_)
  · (first | (simp [go_sem, *]; done))
  simp only [List.take_succ_cons, List.take_zero, List.drop_succ_cons, List.drop_zero]
  refine wpAnyH_take (i := 0) (v := ?_) rfl (by kernel_rfl) (by kernel_rfl) (by kernel_rfl) (fun _ _ _ h => h) (Or.inl ⟨by rfl, ?_⟩) (by assumption) ?_
  rotate_left
  · intro w hSw; (try dsimp only at hSw); go_simp; try with_reducible rfl
  try simp only [put_simp]
  refine wpAnyH_take (i := 1) (v := ?_) rfl (by kernel_rfl) (by kernel_rfl) (by kernel_rfl) (fun _ _ _ h => h) (Or.inl ⟨by rfl, ?_⟩) (by assumption) ?_
  rotate_left
  · intro w hSw; (try dsimp only at hSw); go_simp; try with_reducible rfl
  try simp only [put_simp]
  refine wpAnyH_take (i := 2) (v := ?_) rfl (by kernel_rfl) (by kernel_rfl) (by kernel_rfl) (fun _ _ _ h => h) (Or.inl ⟨by rfl, ?_⟩) (by assumption) ?_
  rotate_left
  · intro w hSw; (try dsimp only at hSw); go_simp; try with_reducible rfl
  try simp only [put_simp]
  refine wpAnyH_take (i := 3) (v := ?_) rfl (by kernel_rfl) (by kernel_rfl) (by kernel_rfl) (fun _ _ _ h => h) (Or.inl ⟨by rfl, ?_⟩) (by assumption) ?_
  rotate_left
  · intro w hSw; (try dsimp only at hSw); go_simp; try with_reducible rfl
  try simp only [put_simp]
  refine wpAnyH_take (i := 4) (v := ?_) rfl (by kernel_rfl) (by kernel_rfl) (by kernel_rfl) (fun _ _ _ h => h) (Or.inl ⟨by rfl, ?_⟩) (by assumption) ?_
  rotate_left
  · intro w hSw; (try dsimp only at hSw); go_simp; try with_reducible rfl
  try simp only [put_simp]
  refine wpAnyH_take (i := 5) (v := ?_) rfl (by kernel_rfl) (by kernel_rfl) (by kernel_rfl) (fun _ _ _ h => h) (Or.inl ⟨by rfl, ?_⟩) (by assumption) ?_
  rotate_left
  · intro w hSw; (try dsimp only at hSw); go_simp; try with_reducible rfl
  try simp only [put_simp]
  refine wpAnyH_take (i := 6) (v := ?_) rfl (by kernel_rfl) (by kernel_rfl) (by kernel_rfl) (fun _ _ _ h => h) (Or.inl ⟨by rfl, ?_⟩) (by assumption) ?_
  rotate_left
  · intro w hSw; (try dsimp only at hSw); go_simp; try with_reducible rfl
  try simp only [put_simp]
  refine wpAnyH_take (i := 7) (v := ?_) rfl (by kernel_rfl) (by kernel_rfl) (by kernel_rfl) (fun _ _ _ h => h) (Or.inl ⟨by rfl, ?_⟩) (by assumption) ?_
  rotate_left
  · intro w hSw; (try dsimp only at hSw); go_simp; try with_reducible rfl
  try simp only [put_simp]
  refine wpAnyH_take (i := 8) (v := ?_) rfl (by kernel_rfl) (by kernel_rfl) (by kernel_rfl) (fun _ _ _ h => h) (Or.inl ⟨by rfl, ?_⟩) (by assumption) ?_
  rotate_left
  · intro w hSw; (try dsimp only at hSw); go_simp; try with_reducible rfl
  try simp only [put_simp]
  refine wpAnyH_done (by kernel_rfl) ?_ _
  change wpList _ _ _ _ _ _
  have d3 := Rec.cell H5.out.rc 3
  simp at d3
  have HJ := hid (joinS_any H5.out (Nat.le_trans hB HK5.out.size) q.la (p : Int))
  go_upto_region 9 with (go_at_call 37; refine HJ.out.mono ?_; rintro _ w6 ⟨rfl, h6, k6⟩; have H6 := hid h6; have HK6 := hid k6; clear h6 k6)
  obtain ⟨q6, eq6⟩ : ∃ q6, joinF zLS ⟨S', q.fi, q.la⟩ q.la (p : Int) = q6 := ⟨_, rfl⟩
  have HPQ := hid (show pushQ zLS q S' (p : Int) = ⟨q6.S, q6.fi, p⟩ by unfold pushQ; rw [eq6])
  rw [eq6] at H6
  have d3 := Rec.cell H6.out.rc 3
  have d4 := Rec.cell H6.out.rc 4
  have f3 := Rec.frozen H6.out.rc 3
  have l3 := H6.out.rc.lt
  simp at d3 d4
  have H7 := hid (H6.out.field 3 (.int .i64 (p : Int)) q6.fi p (tk + 1) rfl)
  have HK7 := hid ((HK5.out.trans' HK6.out (fun i hi hg => (HNF.out i hg).resolve_right (by omega))).setCell (p := ⟨b, 3, none⟩) (.inr (.inl rfl)) (.int .i64 (p : Int)))
  clear eq6 HJ r5 H6 HK6 HK5 H5 H4 HQ3
  go_wp2_with fail
  go_ret2
  exact ⟨rfl, ft b ba mb G', ⟨ba, mb, G', by rw [HPQ.out]; exact H7.out, rfl⟩, HNF.out, HK7.out⟩
set_option maxHeartbeats 1000000 in
theorem PushFS_any {B : Nat} {w : World} {b : Nat} {F : Nat → Prop} {most : Int} {q : Fq ByteArray} {tk : Int} {f : Int → Option Int} {c cS : Nat} (h : QAtS B w b F most q tk f c) (hB : B ≤ w.heap.size) (hS : OkA cS q.S) (hcS : cS ≤ 100000) (ht0 : 0 ≤ tk) (ht1 : tk ≤ 1000000) (v : ByteArray) (hp : most ≤ q.S.n) :
    Calls Try.prog 22 #[.pointer (some ⟨b, 0, none⟩), .string v] w (fun e w' => e = .returned (.tuple #[.int .i64 0, .int .i64 3]) ∧ QPS B b F most q tk f c w w') := by
  obtain ⟨ba, mb, G, h, hF⟩ := h
  subst hF
  have hpu := LPutS_any cS B ba most q.S (v, tk + 1, -1, -1) w.drew hS hcS (h.far (Below.refl _ _).drew).ar hB
  unfold PutP at hpu
  rw [show putA zLS most q.S (v, tk + 1, -1, -1) = (q.S, 0, 3) from if_pos hp] at hpu
  have HPU := hid hpu
  have q0 := Rec.cell h.rc 0
  have q4 := Rec.cell h.rc 4
  simp at q0 q4
  have hlb := h.rc.lt
  have e1 : IntKind.i64.wrap (tk + 1) = tk + 1 := by rw [IntKind.wrap_i64]; omega
  have h0 := h.far (Below.refl _ w).drew
  have HA := hid (fun (w3 : World) (G' : Option Nat) (ha : ArLS B w3 ba G' most q.S) (hk : KeptA ba G w.drew w3) => h0.arena ha hk)
  clear h0 h hpu hp hS
  go_enter Try.func22, Try.ntmps22
  go_upto_region 3 with (fail)
  go_region_held3 (fun W => W.cell? ⟨b, 0, none⟩ = some (.pointer (some ⟨ba, 0, none⟩)) ∧ W.cell? ⟨b, 4, none⟩ = some (.int .i64 tk)) (first | (simp [go_sem, *]; done)) (first | (go_at_call 36; refine HPU.out.mono ?_; rintro _ w3 ⟨rfl, ⟨G', ha, hn⟩, -, hk⟩; have HQ3 := hid (HA.out w3 G' ha hk); have HK3 := hid hk; have HN3 := hid hn; clear hk hn ha; have c0 := Rec.cell HQ3.out.rc 0; have c4 := Rec.cell HQ3.out.rc 4; simp at c0 c4))
  have HKF := hid ((Kept.of_below (Below.refl _ w).drew (ft b ba mb G)).trans (Kept.mono HK3.out (fun k _ hk => by rcases hk with hk | hk; exact .inr (.inl hk); exact .inr (.inr (.inr hk)))))
  have HNF := hid (fun (k : Nat) (hk : ft b ba mb G' k) => (show ft b ba mb G k ∨ w.heap.size ≤ k by
    rcases hk with hk | hk | hk | hk
    · exact .inl (.inl hk)
    · exact .inl (.inr (.inl hk))
    · exact .inl (.inr (.inr (.inl hk)))
    · rcases HN3.out with h | ⟨g, h, h2⟩
      · exact .inl (.inr (.inr (.inr (by rw [hk, h]))))
      · rw [h] at hk
        injection hk with hk
        exact .inr (by rw [hk]; exact h2)))
  clear HPU HA HK3 HN3 q0 q4
  go_wp2_with fail
  go_ret2
  exact ⟨rfl, ft b ba mb G', ⟨ba, mb, G', HQ3.out, rfl⟩, HNF.out, HKF.out⟩

end Go.Proofs.Ytifdogmlaengoaa
