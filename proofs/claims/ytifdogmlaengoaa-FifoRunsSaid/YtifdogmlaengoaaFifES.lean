/-
  Layer 05: what is taken off a queue (strings). No condition.
-/
import Derived.Test.YtifdogmlaengoaaFifDS
namespace Go.Proofs.Ytifdogmlaengoaa
open Go.RowKit
set_option maxHeartbeats 4000000 in
theorem takeS_any {B : Nat} {w : World} {b : Nat} {F : Nat → Prop} {most : Int} {q : Fq ByteArray} {tk : Int} {f : Int → Option Int} {c cS : Nat} (h : QAtS B w b F most q tk f c) (hB : B ≤ w.heap.size) (hS : OkA cS q.S) (hcS : cS ≤ 100000) (p : Int) (hp : isA zLS q.S.l p = true) (v : ByteArray) (t pr nx : Int) (hx : (getA zLS q.S p).1 = (v, t, pr, nx)) (ht : I64 t) (hft : (f t).isSome = true) :
    Calls Try.prog 39 #[.pointer (some ⟨b, 0, none⟩), .int .i64 p] w (fun e w' => e = .returned (.tuple #[.string v, .bool true]) ∧ QPS B b F most (takeQ zLS q p) tk (upd f t none) (c - 1) w w') := by
  obtain ⟨ba, mb, G, h, hF⟩ := h
  subst hF
  have hdr := LDropS_any cS B ba most q.S p w hS hcS h.ar hB
  unfold ChP at hdr
  rw [hx, getA_2, hp] at hdr
  have HDR := hid hdr
  have HTQ := hid (show takeQ zLS q p = joinF zLS ⟨dropA zLS q.S p, q.fi, q.la⟩ pr nx by unfold takeQ; rw [if_pos hp, hx])
  have HH := hid h
  have HFT := hid hft
  have HT := hid ht
  have q0 := Rec.cell h.rc 0
  simp at q0
  have hlb := h.rc.lt
  clear h hdr hS hp hx hft ht
  go_enter Try.func39, Try.ntmps39
  go_upto_region 3 with (go_at_call 46; refine HDR.out.mono ?_; rintro _ w2 ⟨rfl, ha, -, hk⟩; have HQ2 := hid (HH.out.arena ha hk); have HK2 := hid (Kept.mono hk (fun k _ hk => (by rcases hk with hk | hk; exact .inr (.inl hk); exact .inr (.inr (.inr hk)) : ft b ba mb G k))); clear ha hk)
  obtain ⟨X, eX⟩ : ∃ X, w2.heap.size = X := ⟨_, rfl⟩
  obtain ⟨w3, ew3⟩ : ∃ W, W = w2.alloc (.cells #[.string v, .int .i64 t, .int .i64 pr, .int .i64 nx] 79) := ⟨_, rfl⟩
  have hbx : Rec w3 X 79 #[.string v, .int .i64 t, .int .i64 pr, .int .i64 nx] := by rw [ew3, ← eX]; exact Rec.new w2 _ _
  have hb3 : Below w2.heap.size w2 w3 := by rw [ew3]; exact (Below.refl _ w2).alloc (Nat.le_refl _) _
  have H3 := hid (HQ2.out.far hb3)
  have HNX := hid (show ¬ ft b ba mb G X from fun hf => by have := (HQ2.out.foot X hf).2; omega)
  have HK3 := hid (HK2.out.trans (Kept.of_below hb3 _))
  rw [eX, ← ew3]
  clear ew3 hb3 eX HDR HK2 HQ2 q0
  obtain ⟨w5, r5, m5, g5, -⟩ := (H3.out.far (Below.refl _ w3).drew).mp.drop (m := 68) (x := t) (by kernel_rfl) (by kernel_rfl) HT.out 0
  rw [HFT.out] at m5
  simp only [if_true] at m5
  obtain ⟨h5, k5⟩ := (H3.out.far (Below.refl _ w3).drew).map m5 g5
  have H5 := hid h5
  have HBX := hid hbx
  have HB5 := hid ((hbx.drew).kept k5 (fun e => HNX.out (.inr (.inr (.inl e)))))
  have HK5 := hid ((HK3.out.trans (Kept.of_below (Below.refl _ w3).drew _)).trans (kept_one k5 (.inr (.inr (.inl rfl)))))
  have q1 := Rec.cell H3.out.rc 1
  have c1 := Rec.cell hbx 1
  simp at q1 c1
  clear h5 k5 m5 g5 hbx HK3
  refine wp_region_split (S := (fun W => W.cell? ⟨b, 1, none⟩ = some (.map (some mb)) ∧ W.cell? ⟨X, 1, none⟩ = some (.int .i64 t))) 6 (by kernel_rfl) (by kernel_rfl) ?_ (fun hHeld => ?_)
  · (first | (simp [go_sem, *]; done))
  simp only [List.take_succ_cons, List.take_zero, List.drop_succ_cons, List.drop_zero]
  refine wpAnyH_take (i := 0) (v := ?_) rfl (by kernel_rfl) (by kernel_rfl) (by kernel_rfl) (fun _ _ _ h => h) (Or.inl ⟨by rfl, ?_⟩) (by assumption) ?_
  rotate_left
  · intro w hSw; (try dsimp only at hSw); go_simp; try with_reducible rfl
  try simp only [put_simp]
  refine wpAnyH_take (i := 1) (v := ?_) rfl (by kernel_rfl) (by kernel_rfl) (by kernel_rfl) (fun _ _ _ h => h) (Or.inl ⟨by rfl, ?_⟩) (by assumption) ?_
  rotate_left
  · intro w hSw; (try dsimp only at hSw); go_simp; try with_reducible rfl
  try simp only [put_simp]
  refine wpAnyH_take (i := 2) (v := ?_) rfl (by kernel_rfl) (by kernel_rfl) (by kernel_rfl) (fun _ _ _ h => h) (Or.inl ⟨by rfl, ?_⟩) (by assumption) ?_
  rotate_left
  · intro w hSw; (try dsimp only at hSw); go_simp; try with_reducible rfl
  try simp only [put_simp]
  refine wpAnyH_take (i := 3) (v := ?_) rfl (by kernel_rfl) (by kernel_rfl) (by kernel_rfl) (fun _ _ _ h => h) (Or.inl ⟨by rfl, ?_⟩) (by assumption) ?_
  rotate_left
  · intro w hSw; (try dsimp only at hSw); go_simp; try with_reducible rfl
  try simp only [put_simp]
  refine wpAnyH_take (i := 4) (v := ?_) rfl (by kernel_rfl) (by kernel_rfl) (by kernel_rfl) (fun _ _ _ h => h) (Or.inl ⟨by rfl, ?_⟩) (by assumption) ?_
  rotate_left
  · intro w hSw; (try dsimp only at hSw); go_simp; try with_reducible rfl
  try simp only [put_simp]
  refine wpAnyH_take (i := 5) (v := ?_) rfl (by kernel_rfl) (by kernel_rfl) (by kernel_rfl) (fun _ _ _ h => h) (Or.inl ⟨by rfl, ?_⟩) (by assumption) ?_
  rotate_left
  · intro w hSw; (try dsimp only at hSw); go_simp; try with_reducible rfl
  try simp only [put_simp]
  refine wpAnyH_done (by kernel_rfl) ?_ _
  change wpList _ _ _ _ _ _
  have d2 := Rec.cell HB5.out 2
  have d3 := Rec.cell HB5.out 3
  simp at d2 d3
  have HJ := hid (joinS_any H5.out (Nat.le_trans hB HK5.out.size) pr nx)
  go_upto_region 5 with (go_at_call 37; refine HJ.out.mono ?_; rintro _ w6 ⟨rfl, h6, k6⟩; have H6 := hid h6; have HK6 := hid k6; clear h6 k6)
  have d0 := Rec.cell (HB5.out.kept HK6.out HNX.out) 0
  simp at d0
  have HFF := hid (HK5.out.trans HK6.out)
  clear HJ r5 HK5 HK6 H5 H3 q1 c1 d2 d3
  go_wp2_with fail
  go_ret2
  exact ⟨rfl, ft b ba mb G, ⟨ba, mb, G, by rw [HTQ.out]; exact H6.out, rfl⟩, fun k hk => .inl hk, HFF.out⟩
set_option maxHeartbeats 1000000 in
theorem takeNS_any {B : Nat} {w : World} {b : Nat} {F : Nat → Prop} {most : Int} {q : Fq ByteArray} {tk : Int} {f : Int → Option Int} {c cS : Nat} (h : QAtS B w b F most q tk f c) (hB : B ≤ w.heap.size) (hS : OkA cS q.S) (hcS : cS ≤ 100000) (p : Int) (hp : isA zLS q.S.l p = false) :
    Calls Try.prog 39 #[.pointer (some ⟨b, 0, none⟩), .int .i64 p] w (fun e w' => e = .returned (.tuple #[.string ⟨#[]⟩, .bool false]) ∧ QPS B b F most q tk f c w w') := by
  obtain ⟨ba, mb, G, h, hF⟩ := h
  subst hF
  have hdr := LDropS_any cS B ba most q.S p w hS hcS h.ar hB
  unfold ChP at hdr
  have hg : getA zLS q.S p = (zLS, false) := if_neg (by rw [hp]; simp)
  have hd : dropA zLS q.S p = q.S := if_neg (by rw [hp]; simp)
  rw [hg, hd] at hdr
  have HDR := hid hdr
  have HH := hid h
  have q0 := Rec.cell h.rc 0
  simp at q0
  have hlb := h.rc.lt
  clear h hdr hS hp hg hd
  go_enter Try.func39, Try.ntmps39
  go_wp2_with (go_at_call 46; refine HDR.out.mono ?_; rintro _ w2 ⟨rfl, ha, -, hk⟩; have HQ2 := hid (HH.out.arena ha hk); have HK2 := hid (Kept.mono hk (fun k _ hk => (by rcases hk with hk | hk; exact .inr (.inl hk); exact .inr (.inr (.inr hk)) : ft b ba mb G k))); clear ha hk)
  go_ret2
  have hb3 := (Below.refl _ w2).alloc (Nat.le_refl _) (.cells #[.string zLS.1, .int .i64 zLS.2.1, .int .i64 zLS.2.2.1, .int .i64 zLS.2.2.2] 79)
  exact ⟨rfl, ft b ba mb G, ⟨ba, mb, G, HQ2.out.far hb3, rfl⟩, fun k hk => .inl hk, HK2.out.trans (Kept.of_below hb3 _)⟩

end Go.Proofs.Ytifdogmlaengoaa
