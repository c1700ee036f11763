/-
  Layer 18: the document's ledger: a tick is charged. No condition.
-/
import Derived.Test.YtookaodcdglhfaaDoorRefA
import Derived.Test.YtookaodcdglhfaaDoorRegLast
namespace Go.Proofs.YtookaodcdglhfaaDoor
open Go.RowKit
set_option maxHeartbeats 8000000 in
theorem RCharge_any {B b : Nat} {w : World} {S : Lg} {has : Nat → Bool} (hS : OkG S) (h : RfAt B w b S.l S.sl S.cr S.fl has) (p : Int) (hB : B ≤ w.heap.size) : Calls Tryd.prog 13 #[.pointer (some ⟨b, 0, none⟩), .int .i64 p] w (RfP B b (chargeF S p).l S.sl S.cr S.fl has (.bool (isP S.l p)) w) := by
  have HI := hid (RIs_any h p)
  cases e : isP S.l p with
  | false =>
    have HE := hid (show chargeF S p = S by unfold chargeF; rw [e]; rfl)
    rw [e] at HI
    have HH := hid h
    clear e h
    go_enter Tryd.func13, Tryd.ntmps13
    go_wp2_with (go_at_call 24; refine HI.out.mono ?_; rintro _ _ ⟨rfl, x1, rfl⟩)
    go_ret
    exact ⟨rfl, by rw [HE.out]; exact HH.out.past _, (w.below_past _).mono hB, KeptT.of_below (w.below_past _) _ _⟩
  | true =>
    obtain ⟨h0, h1⟩ := isP_iff.1 e
    obtain ⟨k, rfl⟩ := Int.eq_ofNat_of_zero_le h0
    have hk : k < S.l.length := by omega
    have HE := hid (show (chargeF S k).l = S.l.set k (chargeP (pt S.l k)) by unfold chargeF; rw [e]; rfl)
    have HK := hid hk
    obtain ⟨hv, hw⟩ := hS.at hk
    have HA := hid (fun W => RAdd_any (pt S.l k).v (lockF (pt S.l k).w) hv (lock_u64 _) W)
    have HL := hid (fun W => RLock_any (pt S.l k).w W)
    obtain ⟨n, en⟩ : ∃ n, S.l.length = n := ⟨_, rfl⟩
    have hkn : k < n := by omega
    have HH := hid h
    have EN := hid en
    rw [e] at HI
    clear e h en h0 h1 hv hw hk hS
    go_enter Tryd.func13, Tryd.ntmps13
    go_wp2_with fail
    refine HI.out.mono ?_
    rintro _ _ ⟨rfl, x1, rfl⟩
    obtain ⟨w1, ew1⟩ : ∃ w1, w1 = w.past x1 := ⟨_, rfl⟩
    have hb1 : Below w.heap.size w w1 := by rw [ew1]; exact w.below_past x1
    rw [← ew1]
    have h1 := HH.out.far hb1
    obtain ⟨g, cap, q0, q1, q2, q3, q4⟩ := h1.party HK.out
    have HQ := hid q0
    have H1 := hid h1
    have HB1 := hid hb1
    rw [EN.out] at q0
    clear h1 hb1 ew1
    go_wp2_with fail
    refine wp_region_last (C := fun w' => ∃ x : Past, w' = w1.past x) 28 [25] (by kernel_rfl) (by kernel_rfl) (by kernel_rfl) rfl (by kernel_rfl) (.inr fun _ _ d _ _ h => by cases d <;> exact h) (past_of ⟨rfl, rfl, rfl, Nat.le_refl _, fun _ _ => rfl⟩) ?_
    simp only [List.take_succ_cons, List.take_zero]
    repeat (go_big_quiet_step ((first | (go_at_call 34; first | with_reducible exact Calls.in_past (HL.out _) | with_reducible exact Calls.in_past2 (HL.out _)) | (go_at_call 33; first | with_reducible exact Calls.in_past (HA.out _) | with_reducible exact Calls.in_past2 (HA.out _)) | (go_at_call 34; first | exact Calls.in_past (HL.out _) | exact Calls.in_past2 (HL.out _)) | (go_at_call 33; first | exact Calls.in_past (HA.out _) | exact Calls.in_past2 (HA.out _)))))
    refine wpQuiet_nil ?_
    rintro _ ⟨xq, rfl⟩
    have q0' := below_cell (w1.below_past xq) (Nat.le_refl _) _ _ HQ.out
    have f9 := ((H1.out.past xq).soft q0').1 (k * 4 + 1)
    have P2 := (H1.out.past xq).put (k := k) (j := 1) (y := ⟨(pt S.l k).w, addF (pt S.l k).v (lockF (pt S.l k).w), (pt S.l k).h⟩) (c := has k) (u := .int .u64 (addF (pt S.l k).v (lockF (pt S.l k).w))) q0' HK.out (by omega) rfl
    clear q0'
    refine wpOp_step rfl (fun K hK => ?_)
    go_simp
    refine hK _ _ ?_
    clear hK K
    obtain ⟨w2, ew2⟩ : ∃ w2, w2 = (w1.past xq).setCell ⟨g, k * 4 + 1, none⟩ (.int .u64 (addF (pt S.l k).v (lockF (pt S.l k).w))) := ⟨_, rfl⟩
    rw [← ew2] at P2 ⊢
    obtain ⟨h2, hb2, hk2, e0⟩ := P2
    have hk2l : k < (S.l.set k ⟨(pt S.l k).w, addF (pt S.l k).v (lockF (pt S.l k).w), (pt S.l k).h⟩).length := by rw [List.length_set]; exact HK.out
    obtain ⟨r1, r2, r3, r4⟩ := h2.pty e0 hk2l
    have f2 := (h2.soft e0).1 (k * 4 + 2)
    have P3 := hid (h2.put (k := k) (j := 2) (y := chargeP (pt S.l k)) (c := has k) (u := .int .i64 (wrap64 ((pt S.l k).h + 1))) e0 hk2l (by omega) (by rw [pt_set_self HK.out]; simp only [if_self_has]; rfl))
    rw [pt_set_self HK.out] at r3
    simp only at r3
    rw [EN.out] at e0
    have HB2 := hid ((HB1.out.mono hB).trans (((w1.below_past xq).mono (Nat.le_trans hB HB1.out.size)).trans hb2))
    have HK2 := hid (((KeptT.of_below HB1.out b (fun t => t = tQ)).trans (KeptT.of_below (w1.below_past xq) _ _)).trans hk2)
    clear h2 hb2 hk2 hk2l r1 r2 r4 q0 q1 q2 q3 q4 f9 ew2
    go_wp2_with fail
    go_ret
    obtain ⟨h3, hb3, hk3, _⟩ := P3.out
    simp only [List.set_set] at h3
    refine ⟨rfl, ?_, HB2.out.trans hb3, HK2.out.trans hk3⟩
    rw [HE.out]
    exact h3.same (fun i _ => by by_cases c : i = k <;> simp [c])
end Go.Proofs.YtookaodcdglhfaaDoor
