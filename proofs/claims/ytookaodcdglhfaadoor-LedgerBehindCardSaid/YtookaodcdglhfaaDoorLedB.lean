/-
  Layer 18: the product's ledger: a new one, and another weight. No condition.
-/
import Derived.Test.YtookaodcdglhfaaDoorLedA
import Derived.Test.YtookaodcdglhfaaDoorPushB
import Derived.Deep.RegionLaw
namespace Go.Proofs.YtookaodcdglhfaaDoor
open Go.RowKit
set_option maxHeartbeats 400000 in
theorem lbring_any (n most : Int) (hm : 1 ≤ most) (w : World) : Calls Tryd.prog 27 #[.int .i64 n, .int .i64 most] w (fun e w' => e = .returned (.int .i64 (bringF n 1 most)) ∧ w' = w) := by
  go_enter Tryd.func27, Tryd.ntmps27
  go_wp2
  all_goals (go_ret; refine ⟨?_, rfl⟩; simp [bringF]; omega)
theorem lbring_gives (n most : Int) (hm : 1 ≤ most) (w : World) : Calls Tryd.prog 27 #[.int .i64 n, .int .i64 most] w (Gives (.int .i64 (bringF n 1 most)) w) :=
  (lbring_any n most hm w).mono fun _ _ ⟨h1, h2⟩ => by subst h2; subst h1; exact Gives.refl rfl
set_option maxHeartbeats 2000000 in
theorem Weigh_any {B b : Nat} {w : World} {S : Lg} (hS : OkG S) (h : LgAt B w b S) (p nw : Int) (hB : B ≤ w.heap.size) : Calls Tryd.prog 16 #[.pointer (some ⟨b, 0, none⟩), .int .i64 p, .int .i64 nw] w (LgP B b (weighF S p nw) (.bool (isP S.l p)) w) := by
  have HI := hid (is_any h p)
  cases e : isP S.l p with
  | false =>
    have HE := hid (show weighF S p nw = S by unfold weighF; rw [e]; rfl)
    rw [e] at HI
    have HH := hid h
    clear e h
    go_enter Tryd.func16, Tryd.ntmps16
    go_wp2_with (go_at_call 28; refine HI.out.mono ?_; rintro _ _ ⟨rfl, x1, rfl⟩)
    go_ret
    exact ⟨rfl, by rw [HE.out]; exact HH.out.past _, (w.below_past _).mono hB, KeptT.of_below (w.below_past _) _ _⟩
  | true =>
    obtain ⟨h0, h1⟩ := isP_iff.1 e
    obtain ⟨k, rfl⟩ := Int.eq_ofNat_of_zero_le h0
    have hk : k < S.l.length := by omega
    have HE := hid (show weighF S k nw = { S with l := S.l.set k (weighP S.sl S.fl nw (pt S.l k)) } by unfold weighF; rw [e]; rfl)
    have HK := hid hk
    obtain ⟨hv, hw⟩ := hS.at hk
    obtain ⟨s1, s2⟩ := hS.sl
    have HR := hid (fun W => lbring_any nw 16 (by omega) W)
    obtain ⟨nb, enb⟩ : ∃ nb, bringF nw 1 16 = nb := ⟨_, rfl⟩
    have HWP := hid (show weighP S.sl S.fl nw (pt S.l k) = if nb = (pt S.l k).w then pt S.l k else ⟨nb, clampF (pt S.l k).v S.fl (reach nb S.sl), (pt S.l k).h⟩ by unfold weighP; rw [enb])
    have HC := hid (fun W => Clamp_any (pt S.l k).v S.fl (IntKind.u64.wrap (lockF nb * S.sl)) hS.fl (wrap_u64_word _) W)
    have HL := hid (fun W => Lock_any nb W)
    have HL0 := hid (lock_in nb)
    rw [enb] at HR
    obtain ⟨n, en⟩ : ∃ n, S.l.length = n := ⟨_, rfl⟩
    have hkn : k < n := by omega
    have HH := hid h
    have EN := hid en
    rw [e] at HI
    clear e h en h0 h1 hv hw hk hS enb
    go_enter Tryd.func16, Tryd.ntmps16
    go_wp2_with fail
    refine HI.out.mono ?_
    rintro _ _ ⟨rfl, x1, rfl⟩
    obtain ⟨w1, ew1⟩ : ∃ w1, w1 = w.past x1 := ⟨_, rfl⟩
    have hb1 : Below w.heap.size w w1 := by rw [ew1]; exact w.below_past x1
    rw [← ew1]
    have h1 := HH.out.far hb1
    obtain ⟨g, cap, q0, q1, q2, q3⟩ := h1.party HK.out
    have HQ := hid q0
    have f0 := (h1.soft q0).1 (k * 3)
    have H1 := hid h1
    have HB1 := hid hb1
    rw [EN.out] at q0
    clear h1 hb1 ew1
    by_cases hne : nb = (pt S.l k).w
    · have hb : (nb != (pt S.l k).w) = false := by simp [hne]
      have HW2 := hid (show weighP S.sl S.fl nw (pt S.l k) = pt S.l k by rw [HWP.out, if_pos hne])
      have HS2 := hid (show S.l.set k (pt S.l k) = S.l by
        apply List.ext_getElem?
        intro j
        by_cases hj : k = j
        · subst hj; rw [List.getElem?_set_self HK.out, pt_at HK.out]
        · rw [List.getElem?_set_ne hj])
      clear hne HWP
      go_wp2_with (go_at_call 27; refine (HR.out _).mono ?_; rintro _ w9 ⟨rfl, h9⟩; rw [h9])
      go_ret
      exact ⟨rfl, by rw [HE.out, HW2.out, HS2.out]; exact H1.out, HB1.out.mono hB, KeptT.of_below HB1.out _ _⟩
    · have hb : (nb != (pt S.l k).w) = true := by simp [hne]
      have HW2 := hid (show weighP S.sl S.fl nw (pt S.l k) = ⟨nb, clampF (pt S.l k).v S.fl (reach nb S.sl), (pt S.l k).h⟩ by rw [HWP.out, if_neg hne])
      have P2 := H1.out.put (k := k) (j := 0) (y := ⟨nb, (pt S.l k).v, (pt S.l k).h⟩) (u := .int .i64 nb) HQ.out HK.out (by omega) rfl
      rw [Nat.add_zero] at P2
      have HP2 := hid P2
      clear hne HWP P2
      go_wp2_with (go_at_call 27; refine (HR.out _).mono ?_; rintro _ w9 ⟨rfl, h9⟩; rw [h9])
      clear h9 w9
      obtain ⟨w2, ew2⟩ : ∃ w2, w2 = w1.setCell ⟨g, k * 3, none⟩ (.int .i64 nb) := ⟨_, rfl⟩
      rw [← ew2] at HP2 ⊢
      obtain ⟨h2, hb2, hk2, e0⟩ := HP2.out
      have hk2l : k < (S.l.set k ⟨nb, (pt S.l k).v, (pt S.l k).h⟩).length := by rw [List.length_set]; exact HK.out
      obtain ⟨_, r2, _⟩ := h2.pty e0 hk2l
      rw [pt_set_self HK.out] at r2
      obtain ⟨t1, _, t3, _⟩ := h2.rest
      simp only at r2 t1 t3
      have H2 := hid h2
      have E0 := hid e0
      have HK2L := hid hk2l
      have hl0 := HL0.out
      have e1 : IntKind.u64.wrap S.sl = S.sl := by rw [IntKind.wrap_u64]; omega
      have HB2 := hid ((HB1.out.mono hB).trans hb2)
      have HK2 := hid ((KeptT.of_below HB1.out b (fun t => t = tP)).trans hk2)
      have hs2 : B ≤ w2.heap.size := Nat.le_trans hB HB2.out.size
      clear h2 hb2 hk2 hk2l ew2 e0 f0 q0 q1 q2 q3
      refine wp_region_to (C := fun w' => ∃ x : Past, w' = w2.past x) 18 3 (by kernel_rfl) (by kernel_rfl) rfl (by kernel_rfl) (past_of ⟨rfl, rfl, rfl, Nat.le_refl _, fun _ _ => rfl⟩) ?_
      simp only [List.take_succ_cons, List.take_zero]
      repeat (go_big_quiet_step ((first | (go_at_call 30; first | with_reducible exact Calls.in_past (HL.out _) | with_reducible exact Calls.in_past2 (HL.out _)) | (go_at_call 35; first | with_reducible exact Calls.in_past (HC.out _) | with_reducible exact Calls.in_past2 (HC.out _)) | (go_at_call 30; first | exact Calls.in_past (HL.out _) | exact Calls.in_past2 (HL.out _)) | (go_at_call 35; first | exact Calls.in_past (HC.out _) | exact Calls.in_past2 (HC.out _)))))
      refine wpQuiet_nil ?_
      rintro _ ⟨xq, rfl⟩
      refine wpAny_take (i := 18) (v := ?_) rfl (by kernel_rfl) (by kernel_rfl) (by kernel_rfl) (fun _ _ _ h => h) (Or.inl ⟨by rfl, ?_⟩) ?_
      rotate_left
      · intro w; go_simp; try with_reducible rfl
      refine wpAny_take (i := 19) (v := ?_) rfl (by kernel_rfl) (by kernel_rfl) (by kernel_rfl) (fun _ _ _ h => h) (Or.inl ⟨by rfl, ?_⟩) ?_
      rotate_left
      · intro w; go_simp; try with_reducible rfl
      have q0' := below_cell (w2.below_past xq) (Nat.le_refl _) _ _ E0.out
      have f1 := ((H2.out.past xq).soft q0').1 (k * 3 + 1)
      have P3 := hid ((H2.out.past xq).put (k := k) (j := 1) (y := ⟨nb, clampF (pt S.l k).v S.fl (IntKind.u64.wrap (lockF nb * S.sl)), (pt S.l k).h⟩) (u := .int .u64 (clampF (pt S.l k).v S.fl (IntKind.u64.wrap (lockF nb * S.sl)))) q0' HK2L.out (by omega) (by rw [pt_set_self HK.out]; rfl))
      clear q0'
      refine wpAny_ready (rs := [20]) (by kernel_rfl) (by simp) ?_
      refine AllReady.cons rfl (fun K hK => ?_) AllReady.nil
      go_simp
      refine hK _ _ ?_
      clear hK K
      refine wpAny_done (by kernel_rfl) ?_ _
      go_wp2_with fail
      go_ret
      obtain ⟨h3, hb3, hk3, _⟩ := P3.out
      simp only [List.set_set] at h3
      exact ⟨rfl, by rw [HE.out, HW2.out]; exact h3, HB2.out.trans (((w2.below_past xq).mono hs2).trans hb3), HK2.out.trans ((KeptT.of_below (w2.below_past xq) _ _).trans hk3)⟩
end Go.Proofs.YtookaodcdglhfaaDoor
