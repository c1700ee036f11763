/-
  Layer 37: the turns without an end: the iterator's contract. No condition.
-/
import Derived.Test.YtjhjkchcjpijaaaBring
import Derived.Test.YtjhjkchcjpijaaaHpR
import Derived.Test.YtjhjkchcjpijaaaPastIn
import Derived.Test.YtjhjkchcjpijaaaPastRd
import Derived.Test.YtjhjkchcjpijaaaNearL
import Derived.RangeFuncBox
import Derived.RangeFuncLeaves
import Derived.WalkKit
import Derived.OwnWalkIn
import Derived.TacticsInMore
import Derived.LoopNIn
import Derived.LoopIn
import Derived.Sort.LoopGhostIn
namespace Go.Proofs.Ytjhjkchcjpijaaa
open Go Go.RowKit HpI
attribute [local go_sem] Oper.semAt_some
theorem least_one {L : List It} (hnd : (L.map (·.id)).Nodup) {x y : It} (h1 : Least L x) (h2 : Least L y) : x = y := by
  have a := h1.2 y h2.1
  have b := h2.2 x h1.1
  obtain ⟨-, e⟩ := Hp.eq_of_nlt a b
  obtain ⟨i, hi, rfl⟩ := List.getElem_of_mem h1.1
  obtain ⟨j, hj, rfl⟩ := List.getElem_of_mem h2.1
  have := nodup_at hnd hi hj e.symm
  subst this
  rfl
def itsZ (k : Nat) : List It := (List.range k).map fun (i : Nat) => (⟨0, i, i⟩ : It)
theorem itsZ_succ (k : Nat) : itsZ (k + 1) = itsZ k ++ [⟨0, k, k⟩] := by simp [itsZ, List.range_succ]
theorem itsZ_id (k : Nat) : ¬ (k : Int) ∈ (itsZ k).map (·.id) := by
  simp [itsZ]
  omega
theorem itsZ_all (w : List Int) : itsZ w.length = itemsP (passF w 0) := by
  unfold itsZ itemsP passF
  rw [List.length_replicate]
  apply List.map_congr_left
  intro i hi
  simp only [List.mem_range] at hi
  simp [itP, atL, hi]
/-- The state between two rounds. -/
structure OrR (W : World) (b mb : Nat) (A3 : Option Addr) (c3 : Nat) (v : List Int) (P : List Int) (M0 : Nat → Prop) (wr : World) : Prop where
  hp : HP W.heap.size wr b mb 16 (itemsP P)
  row : wr.ownsRow W.heap.size 3 1 (.slice A3 v.length c3) v.length (i64s v)
  hF : ∀ k, hF b mb wr k → M0 k
  rM : ∀ g, (Value.slice A3 v.length c3).ownBlock = some g → M0 g
  size : ∀ k, M0 k → W.heap.size ≤ k ∧ k < wr.heap.size
abbrev encT (x : Int) : Array Value := #[.int .i64 x]
set_option maxRecDepth 100000 in
set_option maxHeartbeats 4000000 in
theorem order1_in (m : Nat) (hm : 1 ≤ m) (lp : Nat) (w0 : World) (Bx : Nat) (A : Option Addr) (n ca : Nat) (l : List Int) (en : l.length = n) (hca : n ≤ ca) (hmx : n ≤ maxLen) (T : Nat → Prop) (hBx : w0.cell? ⟨Bx, 0, none⟩ = some (.slice A n ca)) (hBT : ¬ T Bx)
    (hTw : ∀ k, T k → k < w0.heap.size) (hC : ∀ W, KS T w0 W → Cells W A (i64s l)) (N : Nat)
    (J Jx : (Nat → Prop) → List Int → World → Prop) (W : World) (hW : KS T w0 W)
    (hJ : ∀ M M' s A B, (∀ k, M' k → W.heap.size ≤ k) → (∀ k, M' k → M k ∨ A.heap.size ≤ k) → J M s A → KS M A B → J M' s B)
    (hN : ∀ M s A, J M s A → s.length < N)
    (hY : ∀ M pre x W1, Own2 M W.heap.size W1 → W.heap.size ≤ W1.heap.size → J M pre W1 → (l ≠ [] ∧ pre ++ [x] = turnsF (bringW l) (pre.length + 1)) → YieldAt Fence.wide (m - 1) Try.prog lp (encT x) W1 fun e W' =>
      (e = .returned (.bool true) ∧ J M (pre ++ [x]) W' ∧ KS (OT T w0.heap.size W.heap.size M) W1 W') ∨ (e = .returned (.bool false) ∧ Jx M (pre ++ [x]) W' ∧ KS (OT T w0.heap.size W.heap.size M) W1 W'))
    (h0 : ∀ M B, Own2 M W.heap.size B → Below W.heap.size W B → J M [] B) :
    CallsIn Fence.wide m Try.prog 18 #[.func (.yield lp) #[] #[], .pointer (some ⟨Bx, 0, none⟩)] W fun e W' => (∃ v, e = .returned v) ∧
      ((∃ M xs, (∀ k, M k → W.heap.size ≤ k) ∧ (xs = [] ∧ l = []) ∧ J M xs W') ∨ (∃ M pre, (∀ k, M k → W.heap.size ≤ k) ∧ (l ≠ [] ∧ pre = turnsF (bringW l) pre.length) ∧ Jx M pre W')) := by
  have cbx := hW.cell hBT hBx
  have HBR := hid (sbring_any A n ca l en hca W (hC W hW) hmx)
  have HTW := hid hTw
  have HSZ := hid hW.size
  have HY := hid hY
  have HJ := hid hJ
  have HN := hid hN
  have H0 := hid h0
  have hv16 := bringW_le l
  have HL0 := hid (show (bringW l).length = 0 → l = [] from fun h => by
    rw [bringW_length] at h
    exact List.eq_nil_of_length_eq_zero (by omega))
  have HNE := hid (show 0 < (bringW l).length → l ≠ [] from fun h e => by rw [e] at h; simp [bringW] at h)
  obtain ⟨v, ev⟩ : ∃ v, bringW l = v := ⟨_, rfl⟩
  rw [ev] at HBR HY HL0 HNE hv16 ⊢
  clear hBx hBT hTw hC hW hJ hN hY h0 ev en hca hmx
  refine callsIn_of_wp Try.func18 rfl trivial ?_ rfl
  simp only [Try.ntmps18, List.size_toArray, List.length_cons, List.length_nil, Nat.reduceAdd, Nat.reduceSub, Array.replicate_succ, Array.replicate_zero, List.push_toArray, List.append_toArray, List.nil_append, List.cons_append]
  gi_wp2_with fail
  refine (callsIn_wide.2 HBR.out).mono ?_
  rintro _ W2 ⟨A3, c3, rfl, hb2, ho2⟩
  have HB2 := hid hb2
  have HO2 := hid ho2
  clear hb2 ho2 HBR cbx
  gi_wp2_with fail
  refine (callsIn_wide.2 (New_any (B := W.heap.size) 16 W2 HB2.out.size)).mono ?_
  rintro _ W3 ⟨b, mb, rfl, hP3, hb3, -, -⟩
  rw [show mostH 16 = 16 from by decide] at hP3
  have hb23 := HB2.out.trans (hb3.mono HB2.out.size)
  have ho3 := own_below HO2.out hb3 (Nat.le_refl _)
  have HS3 : Hid (HP W.heap.size W3 b mb 16 (itsZ 0) ∧ W3.ownsRow W.heap.size 3 1 (.slice A3 v.length c3) v.length (i64s v) ∧ Below W.heap.size W W3) := hid ⟨hP3, ho3, hb23⟩
  obtain ⟨nv, env⟩ : ∃ nv, v.length = nv := ⟨_, rfl⟩
  rw [env] at hv16
  clear hP3 hb3 hb23 ho3
  gi_wp2_with fail
  gi_loopw [5, 16] (fun _ i wr => ∃ k : Nat, i = .int .i64 k ∧ k ≤ nv ∧ Hid (HP W.heap.size wr b mb 16 (itsZ k) ∧ wr.ownsRow W.heap.size 3 1 (.slice A3 v.length c3) v.length (i64s v) ∧ Below W.heap.size W wr)) (fun _ i _ => nv - natC i)
  case atStart => exact ⟨0, rfl, by omega, HS3⟩
  case round =>
    clear HS3
    obtain ⟨k, rfl, hk, hR⟩ := hrel
    by_cases hlt : k < nv
    · have HPU := hid (Push_any hR.out.1 (by decide) hR.out.2.2.size ⟨0, k, k⟩ (by show I64 (k : Int); unfold I64; omega))
      gi_wp2_with fail
      refine (callsIn_wide.2 HPU.out).mono ?_
      rintro _ W4 ⟨rfl, hP4, hb4, hg4⟩
      have hE : pushE (itsZ k) 16 (k : Int) = 0 := by unfold pushE; rw [if_neg (itsZ_id k), if_neg (by simp [itsZ]; omega)]
      have hL : pushL (itsZ k) 16 ⟨0, k, k⟩ = ⟨0, k, k⟩ :: itsZ k := by unfold pushL; rw [if_pos (show pushE (itsZ k) 16 (⟨0, k, k⟩ : It).id = 0 from hE)]
      rw [hL] at hP4
      have hR4 := hid (show HP W.heap.size W4 b mb 16 (itsZ (k + 1)) ∧ W4.ownsRow W.heap.size 3 1 (.slice A3 v.length c3) v.length (i64s v) ∧ Below W.heap.size W W4 from
        ⟨hP4.perm (by rw [itsZ_succ]; exact (List.perm_append_singleton _ _).symm), own_kept (X := hF b mb wr) hR.out.2.1 hg4.kept.block (fun g hg hf => by
          have e := own_ty hR.out.2.1 hg
          rcases hF_ty hR.out.1 hf with e' | e' | e' <;> (rw [e] at e'; first | cases e' | exact absurd e' (by decide))), hR.out.2.2.trans hb4⟩)
      clear hP4 hb4 hg4 hL HPU
      gi_wp2_with fail
      go_roundw
      case rel => exact ⟨k + 1, by go_num, by omega, hR4⟩
      case measure => simp [natC]; omega
    · obtain rfl : k = nv := by omega
      gi_wp2_with fail
      have hz := hR.out.1
      rw [← env, itsZ_all] at hz
      obtain ⟨M0, eM0⟩ : ∃ M0 : Nat → Prop, M0 = fun q => hF b mb wr q ∨ (Value.slice A3 v.length c3).ownBlock = some q := ⟨_, rfl⟩
      have hO : OrR W b mb A3 c3 v (passF v 0) M0 wr := ⟨hz, hR.out.2.1, fun q h => by rw [eM0]; exact .inl h, fun q h => by rw [eM0]; exact .inr h, fun q h => by
        rw [eM0] at h
        rcases h with h | h
        · exact hF_lt hz h
        · exact hR.out.2.1.lt q h⟩
      have hJ0 := H0.out M0 wr hO.size hR.out.2.2
      have HST : Hid (turnsF v 0 = [] ∧ OrR W b mb A3 c3 v (passF v 0) M0 wr) := hid ⟨rfl, hO⟩
      have HZW := hid hR.out.2.2.size
      clear hO hz hR hk hlt eM0 HB2 HO2
      gi_loopg [7] N (fun q _ wr => ∃ (M : Nat → Prop) (s : List Int), J M s wr ∧ Hid (q + s.length = N ∧ s = turnsF v s.length ∧ OrR W b mb A3 c3 v (passF v s.length) M0 wr ∧ (∀ k, M0 k → M k) ∧ (∀ k, M k → W.heap.size ≤ k) ∧ (v.length = 0 → s = [])))
      case atStart => exact ⟨M0, [], hJ0, hid ⟨rfl, rfl, HST.out.2, fun _ h => h, fun q h => (HST.out.2.size q h).1, fun _ => rfl⟩⟩
      case round =>
        obtain ⟨M, s, hJs, hR⟩ := hrel
        obtain ⟨P, eP⟩ : ∃ P, passF v s.length = P := ⟨_, rfl⟩
        have hPl : P.length = k := by rw [← eP, pass_length, env]
        have HPU := hid (show ∀ q, U64 (atL P q) by rw [← eP]; exact pass_u64 _)
        have hO : OrR W b mb A3 c3 v P M0 wr := by rw [← eP]; exact hR.out.2.2.1
        have HO := hid hO
        have HPL := hid hPl
        have EP := hid eP
        have ENV := hid env
        clear hJ0 HST HZW env eP hO
        by_cases hk0 : 0 < k
        · have HPK := hid (Peek_some HO.out.hp (by rw [itemsP_length, hPl]; exact hk0))
          have HLT := hid (show turnF v s.length < v.length from turn_lt (by rw [ENV.out]; exact hk0) _)
          have HTI := hid (show pickP P = turnF v s.length by rw [← EP.out]; rfl)
          have HPI := hid (show pickP P < P.length from pickP_lt (by rw [hPl]; exact hk0))
          have HLE := hid (least_pick (P := P) (by rw [hPl]; exact hk0))
          clear hPl hk0
          gi_wp2_with fail
          refine (callsIn_wide.2 HPK.out).mono ?_
          rintro _ W4 ⟨x, hx, rfl, hb4⟩
          have hxe : x = itP P (pickP P) := least_one HO.out.hp.good.nd hx HLE.out
          subst hxe
          obtain ⟨i, ei⟩ : ∃ i, pickP P = i := ⟨_, rfl⟩
          have EI := hid ei
          rw [ei] at HLE HPI
          obtain ⟨pv, epv⟩ : ∃ pv, atL P i = pv := ⟨_, rfl⟩
          have EPV := hid epv
          have exx : itP P (pickP P) = ⟨pv, i, i⟩ := by rw [ei]; unfold itP; rw [epv]
          rw [exx]
          obtain ⟨g, eg⟩ : ∃ g, W4.heap.size = g := ⟨_, rfl⟩
          obtain ⟨W5, eW5⟩ : ∃ W5, W5 = W4.alloc (.cells #[.int .u64 pv, .int .i64 i] 47) := ⟨_, rfl⟩
          have hb5' : Below W4.heap.size W4 W5 := by rw [eW5]; exact (Below.refl _ _).alloc (Nat.le_refl _) _
          have hb5 : Below wr.heap.size wr W5 := hb4.trans (hb5'.mono hb4.size)
          have hg5 : Rec W5 g 47 #[.int .u64 pv, .int .i64 i] := by rw [eW5, ← eg]; exact Rec.new _ _ _
          have hgw : wr.heap.size ≤ g := by rw [← eg]; exact hb4.size
          obtain ⟨M', eM'⟩ : ∃ M' : Nat → Prop, M' = fun q => M0 q ∨ q = g := ⟨_, rfl⟩
          have hM0 : ∀ q, M0 q → M' q := fun q h => by rw [eM']; exact .inl h
          have hMg : M' g := by rw [eM']; exact .inr rfl
          have hMr : ∀ q, M' q → W.heap.size ≤ q := fun q h => by
            rw [eM'] at h
            rcases h with h | h
            · exact (HO.out.size q h).1
            · have := HO.out.hp.lt; have := (HO.out.size b (HO.out.hF b (.inl rfl))).1; omega
          have hO2 : Own2 M' W.heap.size W5 := fun q h => ⟨hMr q h, by
            rw [eM'] at h
            rcases h with h | h
            · have := (HO.out.size q h).2; have := hb5.size; omega
            · rw [h]; exact hg5.lt⟩
          have hJ5 := HJ.out M M' s wr W5 hMr (fun q h => by
            rw [eM'] at h
            rcases h with h | h
            · exact .inl (hR.out.2.2.2.1 q h)
            · exact .inr (by omega)) hJs (KS.of_below hb5)
          have hWW : W.heap.size ≤ W5.heap.size := by have := hO2 g hMg; omega
          have hpre : s ++ [(i : Int)] = turnsF v (s.length + 1) := by rw [turns_succ, ← hR.out.2.1, ← HTI.out, EI.out]
          obtain ⟨fy, ty, asy, bdy, hyy, hRy⟩ := HY.out M' s i W5 hO2 hWW hJ5 ⟨HNE.out (by have h1 := HPI.out; rw [HPL.out, ← ENV.out] at h1; omega), hpre⟩
          simp only [encT] at hyy
          have c0 := Rec.cell hg5 0
          have c1 := Rec.cell hg5 1
          simp at c0 c1
          have HRY := hid hRy
          have HG5 := hid hg5
          have HB5 := hid hb5
          have HMM := hid (And.intro hM0 (And.intro hMg hMr))
          have HPRE := hid hpre
          have EW5 := hid eW5
          have EG := hid eg
          clear hRy hg5 hb5 hb5' hM0 hMg hMr hO2 hJ5 hpre eW5 hWW eM' hb4 hx HPK exx epv ei hJs hgw
          gi_wp2_with fail
          rw [← EW5.out, hyy]
          gi_wp2_with ((refine HRY.out.mono ?_; rintro e W6 hE; obtain ⟨bb, eE, hE2⟩ := yield_two' hE; clear hE; subst eE))
          · rename_i hb
            rcases hE2 with ⟨rfl, _⟩ | ⟨rfl, hJx, hk6⟩
            · cases hb
            · refine bodyPost_ret (results_none rfl _ _ _) rfl ?_
              have hl : (s ++ [(i : Int)]).length = s.length + 1 := by simp
              exact ⟨⟨_, rfl⟩, .inr ⟨M', s ++ [(i : Int)], HMM.out.2.2, ⟨HNE.out (by have h1 := HPI.out; rw [HPL.out, ← ENV.out] at h1; omega), by rw [hl]; exact HPRE.out⟩, hJx⟩⟩
          · rcases hE2 with ⟨rfl, hJ6, hk6⟩ | ⟨rfl, _⟩
            · have hnX : ∀ q, M' q → ¬ OT T w0.heap.size W.heap.size M' q := fun q hq => by
                have h1 := HMM.out.2.2 q hq
                rintro ((h | h) | h)
                · have := HTW.out q h; have := HSZ.out; omega
                · omega
                · exact h.2 hq
              obtain ⟨hP5, hF5⟩ := HO.out.hp.ks (X := fun _ => False) (KS.of_below HB5.out) (fun _ _ h => h)
              obtain ⟨hP6, hF6⟩ := hP5.ks hk6 (fun q hq => hnX q (HMM.out.1 q (HO.out.hF q (hF5 q hq))))
              have hg6 : Rec W6 g 47 #[.int .u64 pv, .int .i64 i] := (hk6.block g HG5.out.lt (hnX g HMM.out.2.1)).trans HG5.out
              have hr6 : W6.ownsRow W.heap.size 3 1 (.slice A3 v.length c3) v.length (i64s v) := own_kept (X := OT T w0.heap.size W.heap.size M') (own_below HO.out.row HB5.out (Nat.le_refl _)) hk6.block (fun q hq => hnX q (HMM.out.1 q (HO.out.rM q hq)))
              have hiv : i < v.length := by have h1 := HPI.out; rw [HPL.out, ← ENV.out] at h1; exact h1
              obtain ⟨gr, offr, ea3, cw⟩ := i64_at (Cells.of_own hr6) hiv
              have hcore := core_in (atL v i)
              have HCO := hid (fun W => Core_any (atL v i) W)
              have HAD := hid (fun W => Add_any pv (coreF (atL v i)) (by have := HPU.out i; rw [EPV.out] at this; exact this) (by unfold U64; omega) W)
              have c0 := Rec.cell hg6 0
              have c1 := Rec.cell hg6 1
              have hgl := hg6.lt
              simp at c0 c1
              obtain ⟨cv, ecv⟩ : ∃ cv, atL v i = cv := ⟨_, rfl⟩
              rw [ecv] at cw HCO HAD
              obtain ⟨co, eco⟩ : ∃ co, coreF cv = co := ⟨_, rfl⟩
              rw [eco] at HCO HAD
              obtain ⟨pp, epp⟩ : ∃ pp, addF pv co = pp := ⟨_, rfl⟩
              have hik : (i : Int) < k := by have h1 := HPI.out; rw [HPL.out] at h1; omega
              have hi0 : (0 : Int) ≤ i := by omega
              have HSTEP := hid (show passF v (s.length + 1) = P.set i pp by
                show stepP v (passF v s.length) = _
                rw [EP.out]
                unfold stepP
                rw [EI.out, EPV.out, ecv, eco, epp])
              have HP6 := hid (And.intro hP6 (And.intro hF5 hF6))
              have HG6 := hid hg6
              have HR6 := hid hr6
              have HJ6 := hid hJ6
              have HK6 := hid hk6
              subst ea3
              clear hP5 hF5 hP6 hF6 hg6 hr6 hJ6 hk6 hnX hcore ecv eco hiv c0 c1
              have c0 := Rec.cell HG6.out 0
              have c1 := Rec.cell HG6.out 1
              simp at c0 c1
              gi_wp2_with fail
              refine wpIn_region_pastR (by kernel_rfl) (by kernel_rfl) (by kernel_rfl) ?_
              repeat (gi_big_quiet_step ((first | (gi_at_call 24; with_reducible exact CallsIn.past_wide ((HCO.out _))) | (gi_at_call 23; with_reducible exact CallsIn.past_wide ((HAD.out _))) | (gi_at_call 24; exact CallsIn.past_wide ((HCO.out _))) | (gi_at_call 23; exact CallsIn.past_wide ((HAD.out _))))))
              refine wpQuietIn_nil ?_
              rintro _ ⟨xq, rfl⟩
              gi_wp2_with fail
              have hxp := W6.below_past xq
              have hP7 := HP6.out.1.far hxp
              obtain ⟨-, hF7⟩ := HP6.out.1.ks (X := fun _ => False) (KS.of_below hxp) (fun _ _ h => h)
              have hBW6 : W.heap.size ≤ (W6.past xq).heap.size := by have := hP7.lt; have := (hF_lt hP7 (.inl rfl)).1; omega
              have hmv := Move_some hP7 (itP P i) (List.mem_of_getElem? (itemsP_get HPI.out)) pp ((itemsP P).eraseIdx i) (items_perm HPI.out) hBW6
              refine (callsIn_wide.2 hmv).mono ?_
              rintro _ W8 ⟨rfl, hP8, hb8, hk8⟩
              have hP9 : HP W.heap.size W8 b mb 16 (itemsP (P.set i pp)) := hP8.perm (items_moved HPI.out pp)
              have hF9 : ∀ q, hF b mb W8 q → M0 q := fun q hq => HO.out.hF q (HP6.out.2.1 q (HP6.out.2.2 q (hF7 q (hF_kept hk8 hq))))
              have hkM : KS M' W6 W8 := (KS.of_below hxp).trans (hk8.ks (M := M') fun q hq => HMM.out.1 q (HO.out.hF q (HP6.out.2.1 q (HP6.out.2.2 q (hF7 q hq)))))
              have hr9 : W8.ownsRow W.heap.size 3 1 (.slice (some ⟨gr, offr, none⟩) v.length c3) v.length (i64s v) :=
                own_kept (X := hF b mb (W6.past xq)) (own_below HR6.out hxp (Nat.le_refl _)) hk8.kept.block (fun q hq hf => by
                  have e := own_ty (own_below HR6.out hxp (Nat.le_refl _)) hq
                  rcases hF_ty hP7 hf with e' | e' | e' <;> (rw [e] at e'; first | cases e' | exact absurd e' (by decide)))
              have hl : (s ++ [(i : Int)]).length = s.length + 1 := by simp
              have hO9 : OrR W b mb (some ⟨gr, offr, none⟩) c3 v (passF v (s.length + 1)) M0 W8 := ⟨by rw [HSTEP.out]; exact hP9, hr9, hF9, HO.out.rM, fun q hq => ⟨(HO.out.size q hq).1, by have := (HO.out.size q hq).2; have := HB5.out.size; have := HK6.out.size; have := hkM.size; omega⟩⟩
              have hJ9 := HJ.out M' M' _ W6 W8 HMM.out.2.2 (fun _ h => .inl h) HJ6.out hkM
              have hlt9 := HN.out _ _ _ hJ9
              have HREL : Hid (J M' (s ++ [(i : Int)]) W8 ∧ (gk - 1) + (s ++ [(i : Int)]).length = N ∧ s ++ [(i : Int)] = turnsF v (s ++ [(i : Int)]).length ∧ OrR W b mb (some ⟨gr, offr, none⟩) c3 v (passF v (s ++ [(i : Int)]).length) M0 W8 ∧ (∀ k, M0 k → M' k) ∧ (∀ k, M' k → W.heap.size ≤ k) ∧ (v.length = 0 → s ++ [(i : Int)] = [])) := by
                refine hid ⟨hJ9, ?_, by rw [hl]; exact HPRE.out, by rw [hl]; exact hO9, HMM.out.1, HMM.out.2.2, fun h => ?_⟩
                · have := hR.out.1; omega
                · have h1 := HPI.out; rw [HPL.out, ← ENV.out, h] at h1; omega
              have HGK := hid (show gk - 1 < gk by have := hR.out.1; omega)
              clear hP7 hF7 hBW6 hP8 hb8 hk8 hP9 hF9 hkM hr9 hl hO9 hJ9 hlt9 hxp hmv
              gi_wp2_with fail
              gi_roundg (gk - 1)
              case measure => exact HGK.out
              case rel => exact ⟨M', s ++ [(i : Int)], HREL.out.1, hid HREL.out.2⟩
            · exact absurd (by assumption : (!false) = false) (by decide)
        · obtain rfl : k = 0 := by omega
          have hv0 : v.length = 0 := ENV.out
          have hP0 : P = [] := List.eq_nil_of_length_eq_zero hPl
          subst hP0
          have hs0 : s = [] := hR.out.2.2.2.2.2 hv0
          subst hs0
          have HPK := hid (Peek_none (b := b) (mb := mb) (w := wr) (most := 16) (B := W.heap.size) HO.out.hp)
          have HV0 := hid (HL0.out hv0)
          clear hv0 hPl
          gi_wp2_with ((gi_at_call 22; refine (callsIn_wide.2 HPK.out).mono ?_; rintro _ _ ⟨rfl, x9, rfl⟩))
          refine bodyPost_ret (results_none rfl _ _ _) rfl ?_
          have hb := (wr.below_past x9).trans (((Below.refl _ (wr.past x9)).alloc (Nat.le_refl _) (.cells #[.int .u64 0, .int .i64 0] 47)).mono (wr.below_past x9).size)
          exact ⟨⟨_, rfl⟩, .inl ⟨M, [], hR.out.2.2.2.2.1, ⟨rfl, HV0.out⟩, HJ.out M M [] wr _ hR.out.2.2.2.2.1 (fun _ h => .inl h) hJs (KS.of_below hb)⟩⟩
end Go.Proofs.Ytjhjkchcjpijaaa
