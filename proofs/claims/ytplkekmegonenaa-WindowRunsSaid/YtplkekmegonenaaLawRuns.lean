/-
  Layer 35's WindowRuns: whatever is pushed, a window holds the last ones, tells what falls out, and the greatest and the least of them. No condition.
-/
import Derived.Test.YtplkekmegonenaaWinL
import Derived.Test.YtplkekmegonenaaWinG
import Derived.Test.YtplkekmegonenaaAwake
import Derived.StillTailTactics
import Derived.Deep.RegionHeld3
namespace Go.Proofs.Ytplkekmegonenaa
open Go.RowKit Go.ChangeShapes Go.WideShapes Go.ChangeAt
theorem WAt.ptr {B b m : Nat} {w : World} {S : Wn} (h : WAt B w b m S) : PtrA w (some ⟨b, 0, none⟩) S.l := by
  obtain ⟨vl, vh, vw, h⟩ := h
  obtain ⟨A, c, rfl⟩ := h.rl.shape
  exact .inr ⟨b, A, c, rfl, Rec.lt h.rec_, by rw [Rec.cell h.rec_ 2]; rfl, h.rl.cells⟩
/-- What the law asks of the window behind a push. -/
structure Asks (b : Nat) (u k : Nat) (A : Option Addr) (c : Nat) (lo hi : Int) (W : World) : Prop where
  ends : Calls Try.prog 8 #[.slice A u c] W (Gives (.tuple #[.int .i64 lo, .int .i64 hi]) W)
  mx : ∀ x, Calls Try.prog 9 #[.pointer (some ⟨b, 0, none⟩)] (W.past x) (Gives (.tuple #[.int .i64 hi, .bool true]) (W.past x))
  mn : ∀ x, Calls Try.prog 10 #[.pointer (some ⟨b, 0, none⟩)] (W.past x) (Gives (.tuple #[.int .i64 lo, .bool true]) (W.past x))
  len : ∀ x, Calls Try.prog 11 #[.pointer (some ⟨b, 0, none⟩)] (W.past x) (Gives (.int .i64 u) (W.past x))
  seen : ∀ x, Calls Try.prog 12 #[.pointer (some ⟨b, 0, none⟩)] (W.past x) (Gives (.int .i64 ((k : Int) + 1)) (W.past x))
  all : ∀ x, Calls Try.prog 13 #[.pointer (some ⟨b, 0, none⟩), .slice A u c] (W.past x) (Gives (.bool true) (W.past x))
theorem asks_any {B b m k u : Nat} {l : List Int} {S : Wn} {A : Option Addr} {c : Nat} {w W : World} (hm : 1 ≤ m) (hk : k < l.length) (h100 : l.length ≤ 100) (hS : IsW m l (k + 1) S) (hu : (lastF (l.take (k + 1)) m).length = u)
    (h : WAt B W b m S) (hc : Cells w A (i64s (lastF (l.take (k + 1)) m))) (hb : Below w.heap.size w W) :
    Asks b u k A c (lowE (lastF (l.take (k + 1)) m) u) (highE (lastF (l.take (k + 1)) m) u) W := by
  have e := last_len (m := m) (k := k + 1) (L := l) (by omega)
  have ehi := hS.high hm (by omega) (by omega)
  have elo := hS.low hm (by omega) (by omega)
  rw [← e, hu] at ehi elo
  have hx : ∀ x, WAt B (W.past x) b m S := fun x => h.far (W.below_past x)
  have hcx : ∀ x, Cells (W.past x) A (i64s (lastF (l.take (k + 1)) m)) := fun x => (hc.below hb).past x
  refine ⟨Ends_any A c u _ hu (by omega) _ (hc.below hb), fun x => ?_, fun x => ?_, fun x => ?_, fun x => ?_, fun x => ?_⟩
  · have := Max_any (hx x); rwa [ehi] at this
  · have := Min_any (hx x); rwa [elo] at this
  · have := Len_any (hx x); rwa [hS.l, hu] at this
  · have := Seen_any (hx x); rw [hS.seen] at this; exact this
  · refine all_any _ A c u _ hu (by omega) _ ?_ (hcx x)
    have := (hx x).ptr
    rwa [hS.l] at this
set_option maxRecDepth 100000 in
set_option maxHeartbeats 2000000 in
theorem WindowRuns_any (most : Int) (A : Option Addr) (ca n : Nat) (l : List Int) (en : l.length = n) (hcap : n ≤ ca) (hmx : n ≤ maxLen) (w : World) (hc : Cells w A (i64s l)) :
    Calls Try.prog 3 #[.int .i64 most, .slice A n ca] w (Gives (.bool true) w) := by
  have HAW := hid (awake_any w)
  by_cases h100 : 100 < n
  · clear en hc hcap
    go_enter Try.func3, Try.ntmps3
    go_wp2_with ((go_at_call 4; refine (HAW.out).mono ?_; rintro _ _ ⟨rfl, _, rfl⟩))
    go_ret
    exact Gives.mk rfl (World.below_past _ _)
  · have EN := hid en
    have HC := hid hc
    have HCAP := hid hcap
    obtain ⟨_, hm1, hm2⟩ := mostW_is most
    clear en hc hcap
    go_enter Try.func3, Try.ntmps3
    go_wp2_with fail
    refine HAW.out.mono ?_
    rintro _ _ ⟨rfl, x0, rfl⟩
    go_wp2_with fail
    refine (New_any w.heap.size most (w.past x0) (w.below_past x0).size).mono ?_
    rintro _ w1 ⟨b, rfl, h1, hb1⟩
    obtain ⟨m, em⟩ : ∃ m, mostW most = m := ⟨_, rfl⟩
    rw [em] at h1 hm1 hm2
    have EM := hid em
    have J1 := hid (show WAt w.heap.size w1 b m (runW m l 0) from h1)
    have JB := hid (show Below w.heap.size w w1 from below_trans' (w.below_past x0) hb1)
    clear h1 hb1 HAW em
    go_wp2_with fail
    go_loopw [35] (fun i wr => ∃ (k : Nat), i = .int .i64 k ∧ k ≤ n ∧ Hid (WAt w.heap.size wr b m (runW m l k)) ∧ Hid (Below w.heap.size w wr)) (fun i _ => n - natW i)
    case atStart => exact ⟨0, rfl, by omega, J1, JB⟩
    case round =>
      clear J1 JB
      obtain ⟨k, rfl, hk, HW, HB⟩ := hrel
      by_cases hlt : k < n
      · obtain ⟨b1, o1, rfl, c0⟩ := i64_at (HC.out.below HB.out) (show k < l.length by rw [EN.out]; exact hlt)
        have L1 := hid (fun W => Last_any (some ⟨b1, o1, none⟩) ca k (l.take k) (by rw [List.length_take, EN.out]; omega) (by omega) (Nat.le_trans hk HCAP.out) most w W (by have := HC.out.take k; simpa [i64s, List.map_take] using this))
        have L2 := hid (fun W => Last_any (some ⟨b1, o1, none⟩) ca (k + 1) (l.take (k + 1)) (by rw [List.length_take, EN.out]; omega) (by omega) (Nat.le_trans hlt HCAP.out) most w W (by have := HC.out.take (k + 1); simpa [i64s, List.map_take] using this))
        rw [EM.out] at L1 L2
        have IW := hid (run_is l hm1 k (by rw [EN.out]; exact hk))
        have PU := hid (Push_any w.heap.size b m ⟨hm1, hm2⟩ (runW m l k) (by rw [IW.out.seen]; omega) (by rw [IW.out.l, last_len (by rw [EN.out]; exact hk)]; omega) (by have := IW.out.nh; omega) (by have := IW.out.nw; omega) (atL l k) wr HW.out HB.out.size)
        have AS := hid (fun W (h : WAt w.heap.size W b m (pushW m (runW m l k) (atL l k)).1) (hb : Below w.heap.size w W) A2 c2 u hu hc2 => asks_any (A := A2) (c := c2) (u := u) hm1 (show k < l.length by rw [EN.out]; exact hlt) (by rw [EN.out]; omega) (IW.out.push hm1 (by rw [EN.out]; exact hlt)) hu h hc2 hb)
        have FE := hid (IW.out.fell hm1 (show k < l.length by rw [EN.out]; exact hlt))
        have EL1 := hid (last_len (m := m) (k := k) (L := l) (by rw [EN.out]; exact hk))
        have EL2 := hid (last_len (m := m) (k := k + 1) (L := l) (by rw [EN.out]; exact hlt))
        have RW := hid (show runW m l (k + 1) = (pushW m (runW m l k) (atL l k)).1 from rfl)
        have hca : (k : Int) ≤ ca := by have := HCAP.out; omega
        have hca1 : (k : Int) + 1 ≤ ca := by have := HCAP.out; omega
        go_wp2_with fail
        refine (L1.out _).mono ?_
        rintro _ _ ⟨rfl, A1, c1, rfl, hc1⟩
        rw [EL1.out]
        go_wp2_with fail
        refine (L2.out _).mono ?_
        rintro _ _ ⟨rfl, A2, c2, rfl, hc2⟩
        rw [EL2.out]
        go_wp2_with fail
        refine PU.out.mono ?_
        rintro _ wp ⟨rfl, hW, hbW⟩
        have AS2 := hid (AS.out wp hW (HB.out.trans hbW) A2 c2 _ EL2.out hc2)
        have HB2 := hid (HB.out.trans hbW)
        have HW2 := hid hW
        clear AS PU L1 L2 hW hbW hc2 c0 HW HB hm2
        obtain ⟨lo, elo⟩ : ∃ lo, lowE (lastF (l.take (k + 1)) m) (min (k + 1) m) = lo := ⟨_, rfl⟩
        obtain ⟨hi, ehi⟩ : ∃ hi, highE (lastF (l.take (k + 1)) m) (min (k + 1) m) = hi := ⟨_, rfl⟩
        rw [elo, ehi] at AS2
        clear elo ehi
        rcases FE.out with ⟨hf, e⟩ | ⟨hf, e⟩
        · rw [e]
          obtain ⟨u, eu⟩ : ∃ u, k + 1 = u := ⟨_, rfl⟩
          rw [show min k m = k by omega, show min (k + 1) m = u by omega] at *
          have hne : ((u : Int) == (k : Int)) = false := by simp; omega
          clear e EL1 EL2 FE hc1 hf eu hm1
          go_wp2_with (first | (go_at_call 8; refine (AS2.out.ends).mono ?_; rintro _ _ ⟨rfl, x9, rfl⟩) | (go_at_call 9; refine (AS2.out.mx _).mono ?_; rintro _ _ ⟨rfl, _, rfl⟩) | (go_at_call 10; refine (AS2.out.mn _).mono ?_; rintro _ _ ⟨rfl, _, rfl⟩) | (go_at_call 11; refine (AS2.out.len _).mono ?_; rintro _ _ ⟨rfl, _, rfl⟩) | (go_at_call 12; refine (AS2.out.seen _).mono ?_; rintro _ _ ⟨rfl, _, rfl⟩) | (go_at_call 13; refine (AS2.out.all _).mono ?_; rintro _ _ ⟨rfl, _, rfl⟩))
          exact ⟨⟨k + 1, by go_num, by omega, hid (by rw [RW.out]; exact HW2.out.far (wp.below_past _)), hid (HB2.out.trans ((wp.below_past _).mono HB2.out.size))⟩, by simp [natW]; omega⟩
        · rw [e]
          rw [show min k m = m by omega, show min (k + 1) m = m by omega] at *
          obtain ⟨b4, o4, rfl, c4⟩ := i64_at hc1 (k := 0) (by rw [EL1.out]; omega)
          replace c4 := below_cell HB2.out (Nat.le_refl _) _ _ c4
          obtain ⟨z, ez⟩ : ∃ z, atL (lastF (l.take k) m) 0 = z := ⟨_, rfl⟩
          rw [ez] at c4 ⊢
          have hm0 : 0 < m := hm1
          rw [Nat.add_zero] at c4
          clear e EL1 EL2 FE hc1 hf ez
          go_wp2_with (first | (go_at_call 8; refine (AS2.out.ends).mono ?_; rintro _ _ ⟨rfl, x9, rfl⟩) | (go_at_call 9; refine (AS2.out.mx _).mono ?_; rintro _ _ ⟨rfl, _, rfl⟩) | (go_at_call 10; refine (AS2.out.mn _).mono ?_; rintro _ _ ⟨rfl, _, rfl⟩) | (go_at_call 11; refine (AS2.out.len _).mono ?_; rintro _ _ ⟨rfl, _, rfl⟩) | (go_at_call 12; refine (AS2.out.seen _).mono ?_; rintro _ _ ⟨rfl, _, rfl⟩) | (go_at_call 13; refine (AS2.out.all _).mono ?_; rintro _ _ ⟨rfl, _, rfl⟩))
          exact ⟨⟨k + 1, by go_num, by omega, hid (by rw [RW.out]; exact HW2.out.far (wp.below_past _)), hid (HB2.out.trans ((wp.below_past _).mono HB2.out.size))⟩, by simp [natW]; omega⟩
      · have hBw := HB.out
        clear HW HB HC EN HCAP hmx EM hm1 hm2
        go_wp2_with fail
        refine (New_any wr.heap.size most wr (Nat.le_refl _)).mono ?_
        rintro _ w7 ⟨b7, rfl, h7, hb7⟩
        have NX := hid (show Calls Try.prog 9 #[.pointer (some ⟨b7, 0, none⟩)] w7 (Gives (.tuple #[.int .i64 0, .bool false]) w7) from Max_any h7)
        have HB7 := hid (hBw.trans (hb7.mono hBw.size))
        clear h7 hb7 hBw
        go_wp2_with (first | (go_at_call 9; refine NX.out.mono ?_; rintro _ _ ⟨rfl, _, rfl⟩) | (go_at_call 7; refine (Push_nil _ _).mono ?_; rintro _ _ ⟨rfl, _, rfl⟩) | (go_at_call 10; refine (Min_nil _).mono ?_; rintro _ _ ⟨rfl, _, rfl⟩) | (go_at_call 11; refine (Len_nil _).mono ?_; rintro _ _ ⟨rfl, _, rfl⟩) | (go_at_call 12; refine (Seen_nil _).mono ?_; rintro _ _ ⟨rfl, _, rfl⟩) | (go_at_call 13; refine (all_any none none 0 0 [] rfl (by omega) _ (.inl ⟨rfl, rfl⟩) (Cells.nil _ _)).mono ?_; rintro _ _ ⟨rfl, _, rfl⟩))
        go_ret
        exact Gives.mk rfl (HB7.out.trans ((w7.below_past _).mono HB7.out.size))
theorem c_int : Try.prog.cellsOf 3 = 1 := by kernel_rfl
theorem tab_one (l : List Int) : tab (fun x => [Value.int .i64 x]) l = i64s l := by
  unfold tab i64s
  induction l with
  | nil => rfl
  | cons a l ih => rw [List.flatMap_cons, ih]; rfl
theorem rd_one {H : Type} {enc : TypeId × Value → H} {W : World} (cs : List Value) (h : Rd enc Try.prog W 3 cs) : ∃ x, cs = [Value.int .i64 x] ∧ True := by
  obtain ⟨x, e, _⟩ := Rd.int h Try.underlying3
  exact ⟨x, e, trivial⟩
theorem windowRuns_own : ownKnob Try.prog.godebug = none := by kernel_rfl
theorem windowRuns_laidOut : laidOutB Try.prog = true := by kernel_rfl
theorem windowRuns_types : ∀ t ∈ Try.f3.params.toList, Try.prog.readableRec t = true ∧ t < Try.prog.types.size := by
  rw [Try.params3]
  intro t ht
  simp only [List.mem_cons, List.not_mem_nil, or_false] at ht
  rcases ht with rfl | rfl
  · exact ⟨by kernel_rfl, of_decide_eq_true (by kernel_rfl)⟩
  · exact ⟨by kernel_rfl, of_decide_eq_true (by kernel_rfl)⟩
set_option maxRecDepth 100000 in
theorem windowRuns_lifted (os : Os) (started : os.Started) (H : Type) (enc : TypeId × Value → H) :
    ReturnsInHanded {} Try.checked os 3 .any (Rows.windowRunsSpec.pre6 enc Try.prog Try.f3 Rows.windowRunsRow.domain false) (Rows.windowRunsSpec.post enc Try.prog Try.f3 false true false false) := by
  refine returnsInHanded_of_change (C := Try.checked) windowRuns_own started (by kernel_rfl) Try.func3
    (ChangeSpec.witness6 (enc := enc) (C := Try.checked) false ⟨#[], #[.int .i64 0, .slice none 0 0], []⟩ 8 (by kernel_rfl) (by kernel_rfl) (by kernel_rfl) (by kernel_rfl)) ?_
  intro W base args ds gs before hval0 hW hcnd _
  have hval : ∀ (j : Nat) t v, Try.f3.params[j]? = some t → args[j]? = some v → Value.okWide Try.prog W .any base t v := hval0
  have hW' := hW
  obtain ⟨p, q, hA0, hV, hpq, hfz, hnd⟩ := hW
  have hA : DataW.TrodAll enc Try.prog W 0 (fun _ => true) true Try.f3.params.toList args.toList ds p := hA0
  rw [Try.params3] at hA hval
  obtain ⟨v0, vs0, d0, ds0, p0, q0, hargs, rfl, rfl, h0, r0⟩ := trodAll_cons hA
  obtain ⟨v1, vs1, d1, ds1, p1, q1, rfl, rfl, rfl, h1, r1⟩ := trodAll_cons r0
  obtain ⟨rfl, rfl, rfl⟩ := trodAll_nil r1
  obtain rfl : args = #[v0, v1] := by cases args; simp_all
  have k0 := hval 0 3 v0 rfl rfl
  have k1 := hval 1 22 v1 rfl rfl
  clear hA0 hval0 hval hcnd hfz hnd hpq hV hargs r1
  suffices hs : Calls Try.prog 3 #[v0, v1] W (Gives (.bool true) W) from hs.mono fun e W' ⟨he, x, hx⟩ => ⟨_, he, law_post windowRuns_laidOut hW' rfl rfl (by kernel_rfl) (by first | exact Try.underlying4 | rfl) windowRuns_types (hx ▸ W.below_past x)⟩
  clear hW'
  obtain ⟨x1, rfl, _, _, w1⟩ := open_int Try.underlying3 k0 h0
  obtain ⟨A, ca, l, rfl, ha, _, hl, hcap⟩ := rd_tabC (f := fun x : Int => [Value.int .i64 x]) (c := 1) (K := fun _ => True) (fun _ => rfl) (by omega) (rd_slice Try.underlying22 k1 h1) Try.underlying22 c_int rd_one
  exact WindowRuns_any x1 A ca _ l rfl hcap hl W (by rw [tab_one] at ha; exact ha)
theorem windowRuns_holds : Rows.WindowRunsSaid :=
  OpenClaim.holds_of_wide 3 Try.f3 rfl rfl rfl rfl rfl rfl rfl ⟨rfl, rfl, rfl, rfl, rfl⟩ rfl rfl rfl rfl rfl (by kernel_rfl) Try.func3 (by kernel_rfl)
    (of_decide_eq_true (by kernel_rfl)) (by unfold Func.isWrapper; first | (rw [if_pos (by decide +kernel)]; kernel_rfl) | (rw [if_neg (by decide +kernel)]; exact ⟨rfl, rfl⟩))
    (fun os started H enc _ => windowRuns_lifted os started H enc)
end Go.Proofs.Ytplkekmegonenaa
