/-
  Layer 39's PrioOrder: what was pushed comes by levels, each in the order in which it came. Condition: the library's table deBruijn64tab stands as it is laid out.
-/
import Derived.Test.YtngokihncjkiaaaDoorPrV
import Derived.Test.YtngokihncjkiaaaDoorPrX
import Derived.Test.YtngokihncjkiaaaDoorLaid
import Derived.Deep.CutRange
import Derived.StillTailTactics
import Derived.Shelf.Abstract
namespace Go.Proofs.YtngokihncjkiaaaDoor
open Go.RowKit Go.Shelf Go.ChangeShapes Go.WideShapes Go.ChangeAt
attribute [local go_sem] Oper.semAt_some
/-! A queue of levels that stands alone. -/
def PZ (B : Nat) (w0 W : World) (b : Nat) (most : Int) (tk : Nat → Int) (L : Nat → List (Int × Int)) : Prop := B ≤ w0.heap.size ∧ Below B w0 W ∧ ∃ F, PQ B W b F most tk L
section
variable {B : Nat} {w0 W W' : World} {b : Nat} {most : Int} {tk tk' : Nat → Int} {L L' : Nat → List (Int × Int)}
theorem PZ.size (h : PZ B w0 W b most tk L) : B ≤ W.heap.size := Nat.le_trans h.1 h.2.1.size
theorem PZ.far (h : PZ B w0 W b most tk L) (hb : Below W.heap.size W W') : PZ B w0 W' b most tk L := by
  obtain ⟨h1, h2, F, h3⟩ := h
  exact ⟨h1, h2.trans (hb.mono (Nat.le_trans h1 h2.size)), F, h3.far hb⟩
theorem PZ.act (h : PZ B w0 W b most tk L) {fn : FuncId} {args : Array Value} {r : Value}
    (hc : ∀ F, PQ B W b F most tk L → Calls Tryd.prog fn args W (fun e w' => e = .returned r ∧ After (fun W F => PQ B W b F most tk' L') F W w')) : Calls Tryd.prog fn args W (fun e w' => e = .returned r ∧ PZ B w0 w' b most tk' L') := by
  obtain ⟨h1, h2, F, h3⟩ := h
  refine (hc F h3).mono ?_
  rintro _ w' ⟨rfl, F', g1, g2, g3⟩
  exact ⟨rfl, h1, g3.to_below h2 (Nat.le_trans h1 h2.size) (fun k hk => ((PQ.is).foot h3 hk).1), F', g1⟩
theorem PZ.len (h : PZ B w0 W b most tk L) : Calls Tryd.prog 16 #[.pointer (some ⟨b, 0, none⟩)] W (Gives (.int .i64 (tot L : Int)) W) := by
  obtain ⟨h1, h2, F, rp, so, n, hA, hS, rfl⟩ := h
  exact PLen_any hA
theorem PZ.levels (h : PZ B w0 W b most tk L) {s : Nat} (hs : IsSet s (fun i => decide (L i ≠ []))) : Calls Tryd.prog 17 #[.pointer (some ⟨b, 0, none⟩)] W (Gives (.int .u64 (s : Int)) W) := by
  obtain ⟨h1, h2, F, rp, so, n, hA, hS, rfl⟩ := h
  rw [hs.uniq hS]
  exact PLevels_any hA
end
theorem PZNew_any (most : Int) (w : World) :
    Calls Tryd.prog 6 #[.int .i64 most] w (fun e w' => ∃ b, e = .returned (.pointer (some ⟨b, 0, none⟩)) ∧ PZ w.heap.size w w' b most (fun _ => 0) (fun _ => [])) :=
  (PNew_any w.heap.size most w (Nat.le_refl _)).mono fun _ _ ⟨b, F, h1, h2, _, h4⟩ => ⟨b, h1, Nat.le_refl _, h4, F, _, 0, 0, h2, ⟨by omega, fun i _ => by simp⟩, by rw [tot_zero (fun _ _ => rfl)]; rfl⟩

def u8s (l : List Int) : List Value := l.map (Value.int .u8)
theorem u8_at {w : World} {A : Option Addr} {l : List Int} (h : Cells w A (u8s l)) {k : Nat} (hk : k < l.length) : ∃ b off : Nat, A = some ⟨b, off, none⟩ ∧ w.cell? ⟨b, off + k, none⟩ = some (.int .u8 (atU l k)) := by
  obtain ⟨b, off, e, hc⟩ := h.at (k := k) (by simpa [u8s] using hk)
  refine ⟨b, off, e, ?_⟩
  rw [hc]
  simp [u8s, atU, List.getElem?_eq_getElem hk]
theorem PZ.pop {B : Nat} {w0 W : World} {b : Nat} {most : Int} {tk : Nat → Int} {L : Nat → List (Int × Int)} (h : PZ B w0 W b most tk L) (ht : ∀ i, i < 64 → tk i ≤ 1000000) (hT : tot L ≤ 1000000) (hZ : Tz W) (hp : 0 < tot L) :
    ∃ (i : Nat) (x : Int × Int) (R : List (Int × Int)), i < 64 ∧ L i = x :: R ∧ (∀ j, j < i → L j = []) ∧
    Calls Tryd.prog 11 #[.pointer (some ⟨b, 0, none⟩)] W (fun e w' => e = .returned (.tuple #[.int .i64 (i : Int), .int .i64 x.2, .bool true]) ∧ PZ B w0 w' b most tk (updN L i R)) := by
  have hs := h.size
  obtain ⟨h1, h2, F, h3⟩ := h
  obtain ⟨i, x, R, hi, hL, hj, hc⟩ := PPop_any h3 hs ht hT hZ hp
  refine ⟨i, x, R, hi, hL, hj, hc.mono ?_⟩
  rintro _ w' ⟨rfl, F', g1, g2, g3⟩
  exact ⟨rfl, h1, g3.to_below h2 (Nat.le_trans h1 h2.size) (fun k hk => ((PQ.is).foot h3 hk).1), F', g1⟩
set_option maxRecDepth 100000 in
set_option maxHeartbeats 4000000 in
theorem PrioOrder_any (A : Option Addr) (ca n : Nat) (l : List Int) (en : l.length = n) (hmx : n ≤ maxLen) (hu : ∀ x ∈ l, 0 ≤ x ∧ x < 256) (w : World) (hZ : Tz w) (hc : Cells w A (u8s l)) :
    Calls Tryd.prog 4 #[.slice A n ca] w (Gives (.bool true) w) := by
  have HTZ := hid (fun (W : World) (h : Below w.heap.size w W) => hZ.below h)
  obtain ⟨w3, ew3⟩ : ∃ w3, w3 = w.alloc (.cells #[.bool false] 4) := ⟨_, rfl⟩
  have br := Boxed.new w 4 (.bool false)
  have hB3 : Below w.heap.size w w3 := by rw [ew3]; exact (Below.refl _ w).alloc (Nat.le_refl _) _
  rw [← ew3] at br
  have AWK := hid (fun (W : World) (h : Below w.heap.size w W) => awake_any W (hZ.below h))
  by_cases h80 : 80 < n
  · clear en hc ew3 br hB3 hZ
    go_enter Tryd.func4, Tryd.ntmps4
    go_wp2_with (go_at_call 5; refine (AWK.out _ (by (repeat (first | exact Below.refl _ _ | refine RowKit.Below.past ?_ _ | refine RowKit.Below.alloc' ?_ _ | refine RowKit.Below.drew' ?_ | refine RowKit.Below.drewN' ?_ _ | refine RowKit.Below.setCell' ?_ (by simp [go_sem]) _)))).mono ?_; rintro _ _ ⟨rfl, x0, rfl⟩)
    refine bodyPost_ret (v := .bool true) ?_ rfl ?_
    · simp [results, Tryd.results4, go_sem]
    · refine Gives.mk (rfl) ?_
      (repeat (first | exact Below.refl _ _ | refine RowKit.Below.past ?_ _ | refine RowKit.Below.alloc' ?_ _ | refine RowKit.Below.drew' ?_ | refine RowKit.Below.drewN' ?_ _ | refine RowKit.Below.setCell' ?_ (by simp [go_sem]) _))
  · have EN := hid en
    have HC := hid hc
    have HU := hid (show ∀ k, 0 ≤ atU l k ∧ atU l k < 256 from fun k => by
      unfold atU
      by_cases hk : k < l.length
      · rw [List.getElem?_eq_getElem hk]; exact hu _ (List.getElem_mem hk)
      · rw [List.getElem?_eq_none (by omega)]; exact ⟨by simp, by simp⟩)
    obtain ⟨s, es⟩ : ∃ s, w.heap.size = s := ⟨_, rfl⟩
    have ES := hid es
    have EW := hid ew3
    have HBR := hid br
    have HB3 := hid hB3
    clear ew3 br hB3 hZ en hc hu
    refine (callsIn_wide (n := 8)).1 ?_
    refine callsIn_of_wp_marks Tryd.func4 rfl trivial ?_ rfl
    refine wpIn_wide.2 ?_
    simp only [Tryd.ntmps4, List.size_toArray, List.length_cons, List.length_nil, Nat.reduceAdd, Nat.reduceSub, Array.replicate_succ, Array.replicate_zero, List.push_toArray, List.append_toArray, List.nil_append, List.cons_append]
    go_wp2_with fail
    rw [← EW.out]
    refine (AWK.out w3 HB3.out).mono ?_
    rintro _ _ ⟨rfl, x0, rfl⟩
    obtain ⟨w4, ew4⟩ : ∃ w4, w4 = w3.past x0 := ⟨_, rfl⟩
    have hb4 : Below w3.heap.size w3 w4 := by rw [ew4]; exact w3.below_past x0
    rw [← ew4]
    have br4 : Boxed w4 s 4 (.bool false) := by rw [← es]; exact (hb4.block _ HBR.out.lt).trans HBR.out
    have HB4 := hid (below_trans' HB3.out hb4)
    have BR4 := hid br4
    rw [es] at HTZ HB4
    have hs4 := br4.lt
    clear ew4 hb4 br4 AWK EW HBR HB3
    go_wp2_with fail
    refine (PZNew_any 100 w4).mono ?_
    rintro _ w5 ⟨b, rfl, h5⟩
    have H5 := hid h5
    clear h5
    have HBW := hid (fun (W : World) (t : Nat → Int) (L : Nat → List (Int × Int)) (h : PZ w4.heap.size w4 W b 100 t L) => (show Below s w W from HB4.out.trans (h.2.1.mono (by omega))))
    have HRW := hid (fun (W : World) (t : Nat → Int) (L : Nat → List (Int × Int)) (h : PZ w4.heap.size w4 W b 100 t L) => (show Boxed W s 4 (.bool false) from (h.2.1.block _ hs4).trans BR4.out))
    go_wp2_with fail
    go_loopw [4, 5, 29] (fun _ _ i wr => ∃ (k : Nat) (t : Nat → Int) (L : Nat → List (Int × Int)), i = .int .i64 (k : Int) ∧ k ≤ n ∧ Hid (PI l k t L) ∧ Hid (PZ w4.heap.size w4 wr b 100 t L)) (fun _ _ i _ => n - natE i)
    case atStart => exact ⟨0, _, _, rfl, by omega, hid (PI.nil l), H5⟩
    case round =>
      clear H5
      obtain ⟨k, t, L, rfl, hk, HPI, HQ⟩ := hrel
      by_cases hlt : k < n
      · obtain ⟨g, o, rfl, c0⟩ := u8_at (HC.out.below (by rw [es]; exact HBW.out wr _ _ HQ.out)) (k := k) (by rw [EN.out]; exact hlt)
        have hz := HU.out k
        obtain ⟨i, hi⟩ : ∃ i : Nat, atU l k % 64 = i := ⟨(atU l k % 64).toNat, by omega⟩
        have hi64 : i < 64 := by omega
        have HPI2 := hid (HPI.out.push hi64 hi)
        have hkr : (atU l k).tmod 64 = (i : Int) := by rw [Int.tmod_eq_emod_of_nonneg hz.1]; exact hi
        have HPU := hid (show Calls Tryd.prog 8 #[.pointer (some ⟨b, 0, none⟩), .int .i64 (i : Int), .int .i64 (k : Int)] wr (fun e w' => e = .returned (.int .i64 0) ∧ PZ w4.heap.size w4 w' b 100 (updN t i (t i + 1)) (updN L i (L i ++ [(t i + 1, (k : Int))]))) from
          HQ.out.act (fun F hF => PPush_any hF HQ.out.size hi64 (by have := HPI.out.tk i hi64; omega) (by rw [HPI.out.tot]; omega) (by have := len_le_tot L hi64; rw [HPI.out.tot] at this; unfold mostA; omega) k))
        obtain ⟨z, ez⟩ : ∃ z, atU l k = z := ⟨_, rfl⟩
        rw [ez] at c0 hz hkr
        clear ez hi
        go_wp2_with (go_at_call 8; refine HPU.out.mono ?_; rintro _ w6 ⟨rfl, h6⟩; have H6 := hid h6; clear h6)
        go_roundw
        case rel => exact ⟨k + 1, _, _, by go_num, by omega, HPI2, H6⟩
        case measure => simp [natE]; omega
      · obtain rfl : k = n := by omega
        have HQ0 := hid HQ.out
        clear HQ hlt hk
        go_wp2_with fail
        go_loopw [6, 7, 8, 9, 10, 44] (fun v6 v7 _ _ _ i wx => ∃ (j : Nat) (L' : Nat → List (Int × Int)) (la aa : Int), v6 = .int .i64 la ∧ v7 = .int .i64 aa ∧ i = .int .i64 (j : Int) ∧ j ≤ k ∧ Hid (flL L' = (flL L).drop j) ∧ Hid (PZ w4.heap.size w4 wx b 100 t L') ∧ Hid (∀ x, (flL L)[j]? = some x → lexL (la, aa) x)) (fun _ _ _ _ _ i _ => k - natE i)
        case atStart => exact ⟨0, L, -1, -1, rfl, rfl, rfl, Nat.zero_le _, hid (by simp), HQ0, hid (fun x hx => by
          obtain ⟨m, _, _, _, h0⟩ := HPI.out.mem (List.mem_of_getElem? hx)
          exact .inl (show (-1 : Int) < x.1 by omega))⟩
        case round =>
          clear HQ0
          obtain ⟨j, L', la, aa, rfl, rfl, rfl, hj, HF, HQ, HX⟩ := hrel
          have hlen : tot L' = k - j := by rw [← flL_length, HF.out, List.length_drop, flL_length, HPI.out.tot]
          have HBX := hid (HBW.out wr _ _ HQ.out)
          by_cases hlt : j < k
          · obtain ⟨i, x, R, hi, hL, hb, hc⟩ := HQ.out.pop (fun i hi => by have := HPI.out.tk i hi; omega) (by omega) (HTZ.out _ HBX.out) (by omega)
            obtain ⟨hx, hd⟩ := flL_drop HF.out (flL_pop L' hi hL hb)
            obtain ⟨vn, hv1, hv2, hv3, -⟩ := HPI.out.mem (List.mem_of_getElem? hx)
            simp only at hv1 hv3
            have hlex := HX.out _ hx
            have HN := hid (fun y (hy : (flL L)[j + 1]? = some y) => HPI.out.next hx hy)
            have HD := hid hd
            have HPO := hid hc
            obtain ⟨g, o, rfl, c0⟩ := u8_at (HC.out.below (by rw [es]; exact HBX.out)) (k := vn) (by rw [EN.out]; exact hv2)
            have hz := HU.out vn
            have hkr : (atU l vn).tmod 64 = (i : Int) := by rw [Int.tmod_eq_emod_of_nonneg hz.1]; exact hv3
            obtain ⟨z, ez⟩ : ∃ z, atU l vn = z := ⟨_, rfl⟩
            rw [ez] at c0 hz hkr
            obtain ⟨xv, exv⟩ : ∃ xv, x.2 = xv := ⟨_, rfl⟩
            rw [exv] at HPO hlex HN hv1
            subst hv1
            have hg1 : (vn : Int) < k := by omega
            have hg0 : ¬ (vn : Int) < 0 := by omega
            have hlex2 : (¬ (i : Int) < la) ∧ ((((i : Int) == la) = false) ∨ (((i : Int) == la) = true ∧ ¬ (vn : Int) ≤ aa)) := by
              rcases hlex with h | ⟨h1, h2⟩
              · have h : la < (i : Int) := h
                exact ⟨by omega, .inl (by simp; omega)⟩
              · have h1 : la = (i : Int) := h1
                have h2 : aa < (vn : Int) := h2
                exact ⟨by omega, .inr ⟨by simp; omega, by omega⟩⟩
            obtain ⟨hle, hor⟩ := hlex2
            have HMEM := hid (fun (W : World) (h : PZ w4.heap.size w4 W b 100 t (updN L' i R)) => (show W.cell? ⟨g, o + vn, none⟩ = some (.int .u8 z) from by
              obtain ⟨g', o', e', c'⟩ := u8_at (HC.out.below (w' := W) (by rw [es]; exact HBW.out W _ _ h)) (k := vn) (by rw [EN.out]; exact hv2)
              injection e' with e'
              injection e' with e1 e2 _
              subst e1; subst e2
              rw [← ez]; exact c'))
            clear ez hv3 hx hd hc hlex hL hb exv hlen HX c0
            go_upto_region 16 with (go_at_call 11; refine HPO.out.mono ?_; rintro _ w6 ⟨rfl, h6⟩; have H6 := hid h6; clear h6)
            have c6 := HMEM.out w6 H6.out
            have g6 := World.block_lt_of_cell? w6 _ c6
            simp only at g6
            rcases hor with hor | ⟨hor, hor2⟩
            all_goals
              go_wp2_with fail
              go_roundw
              case rel => exact ⟨j + 1, _, (i : Int), (vn : Int), rfl, rfl, by go_num, by omega, HD, H6, HN⟩
              case measure => simp [natE]; omega
          · obtain rfl : j = k := by omega
            have ht0 : tot L' = 0 := by omega
            have hsX : s ≤ wr.heap.size := by rw [← es]; exact HBX.out.size
            have HPZ := hid (show Calls Tryd.prog 11 #[.pointer (some ⟨b, 0, none⟩)] wr (Gives (.tuple #[.int .i64 0, .int .i64 0, .bool false]) wr) from by
              obtain ⟨_, _, F, hF⟩ := HQ.out
              exact PPopZ_any hF (HTZ.out _ HBX.out) ht0)
            have HPN := hid (fun y : Past => PPop_nil (wr.past y) (HTZ.out _ (HBX.out.trans (RowKit.Below.mono (wr.below_past y) hsX))))
            have HKN := hid (fun y : Past => PPeek_nil (wr.past y) (HTZ.out _ (HBX.out.trans (RowKit.Below.mono (wr.below_past y) hsX))))
            have HRX := hid (HRW.out wr _ _ HQ.out)
            clear hlen HF HX hlt HPI
            go_wp2_with fail
            refine HPZ.out.mono ?_
            rintro _ _ ⟨rfl, y1, rfl⟩
            go_wp2_with fail
            refine (HPN.out _).mono ?_
            rintro _ _ ⟨rfl, y2, rfl⟩
            go_wp2_with fail
            refine (HKN.out _).mono ?_
            rintro _ _ ⟨rfl, y3, rfl⟩
            obtain ⟨u3, eu3⟩ : ∃ u3, u3 = wr.past ((y1.and y2).and y3) := ⟨_, rfl⟩
            go_wp2_with fail
            rw [← eu3]
            have hbu : Below wr.heap.size wr u3 := by rw [eu3]; exact wr.below_past _
            have hBu := HBX.out.trans (hbu.mono hsX)
            have hru : Boxed u3 s 4 (.bool false) := (hbu.block _ HRX.out.lt).trans HRX.out
            clear eu3
            refine (PAll_any none u3).mono ?_
            rintro _ v9 ⟨rfl, gb9, gs9, gx9⟩
            have hb9 : Below s w v9 := hBu.trans (gb9.mono (by rw [← es]; exact hBu.size))
            have hr9 : Boxed v9 s 4 (.bool false) := (gb9.block _ hru.lt).trans hru
            have HSEQ := hid (prio_nil_seq (8 - 1) (by omega) v9 u3.heap.size (fun _ => False) gx9 (fun h => h) (fun _ h => h.elim) (HTZ.out _ hb9) (fun h => h))
            have HB9 := hid hb9
            have HR9 := hid hr9
            have hs9 := hr9.lt
            have hs9' : s ≤ v9.heap.size := by rw [← es]; exact hb9.size
            clear hbu hBu hru gb9 gs9 gx9 hb9 hr9 HPZ HPN HKN HRX HTZ HBX
            go_wp2_with fail
            refine (wpIn_wide (n := 8)).1 ?_
            apply wpIn_rangeFunc_E rfl (by omega) (gf := 36) (lb := #[.pointer (some ⟨u3.heap.size, 0, none⟩)]) rfl trivial (enters_of Tryd.func36 (by kernel_rfl) rfl) HSEQ.out (fun _ h => h.elim) (KS.refl _ _) (fun _ => rfl)
              (fun _ V => Below v9.heap.size v9 V) (fun _ _ _ => False) (fun _ _ _ h hb => h.trans hb) (fun _ _ _ _ h _ => h.elim) (Below.refl _ _) _ ?_ ?_ ?_ ?_
            rotate_left
            · intro lq x W K hK
              simp only [encP]
              gi_wp2
              exact hK
            · intro lq pre x W hsW hI hlen
              omega
            rotate_left
            · intro D c pre W hD hSp h
              exact h.elim
            · intro D3 xs V hD3 hS3 hBl hKD3
              have hbl : Below s w V := HB9.out.trans (hBl.mono hs9')
              have hbr : Boxed V s 4 (.bool false) := (hBl.block _ hs9).trans HR9.out
              have hsD : s ≠ D3 := by omega
              have hge : s ≤ D3 := by omega
              have HEND := hid (fun xx : Past => (show ((V.setCell ⟨s, 0, none⟩ (.bool true)).past xx).heap[D3]? = some (.deferred (some [])) ∧
                (((V.setCell ⟨s, 0, none⟩ (.bool true)).past xx).putObj D3 (.deferred none)).cell? ⟨s, 0, none⟩ = some (.bool true) ∧
                Below w.heap.size w (((V.setCell ⟨s, 0, none⟩ (.bool true)).past xx).putObj D3 (.deferred none)) from by
                obtain ⟨Wf, eWf⟩ : ∃ Wf, Wf = V.setCell ⟨s, 0, none⟩ (.bool true) := ⟨_, rfl⟩
                rw [← eWf]
                have kb : Boxed Wf s 4 (.bool true) := by rw [eWf]; exact hbr.set _
                have s3 : Wf.heap[D3]? = some (.deferred (some [])) := by rw [eWf]; exact (Below.heap_setCell V ⟨s, 0, none⟩ _ D3 (fun e => hsD e.symm)).trans hKD3
                have sb : Below s w Wf := by rw [eWf]; exact hbl.setCell (p := ⟨s, 0, none⟩) (by simp) _
                obtain ⟨Vp, eVp⟩ : ∃ Vp, Vp = Wf.past xx := ⟨_, rfl⟩
                have hbp : Below Wf.heap.size Wf Vp := by rw [eVp]; exact Wf.below_past xx
                rw [← eVp]
                have k3 := (hbp.block _ (Array.getElem?_eq_some_iff.1 s3).1).trans s3
                have kbr : Boxed Vp s 4 (.bool true) := (hbp.block _ kb.lt).trans kb
                have kbl := sb.trans (hbp.mono (by rw [← es]; exact sb.size))
                refine ⟨k3, Boxed.cell (show Boxed _ _ 4 _ from (World.putObj_heap_other hsD).trans kbr), ?_⟩
                rw [es]
                exact below_putObj kbl hge _))
              have q6 := hbr.cell
              have f6 := hbr.frozen
              have l6 := hbr.lt
              clear hbr hKD3 hBl hS3 hbl HSEQ
              go_wp2_with (first | (go_at_call 8; refine (PPush_nil 0 0 _).mono ?_; rintro _ _ ⟨rfl, y4, rfl⟩) | (go_at_call 13; refine (PLift_nil 0 1 _).mono ?_; rintro _ _ ⟨rfl, y5, rfl⟩) | (go_at_call 16; refine (PLen_nil _).mono ?_; rintro _ _ ⟨rfl, y6, rfl⟩) | (go_at_call 17; refine (PLevels_nil _).mono ?_; rintro _ _ ⟨rfl, y7, rfl⟩))
              obtain ⟨z3, zc, zb⟩ := HEND.out (((y4.and y5).and y6).and y7)
              clear q6 f6
              refine ⟨by simp, .inl ⟨_, _, rfl, run_takeDeferred z3, ?_⟩⟩
              exact ⟨.bool true, by simp [results, Tryd.results4, go_sem, zc], Gives.mk rfl zb⟩
theorem c_u8o : Tryd.prog.cellsOf 5 = 1 := by kernel_rfl
theorem tab_oneU8 (l : List Int) : tab (fun x : Int => [Value.int .u8 x]) l = u8s l := by induction l with | nil => rfl | cons x l ih => simpa [tab, u8s] using ih
theorem prioOrder_own : ownKnob Tryd.prog.godebug = none := by kernel_rfl
theorem prioOrder_laidOut : laidOutB Tryd.prog = true := by kernel_rfl
theorem prioOrder_types : ∀ t ∈ Tryd.f4.params.toList, Tryd.prog.readableRec t = true ∧ t < Tryd.prog.types.size := by
  rw [Tryd.params4]
  intro t ht
  simp only [List.mem_cons, List.not_mem_nil, or_false] at ht
  rcases ht with rfl
  · exact ⟨by kernel_rfl, of_decide_eq_true (by kernel_rfl)⟩
set_option maxRecDepth 100000 in
theorem prioOrder_lifted (os : Os) (started : os.Started) (H : Type) (enc : TypeId × Value → H) :
    ReturnsInHanded {} Tryd.checked os 4 .any (fun w args => (Rows.prioOrderSpec.pre enc Tryd.prog Tryd.f4 [] false w args ∧ laidMetH Tryd.prog laidT w) ∧ sizedMet enc Tryd.prog Tryd.f4 (OpenSpec.ofChange Rows.prioOrderSpec) false w args) (Rows.prioOrderSpec.post enc Tryd.prog Tryd.f4 false true false false) := by
  refine returnsInHanded_of_change_and (C := Tryd.checked) (X := fun w _ => laidMetH Tryd.prog laidT w) (fun _ _ _ hh h => h.of_heap hh) prioOrder_own started (by kernel_rfl) Tryd.func4
    (ChangeSpec.witness_shaped (enc := enc) (C := Tryd.checked) (os := os) (X := fun w _ => laidMetH Tryd.prog laidT w) false (World.doorLaid Tryd.prog 14 os) #[.slice none 0 0] 8 rfl (World.shaped_of_RefB (by kernel_rfl) (by kernel_rfl)) (by kernel_rfl) (by kernel_rfl) (by kernel_rfl) (door_met os _)) ?_
  intro W base args ds gs before hval0 hW hcnd _ hLaid _
  have hZ : Tz W := tz_of_laid hLaid
  clear hLaid
  have hval : ∀ (j : Nat) t v, Tryd.f4.params[j]? = some t → args[j]? = some v → Value.okWide Tryd.prog W .any base t v := hval0
  have hW' := hW
  obtain ⟨p, q, hA0, hV, hpq, hfz, hnd⟩ := hW
  have hA : DataW.TrodAll enc Tryd.prog W 0 (fun _ => true) true Tryd.f4.params.toList args.toList ds p := hA0
  rw [Tryd.params4] at hA hval
  obtain ⟨v0, vs0, d0, ds0, p0, q0, hargs, rfl, rfl, h0, r0⟩ := trodAll_cons hA
  obtain ⟨rfl, rfl, rfl⟩ := trodAll_nil r0
  obtain rfl : args = #[v0] := by cases args; simp_all
  have k0 := hval 0 48 v0 rfl rfl
  clear hA0 hval0 hval hcnd hfz hnd hpq hV hargs r0
  suffices hs : Calls Tryd.prog 4 #[v0] W (Gives (.bool true) W) from hs.mono fun e W' ⟨he, x, hx⟩ => ⟨_, he, law_post prioOrder_laidOut hW' rfl rfl (by kernel_rfl) (by first | exact Tryd.underlying4 | rfl) prioOrder_types (hx ▸ W.below_past x)⟩
  clear hW'
  obtain ⟨A, ca, l, rfl, ha, hkl, hl, _⟩ := rd_tabC (f := fun x : Int => [Value.int .u8 x]) (c := 1) (K := fun x => 0 ≤ x ∧ x < 256) (fun _ => rfl) (by omega) (rd_slice Tryd.underlying48 k0 h0) Tryd.underlying48 c_u8o (fun _ h => by obtain ⟨x, e, hw⟩ := Rd.int h Tryd.underlying5; exact ⟨x, e, u8_of hw⟩)
  rw [tab_oneU8] at ha
  exact PrioOrder_any A ca _ l rfl hl hkl W hZ ha
theorem prioOrder_row : Rows.PrioOrderSaid :=
  OpenClaim.holds_of_wide 4 Tryd.f4 rfl rfl rfl rfl rfl rfl rfl ⟨rfl, rfl, rfl, rfl, rfl⟩ rfl rfl rfl rfl rfl (by kernel_rfl) Tryd.func4 (by kernel_rfl)
    (of_decide_eq_true (by kernel_rfl)) (by unfold Func.isWrapper; first | (rw [if_pos (by decide +kernel)]; kernel_rfl) | (rw [if_neg (by decide +kernel)]; exact ⟨rfl, rfl⟩))
    (fun os started H enc _ => prioOrder_lifted os started H enc)
theorem prioOrder_holds : Rows.PrioOrderCardSaid :=
  Claim7.holds_tied_plain_at .later [] [.data] true _ false
    prioOrder_row (fun _ h => by cases h) (by kernel_rfl) (fun _ h => by cases h) prioOrder_row_tie rfl ⟨rfl, rfl⟩ (by kernel_rfl) rfl
    (fun f fn hf hfn => by
      obtain rfl : f = 4 := Option.some.inj ((show Tryd.prog.funcNamed "forelock/forelocklaw39.PrioOrder" = some 4 by kernel_rfl).symm.trans hf) |>.symm
      obtain rfl : fn = Tryd.f4 := (Option.some.inj (Tryd.func4.symm.trans hfn)).symm
      exact ⟨by kernel_rfl, fun j t ht => by
        rw [Tryd.params4] at ht
        have hm : t ∈ [48] := by simpa using Array.mem_of_getElem? ht
        have hall : ([48].all fun u => !Tryd.prog.wantsStandIn u) = true := by kernel_rfl
        exact (show Tryd.prog.wantsStandIn t = false by simpa using List.all_eq_true.1 hall t hm)⟩)
    (by kernel_rfl)
end Go.Proofs.YtngokihncjkiaaaDoor
