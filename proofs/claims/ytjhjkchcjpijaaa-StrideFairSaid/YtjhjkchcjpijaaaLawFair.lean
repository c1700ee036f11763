/-
  Layer 37's StrideFair: each has as many turns as its share, nearly. No condition.
-/
import Derived.Test.YtjhjkchcjpijaaaLawTwice
import Derived.Test.YtjhjkchcjpijaaaRefW
namespace Go.Proofs.Ytjhjkchcjpijaaa
open Go Go.RowKit Go.Shelf Go.ChangeShapes Go.WideShapes Go.ChangeAt HpI
theorem sumB_sT {lo hi : Int} {l : List Int} : ∀ k : Nat, (∀ j, j < k → lo ≤ atL l j ∧ atL l j ≤ hi) → sumB lo hi l k = sT l k
  | 0, _ => rfl
  | k + 1, h => by
    have ih := sumB_sT k (fun j hj => h j (by omega))
    have h1 := h k (by omega)
    have e : bringF (atL l k) lo hi = atL l k := by unfold bringF; rw [if_neg (by omega), if_neg (by omega)]
    simp only [sumB, sT]
    rw [ih, e]
theorem bring_same {x lo hi : Int} (h : lo ≤ x ∧ x ≤ hi) : bringF x lo hi = x := by unfold bringF; rw [if_neg (by omega), if_neg (by omega)]
theorem sT_le {l : List Int} {c : Int} : ∀ k : Nat, (∀ j, j < k → 0 ≤ atL l j ∧ atL l j ≤ c) → 0 ≤ sT l k ∧ sT l k ≤ k * c
  | 0, _ => by simp [sT]
  | k + 1, h => by
    have ih := sT_le k (fun j hj => h j (by omega))
    have h1 := h k (by omega)
    have e : ((k + 1 : Nat) : Int) * c = k * c + c := by rw [Int.natCast_add, Int.add_mul]; simp
    simp only [sT]
    rw [e]
    omega
/-- Both say that it is fair. -/
theorem fair_both {W : List Int} {n N : Nat} (hn : W.length = n) (h0 : 0 < n) (h16 : n ≤ 16) (hN : N ≤ 500) (hW : ∀ j, j < W.length → 1 ≤ atL W j ∧ atL W j ≤ 256) :
    fairF (cK W N) W n = true ∧ ∀ i, i < n → offF (cK W N) W i ≤ n * sumB 1 4096 W n := by
  have hc : (cK W N).length = n := by unfold cK; rw [cntL_length]; exact hn
  have hS : sumB 1 4096 W n = sT W n := sumB_sT n (fun j hj => by have := hW j (by omega); omega)
  have hT : sumB 0 2147483648 (cK W N) n = N := by
    rw [sumB_sT n (fun j hj => by have := cK_in W N j; omega)]
    have := sT_cK (W := W) (by omega) N
    rwa [hn] at this
  have hSb := sT_le (l := W) (c := 256) n (fun j hj => by have := hW j (by omega); omega)
  have hlaw : ∀ i, i < n → atL (cK W N) i * sT W n - atL W i * N ≤ n * sT W n ∧ atL W i * N - atL (cK W N) i * sT W n ≤ n * sT W n := fun i hi => by
    have := fair_law (W := W) (by omega) hW hN (i := i) (by omega)
    rwa [hn] at this
  refine ⟨?_, fun i hi => ?_⟩
  · unfold fairF
    rw [Bool.and_eq_true]
    refine ⟨by simp [fitsF, hc, hn]; omega, ?_⟩
    rw [List.all_eq_true]
    intro i hi
    rw [List.mem_range, hc] at hi
    have ci := cK_in W N i
    have wi := hW i (by omega)
    unfold fairAt
    rw [hc, hn, hS, hT, bring_same (x := atL (cK W N) i) (by omega), bring_same (x := atL W i) (by omega), bring_same (x := (n : Int)) (by omega)]
    exact (near_iff _ _ _ _ _ (by unfold U64; omega) (by unfold U64; omega) (by unfold U64; omega) (by unfold U64; omega)).2 (hlaw i hi)
  · have ci := cK_in W N i
    have wi := hW i (by omega)
    have h := hlaw i hi
    unfold offF diffF
    rw [hc, hn, hS, hT, bring_same (x := atL (cK W N) i) (by omega), bring_same (x := atL W i) (by omega)]
    split <;> omega
set_option maxRecDepth 100000 in
set_option maxHeartbeats 8000000 in
theorem StrideFair_any (A : Option Addr) (ca n : Nat) (l : List Int) (en : l.length = n) (hU : ∀ x ∈ l, 0 ≤ x ∧ x ≤ 255) (y : Int) (hy : 0 ≤ y ∧ y ≤ 65535) (w : World) (hc : Cells w A (u8s l)) :
    Calls Try.prog 5 #[.slice A n ca, .int .u16 y] w (Gives (.bool true) w) := by
  obtain ⟨i0, hi, hz0, hz1, hz2⟩ := info_parts info_i64
  have AWK := hid awake_any
  have hcs : 16 < n ∨ n = 0 ∨ (0 < n ∧ n ≤ 16 ∧ 500 < y) ∨ (0 < n ∧ n ≤ 16 ∧ y ≤ 500) := by omega
  rcases hcs with h1 | rfl | ⟨h1, h2, h3⟩ | ⟨h1, h2, h3⟩
  · clear en hc hU
    go_enter Try.func5, Try.ntmps5
    go_wp2_with (go_at_call 6; refine (AWK.out _).mono ?_; rintro _ _ ⟨rfl, x1, rfl⟩)
    go_ret
    exact Gives.mk rfl (World.below_past _ _)
  · clear en hc hU
    go_enter Try.func5, Try.ntmps5
    go_wp2_with (go_at_call 6; refine (AWK.out _).mono ?_; rintro _ _ ⟨rfl, x1, rfl⟩)
    go_ret
    exact Gives.mk rfl (World.below_past _ _)
  · clear en hc hU
    have d1 : decide (16 < (n : Int)) = false := by simp; omega
    have d1' : decide (16 < n) = false := by simp; omega
    have d2 : ((n : Int) == 0) = false := by simp; omega
    have d2' : (n == 0) = false := by simp; omega
    have d3 : decide (500 < y) = true := by simp; omega
    go_enter Try.func5, Try.ntmps5
    go_wp2_with (go_at_call 6; refine (AWK.out _).mono ?_; rintro _ _ ⟨rfl, x1, rfl⟩)
    go_ret
    exact Gives.mk rfl (World.below_past _ _)
  · obtain ⟨N, eN⟩ : ∃ N : Nat, y = N := ⟨y.toNat, by omega⟩
    have hN : N ≤ 500 := by omega
    have HX := hid (fun j (hj : j < n) => up_in hU (j := j) (by rw [en]; exact hj))
    have hW : ∀ j, j < (upL l).length → 1 ≤ atL (upL l) j ∧ atL (upL l) j ≤ 256 := fun j hj => by
      rw [up_length, en] at hj
      rw [up_at (by rw [en]; exact hj)]
      have := HX.out j hj
      omega
    have hWl : (upL l).length = n := by rw [up_length, en]
    have hSh := sharesF_id (W := upL l) (by omega) (by omega) hW eN (by omega)
    obtain ⟨hfair, hoff⟩ := fair_both hWl h1 h2 hN hW
    have HTK := hid (fun k (hk : k < n) => up_take (l := l) (k := k) (by rw [en]; exact hk))
    obtain ⟨W, eW⟩ : ∃ W, upL l = W := ⟨_, rfl⟩
    rw [eW] at hSh hWl HTK hfair hoff
    have HWL := hid hWl
    have HS : Hid (∀ w' A' c', n ≤ c' → Cells w' A' (i64s W) → Calls Try.prog 10 #[.slice A' n c', .int .i64 y] w' (GivesOwn 3 1 n (i64s (cK W N)) w')) := hid fun w' A' c' hc' h => by
      have := Shares_any A' n c' W hWl hc' (by unfold maxLen; omega) w' h y
      rwa [hSh, show (cK W N).length = n by unfold cK; rw [cntL_length]; exact hWl] at this
    have hCL : (cK W N).length = n := by unfold cK; rw [cntL_length]; exact hWl
    have HU := hid (fun A' B' c' d' w' (k1 : Cells w' A' (i64s (cK W N))) (k2 : Cells w' B' (i64s W)) => Fair_is (A := A') (B := B') (ca := c') (cb := d') hCL hWl hfair w' k1 k2)
    have HR := hid (fun A' B' c' d' w' (k1 : Cells w' A' (i64s (cK W N))) (k2 : Cells w' B' (i64s W)) => RFair_true A' B' c' d' n (cK W N) W n w' hCL hWl h1 (by omega) k1 k2 (by omega) hoff)
    have HEN := hid en
    have HC := hid hc
    have HEY := hid eN
    have d1 : decide (16 < (n : Int)) = false := by simp; omega
    have d1' : decide (16 < n) = false := by simp; omega
    have d2 : ((n : Int) == 0) = false := by simp; omega
    have d2' : (n == 0) = false := by simp; omega
    have d3 : decide (500 < y) = false := by simp; omega
    have e0 : IntKind.i64.wrap y = y := by rw [IntKind.wrap_i64]; omega
    clear en hc hU hW hSh eW hWl eN hfair hoff hCL
    go_enter Try.func5, Try.ntmps5
    go_upto_region 7 with (go_at_call 6; refine (AWK.out _).mono ?_; rintro _ _ ⟨rfl, x1, rfl⟩)
    obtain ⟨w1, ew1⟩ : ∃ w1, w1 = w.past x1 := ⟨_, rfl⟩
    have HI0 : Hid (Below w.heap.size w w1 ∧ w1.ownsRow w.heap.size 3 1 (.slice none 0 0) 0 (i64s (W.take 0))) := hid ⟨by rw [ew1]; exact w.below_past x1, World.ownsRow_nil _ _ _ _⟩
    rw [← ew1]
    clear ew1
    go_loopw [5, 25] (fun v5 i wr => ∃ k : Nat, i = .int .i64 k ∧ k ≤ n ∧ Hid (Below w.heap.size w wr ∧ wr.ownsRow w.heap.size 3 1 v5 k (i64s (W.take k)))) (fun _ i _ => n - natC i)
    case atStart => exact ⟨0, rfl, by omega, HI0⟩
    case round =>
      clear HI0
      obtain ⟨k, rfl, hk, HI⟩ := hrel
      obtain ⟨A5, c5, rfl⟩ := own_shape HI.out.2
      by_cases hlt : k < n
      · have hcw := HC.out.below HI.out.1
        obtain ⟨g, off, rfl, ck⟩ := u8_at hcw (k := k) (by rw [HEN.out]; exact hlt)
        have hx := HX.out k hlt
        have hT := HTK.out k hlt
        obtain ⟨x, ex⟩ : ∃ x, atL l k = x := ⟨_, rfl⟩
        rw [ex] at ck hx hT
        have e1 : IntKind.i64.wrap x = x := by rw [IntKind.wrap_i64]; omega
        have e2 : IntKind.i64.wrap (1 + x) = 1 + x := by rw [IntKind.wrap_i64]; omega
        have HT := hid hT
        have hBw : w.heap.size ≤ wr.heap.size := HI.out.1.size
        clear hT ex hcw
        go_wp2_with (at_builtin; refine wpList_pushB rfl (.tmp 29) (.tmp 33) 22 rfl 3 i0 (.int .i64 0) 1 8 Try.underlying22 hi hz0 hz1 hz2 rfl (by decide) w.heap.size hBw (.slice A5 k c5) k (i64s (W.take k)) rfl HI.out.2 _ #[.int .i64 (1 + x)] rfl rfl rfl (by simp [Value.oneCell']) (by omega) (by unfold maxLen; omega) ?_; intro w2 g2 cap2 ho2 hg2 hap2; have HN : Hid (Below w.heap.size w w2 ∧ w2.ownsRow w.heap.size 3 1 (.slice (some ⟨g2, 0, none⟩) (k + 1) cap2) (k + 1) (i64s (W.take (k + 1)))) := hid ⟨below_grown HI.out.1 HI.out.2 hg2, by rw [HT.out, ← i64s_snoc]; exact ho2⟩; clear ho2 hg2 hap2)
        go_roundw
        case rel => exact ⟨k + 1, by go_num, by omega, HN⟩
        case measure => simp [natC]; omega
      · obtain rfl : k = n := by omega
        have hI := HI.out
        rw [List.take_of_length_le (by rw [HWL.out]; exact Nat.le_refl _)] at hI
        have hf5 := own_fits hI.2
        have HSC := hid (HS.out wr A5 c5 hf5 (Cells.of_own hI.2))
        have HI2 := hid hI
        clear hI HI HS
        go_upto_region 12 with (go_at_call 10; refine HSC.out.mono ?_; rintro _ w6 ⟨A8, c8, rfl, hb6, ho8⟩)
        have HB6 := hid (HI2.out.1.trans (hb6.mono HI2.out.1.size))
        have HC6 := hid ((Cells.of_own HI2.out.2).below hb6)
        have HO8 := hid (Cells.of_own ho8)
        clear hb6 ho8 HSC HI2
        go_wp2_with (first | (go_at_call 11; refine (HU.out _ _ _ _ _ HO8.out HC6.out).mono ?_; rintro _ _ ⟨rfl, x3, rfl⟩) | (go_at_call 12; refine (HR.out _ _ _ _ _ (HO8.out.past x3) (HC6.out.past x3)).mono ?_; rintro _ _ ⟨rfl, x4, rfl⟩))
        go_ret
        refine Gives.mk rfl ?_
        exact HB6.out.trans ((World.below_past _ _).mono HB6.out.size)
theorem strideFair_own : ownKnob Try.prog.godebug = none := by kernel_rfl
theorem strideFair_laidOut : laidOutB Try.prog = true := by kernel_rfl
theorem strideFair_types : ∀ t ∈ Try.f5.params.toList, Try.prog.readableRec t = true ∧ t < Try.prog.types.size := by
  rw [Try.params5]
  intro t ht
  simp only [List.mem_cons, List.not_mem_nil, or_false] at ht
  rcases ht with rfl | rfl
  · exact ⟨by kernel_rfl, of_decide_eq_true (by kernel_rfl)⟩
  · exact ⟨by kernel_rfl, of_decide_eq_true (by kernel_rfl)⟩
set_option maxRecDepth 100000 in
theorem strideFair_lifted (os : Os) (started : os.Started) (H : Type) (enc : TypeId × Value → H) :
    ReturnsInHanded {} Try.checked os 5 .any (Rows.strideFairSpec.pre6 enc Try.prog Try.f5 Rows.strideFairRow.domain false) (Rows.strideFairSpec.post enc Try.prog Try.f5 false true false false) := by
  refine returnsInHanded_of_change (C := Try.checked) strideFair_own started (by kernel_rfl) Try.func5
    (ChangeSpec.witness6 (enc := enc) (C := Try.checked) false ⟨#[], #[.slice none 0 0, .int .u16 0], []⟩ 8 (by kernel_rfl) (by kernel_rfl) (by kernel_rfl) (by kernel_rfl)) ?_
  intro W base args ds gs before hval0 hW hcnd _
  have hval : ∀ (j : Nat) t v, Try.f5.params[j]? = some t → args[j]? = some v → Value.okWide Try.prog W .any base t v := hval0
  have hW' := hW
  obtain ⟨p, q, hA0, hV, hpq, hfz, hnd⟩ := hW
  have hA : DataW.TrodAll enc Try.prog W 0 (fun _ => true) true Try.f5.params.toList args.toList ds p := hA0
  rw [Try.params5] at hA hval
  obtain ⟨v0, vs0, d0, ds0, p0, q0, hargs, rfl, rfl, h0, r0⟩ := trodAll_cons hA
  obtain ⟨v1, vs1, d1, ds1, p1, q1, rfl, rfl, rfl, h1, r1⟩ := trodAll_cons r0
  obtain ⟨rfl, rfl, rfl⟩ := trodAll_nil r1
  obtain rfl : args = #[v0, v1] := by cases args; simp_all
  have k0 := hval 0 29 v0 rfl rfl
  have k1 := hval 1 30 v1 rfl rfl
  clear hA0 hval0 hval hcnd hfz hnd hpq hV hargs r1
  suffices hs : Calls Try.prog 5 #[v0, v1] W (Gives (.bool true) W) from hs.mono fun e W' ⟨he, x, hx⟩ => ⟨_, he, law_post strideFair_laidOut hW' rfl rfl (by kernel_rfl) (by first | exact Try.underlying4 | rfl) strideFair_types (hx ▸ W.below_past x)⟩
  clear hW'
  obtain ⟨A, ca, l, rfl, ha, hK, hl⟩ := rd_ints_row (rd_slice Try.underlying29 k0 h0) Try.underlying29 Try.underlying5 cs_u8t (K := U8) (fun _ h => u8_of h)
  obtain ⟨x1, rfl, _, _, w1⟩ := open_int Try.underlying30 k1 h1
  exact StrideFair_any A ca _ l rfl (fun x hx => by have := hK x hx; unfold U8 at this; omega) x1 (by have := u16_of w1; unfold U16 at this; omega) W ha
theorem strideFair_holds : Rows.StrideFairSaid :=
  OpenClaim.holds_of_wide 5 Try.f5 rfl rfl rfl rfl rfl rfl rfl ⟨rfl, rfl, rfl, rfl, rfl⟩ rfl rfl rfl rfl rfl (by kernel_rfl) Try.func5 (by kernel_rfl)
    (of_decide_eq_true (by kernel_rfl)) (by unfold Func.isWrapper; first | (rw [if_pos (by decide +kernel)]; kernel_rfl) | (rw [if_neg (by decide +kernel)]; exact ⟨rfl, rfl⟩))
    (fun os started H enc _ => strideFair_lifted os started H enc)
end Go.Proofs.Ytjhjkchcjpijaaa
