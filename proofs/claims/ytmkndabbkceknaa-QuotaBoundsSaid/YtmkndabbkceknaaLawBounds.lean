/-
  Layer 38's QuotaBounds: in no period more is taken than the budget, if nothing is given. No condition.
-/
import Derived.Test.YtmkndabbkceknaaAwake
namespace Go.Proofs.Ytmkndabbkceknaa
open Go.RowKit Go.ChangeShapes Go.WideShapes Go.ChangeAt
def pairU (x : Int × Int) : List Value := [.int .u16 x.1, .int .u16 x.2]
theorem pairU_length (x : Int × Int) : (pairU x).length = 2 := rfl
/-- The bucket, and what was taken in this period. -/
structure Sp (n p : Int) (b : Bk) (t taken : Int) (k : Nat) : Prop where
  ok : BkOk b
  bud : b.bud = bringF n 1 1048576
  per : b.per = bringF p 1 1048576
  now : b.now = t
  sum : taken = b.bud - b.left
  lim : 0 ≤ t ∧ t ≤ 65536 * k
def spT (P now next taken : Int) : Int := if (next / P != now / P) = true then 0 else taken
theorem sp_step {n p : Int} {b : Bk} {t taken : Int} {k : Nat} (hk : k ≤ 1000) (h : Sp n p b t taken k) {x y : Int} (hx : U16 x) (hy : U16 y) :
    b.no (t + x) y = false ∧ 0 ≤ b.takeK (t + x) y ∧ b.takeK (t + x) y ≤ y ∧ spT b.per t (t + x) taken + b.takeK (t + x) y ≤ b.bud ∧ 0 ≤ spT b.per t (t + x) taken ∧
      (b.takeK (t + x) y < y → spT b.per t (t + x) taken + b.takeK (t + x) y = b.bud) ∧ Sp n p (b.take (t + x) y) (t + x) (spT b.per t (t + x) taken + b.takeK (t + x) y) (k + 1) := by
  have hno : b.no (t + x) y = false := by
    have := h.now; have := hx.1; have := hy.1
    simp [Bk.no]
    omega
  have hl := h.ok.left
  have hat : b.atF (t + x) = b.bud - spT b.per t (t + x) taken := by
    unfold Bk.atF spT
    rw [h.now]
    have := h.sum
    split <;> omega
  have ha := atF_in h.ok (t + x)
  have hK : b.takeK (t + x) y = min y (b.atF (t + x)) := by simp [Bk.takeK, hno]
  have hT : b.take (t + x) y = ⟨b.bud, b.per, t + x, b.atF (t + x) - min y (b.atF (t + x))⟩ := by simp [Bk.take, hno]
  have hy0 := hy.1
  have hx0 := hx.1
  have hx1 := hx.2
  have h1 := h.ok.bud
  have h2 := h.lim
  refine ⟨hno, by omega, by omega, by omega, by omega, by omega, ?_⟩
  rw [hT, hK]
  refine ⟨⟨h.ok.bud, h.ok.per, ?_, ?_⟩, h.bud, h.per, rfl, ?_, ?_⟩
  · exact ⟨by show 0 ≤ t + x; omega, by show t + x < 18446744073709551616; omega⟩
  · show 0 ≤ b.atF (t + x) - min y (b.atF (t + x)) ∧ b.atF (t + x) - min y (b.atF (t + x)) ≤ b.bud
    omega
  · show spT b.per t (t + x) taken + min y (b.atF (t + x)) = b.bud - (b.atF (t + x) - min y (b.atF (t + x)))
    omega
  · omega
set_option maxHeartbeats 4000000 in
theorem QuotaBounds_any (n p : Int) (hn : I64 n) (hp : I64 p) (A : Option Addr) (ca : Nat) (l : List (Int × Int)) (m : Nat) (em : l.length = m) (w : World) (hI : ∀ x ∈ l, U16 x.1 ∧ U16 x.2) (ha : Cells w A (tab pairU l)) :
    Calls Try.prog 3 #[.agg #[.int .i64 n, .int .i64 p], .slice A m ca] w (Gives (.bool true) w) := by
  have EM := hid em
  have HA := hid ha
  have HN := hid hn
  have HP := hid hp
  clear em ha hn hp
  by_cases hbig : 100 < m
  · go_enter Try.func3, Try.ntmps3
    go_wp2_with ((go_at_call 5; refine (awake_any _).mono ?_; rintro _ _ ⟨rfl, _, rfl⟩))
    go_ret
    refine Gives.mk rfl ?_
    (repeat (first | exact Below.refl _ _ | refine RowKit.Below.past ?_ _ | refine RowKit.Below.alloc' ?_ _ | refine RowKit.Below.drew' ?_ | refine RowKit.Below.drewN' ?_ _ | refine RowKit.Below.setCell' ?_ (by simp [go_sem]) _))
  · obtain ⟨B, eB⟩ : ∃ B, bringF n 1 1048576 = B := ⟨_, rfl⟩
    obtain ⟨P, eP⟩ : ∃ P, bringF p 1 1048576 = P := ⟨_, rfl⟩
    have hb := bring_in n
    have hp := bring_in p
    rw [eB] at hb
    rw [eP] at hp
    have e1 : IntKind.u64.wrap P = P := by rw [IntKind.wrap_u64]; omega
    have EB := hid eB
    have EP := hid eP
    have q1 : ∀ w', Calls Try.prog 7 #[.int .i64 n, .int .i64 1, .int .i64 1048576] w' (Gives (.int .i64 B) w') := fun w' => by have := Bring_any n 1 1048576 w'; rw [EB.out] at this; exact this
    have q2 : ∀ w', Calls Try.prog 7 #[.int .i64 p, .int .i64 1, .int .i64 1048576] w' (Gives (.int .i64 P) w') := fun w' => by have := Bring_any p 1 1048576 w'; rw [EP.out] at this; exact this
    clear eB eP hb hp
    go_enter Try.func3, Try.ntmps3
    go_wp2_with ((go_at_call 5; refine (awake_any _).mono ?_; rintro _ _ ⟨rfl, _, rfl⟩))
    refine (bk_new n p HN.out HP.out _).mono ?_
    rintro _ w1 ⟨g, rfl, hb1, hg, h1⟩
    have c0 := below_cell hb1 (Nat.le_refl _) ⟨w.heap.size, 0, none⟩ (.int .i64 n) (by simp [go_sem])
    have c1 := below_cell hb1 (Nat.le_refl _) ⟨w.heap.size, 1, none⟩ (.int .i64 p) (by simp [go_sem])
    have HB1 := hid (show Below w.heap.size w w1 from below_trans' (by (repeat (first | exact Below.refl _ _ | refine RowKit.Below.past ?_ _ | refine RowKit.Below.alloc' ?_ _ | refine RowKit.Below.drew' ?_ | refine RowKit.Below.drewN' ?_ _ | refine RowKit.Below.setCell' ?_ (by simp [go_sem]) _))) hb1)
    have HG := hid (show w.heap.size ≤ g by simp [go_sem] at hg; omega)
    have H1 := hid h1
    clear hb1 hg h1
    go_wp2_with fail
    refine wp_region_past (by kernel_rfl) (by kernel_rfl) ?_
    repeat (go_big_quiet_step ((first | (go_at_call 7; first | with_reducible exact Calls.in_past (q1 _) | with_reducible exact Calls.in_past2 (q1 _)) | (go_at_call 7; first | with_reducible exact Calls.in_past (q2 _) | with_reducible exact Calls.in_past2 (q2 _)) | (go_at_call 7; first | exact Calls.in_past (q1 _) | exact Calls.in_past2 (q1 _)) | (go_at_call 7; first | exact Calls.in_past (q2 _) | exact Calls.in_past2 (q2 _)))))
    refine wpQuiet_nil ?_
    rintro _ ⟨_, rfl⟩
    go_wp2_with fail
    clear c0 c1 q1 q2
    go_loopw [8, 9, 34] (fun now taken i wr => ∃ (k : Nat) (b : Bk) (t s : Int), i = .int .i64 k ∧ k ≤ m ∧ now = .int .u64 t ∧ taken = .int .i64 s ∧ Hid (Below w.heap.size w wr) ∧ Hid (b.at wr g) ∧ Hid (Sp n p b t s k)) (fun _ _ i _ => m - (intOf i).toNat)
    case atStart =>
      refine ⟨0, newBk n p, 0, 0, rfl, by omega, rfl, rfl, hid ?_, hid (Rec.past H1.out _), hid ⟨newBk_ok n p, rfl, rfl, rfl, by simp [newBk], by omega⟩⟩
      exact RowKit.Below.past HB1.out _
    case round =>
      clear HB1 H1
      obtain ⟨k, b, t, s, rfl, hk, rfl, rfl, HB, HR, HS⟩ := hrel
      by_cases hlt : k < m
      · obtain ⟨x, hx⟩ : ∃ x, l[k]? = some x := ⟨_, List.getElem?_eq_getElem (by rw [EM.out]; exact hlt)⟩
        obtain ⟨b1, o1, rfl, hc⟩ := (HA.out.below HB.out).tab_at pairU_length hx (by omega)
        have hc1 := hc 0 _ rfl
        have hc2 := hc 1 _ rfl
        have hx12 := hI _ (List.mem_of_getElem? hx)
        obtain ⟨x, y⟩ := x
        simp only [Nat.add_zero] at hc1
        simp only at hc2
        obtain ⟨hx1, hy1⟩ := hx12
        simp only at hx1 hy1
        obtain ⟨s1, s2, s3, s4, s5, s6, s7⟩ := sp_step (by omega) HS.out hx1 hy1
        have hl0 := HS.out.lim
        have hT := bk_take g b (t + x) y ⟨by have := hx1.1; omega, by have := hx1.2; omega⟩ ⟨by have := hy1.1; omega, by have := hy1.2; omega⟩
        obtain ⟨K, eK⟩ : ∃ K, b.takeK (t + x) y = K := ⟨_, rfl⟩
        obtain ⟨b', eb⟩ : ∃ b', b.take (t + x) y = b' := ⟨_, rfl⟩
        have hper : b.per = P := by rw [HS.out.per, EP.out]
        have hbud : b.bud = B := by rw [HS.out.bud, EB.out]
        rw [eK, eb, s1, show (!false) = true from rfl] at hT
        clear hl0
        rw [eK] at s2 s3 s4 s6 s7
        rw [eb] at s7
        rw [hper] at s4 s5 s6 s7
        rw [hbud] at s4 s6
        have hl := HS.out.lim
        have hp1 := HS.out.ok.per
        rw [hper] at hp1
        have r1 := hx1.1
        have r2 := hx1.2
        have r3 := hy1.1
        have r4 := hy1.2
        obtain ⟨nx, enx⟩ : ∃ nx, t + x = nx := ⟨_, rfl⟩
        have w0 : IntKind.u64.wrap x = x := by rw [IntKind.wrap_u64]; omega
        have w1' : IntKind.u64.wrap (t + x) = nx := by rw [IntKind.wrap_u64]; omega
        have w2 : IntKind.i64.wrap y = y := by rw [IntKind.wrap_i64]; omega
        rw [enx] at s4 s5 s6 s7 hT
        have d1 := Int.ediv_le_self P (show 0 ≤ nx by omega)
        have d2 := Int.ediv_nonneg (show 0 ≤ nx by omega) (show 0 ≤ P by omega)
        have d3 := Int.ediv_le_self P (show 0 ≤ t by omega)
        have d4 := Int.ediv_nonneg (show 0 ≤ t by omega) (show 0 ≤ P by omega)
        have w3 : IntKind.u64.wrap (nx.tdiv P) = nx / P := by rw [Int.tdiv_eq_ediv_of_nonneg (by omega), IntKind.wrap_u64]; omega
        have w4 : IntKind.u64.wrap (t.tdiv P) = t / P := by rw [Int.tdiv_eq_ediv_of_nonneg (by omega), IntKind.wrap_u64]; omega
        have p0 : ¬ P = 0 := by omega
        have f1 : decide (K < 0) = false := by simp; omega
        have f2 : decide (y < K) = false := by simp; omega
        obtain ⟨s', es⟩ : ∃ s', spT P t nx s + K = s' := ⟨_, rfl⟩
        rw [es] at s4 s6 s7
        have f3 : decide (B < s') = false := by simp; omega
        have w5 : IntKind.i64.wrap (spT P t nx s + K) = s' := by rw [es, IntKind.wrap_i64]; have := HS.out.ok.bud; omega
        have HT := hid hT
        have HS' := hid s7
        have H6 := hid s6
        clear hT s7 s6 s1 s2 s3 s4 s5 hc hx eK eb hper hbud hl hp1 r1 r2 r3 r4 enx d1 d2 d3 d4 es hx1 hy1
        have hc6 : (decide (K < y) = true ∧ (s' != B) = false) ∨ decide (K < y) = false := by
          by_cases h : K < y
          · exact .inl ⟨by simp [h], by simp [H6.out h]⟩
          · exact .inr (by simp [h])
        rcases Bool.eq_false_or_eq_true (nx / P != t / P) with hd | hd
        · have w6 : IntKind.i64.wrap K = s' := by rw [← w5]; simp [spT, hd]
          have w7 : IntKind.i64.wrap (0 + K) = s' := by rw [← w5]; simp [spT, hd]
          clear w5
          rcases hc6 with ⟨g1, g2⟩ | g1
          all_goals
            go_wp2_with fail
            refine wp_region_past (by kernel_rfl) (by kernel_rfl) ?_
            repeat (go_big_quiet_step ((fail)))
            refine wpQuiet_nil ?_
            rintro _ ⟨_, rfl⟩
            go_wp2_with fail
            refine (HT.out _ HS.out.ok (Rec.past (Rec.alloc HR.out _) _)).mono ?_
            rintro _ w9 ⟨rfl, hk9, hr9⟩
            have HB9 := hid (hk9.to_below (show Below w.heap.size w _ from RowKit.Below.past (RowKit.Below.alloc' HB.out _) _) (Nat.le_trans HB.out.size (by simp [go_sem]; omega)) (fun k hk => by subst hk; exact HG.out))
            have c9 := hk9.cell (a := ⟨wr.heap.size, 1, none⟩) (v := .int .u16 y) (by simp [go_sem]) (by have := HR.out.lt; show ¬ wr.heap.size = g; omega)
            have l9 : wr.heap.size < w9.heap.size := World.block_lt_of_cell? w9 _ c9
            have HR9 := hid hr9
            clear hk9 hr9 HT HR HB
            go_wp2_with fail
            go_roundw
            case rel => exact ⟨k + 1, b', nx, s', by go_num, by omega, rfl, rfl, HB9, HR9, HS'⟩
            case measure => simp [intOf]; omega
        · have w6 : IntKind.i64.wrap (s + K) = s' := by rw [← w5]; simp [spT, hd]
          clear w5
          rcases hc6 with ⟨g1, g2⟩ | g1
          all_goals
            go_wp2_with fail
            refine wp_region_past (by kernel_rfl) (by kernel_rfl) ?_
            repeat (go_big_quiet_step ((fail)))
            refine wpQuiet_nil ?_
            rintro _ ⟨_, rfl⟩
            go_wp2_with fail
            refine (HT.out _ HS.out.ok (Rec.past (Rec.alloc HR.out _) _)).mono ?_
            rintro _ w9 ⟨rfl, hk9, hr9⟩
            have HB9 := hid (hk9.to_below (show Below w.heap.size w _ from RowKit.Below.past (RowKit.Below.alloc' HB.out _) _) (Nat.le_trans HB.out.size (by simp [go_sem]; omega)) (fun k hk => by subst hk; exact HG.out))
            have c9 := hk9.cell (a := ⟨wr.heap.size, 1, none⟩) (v := .int .u16 y) (by simp [go_sem]) (by have := HR.out.lt; show ¬ wr.heap.size = g; omega)
            have l9 : wr.heap.size < w9.heap.size := World.block_lt_of_cell? w9 _ c9
            have HR9 := hid hr9
            clear hk9 hr9 HT HR HB
            go_wp2_with fail
            go_roundw
            case rel => exact ⟨k + 1, b', nx, s', by go_num, by omega, rfl, rfl, HB9, HR9, HS'⟩
            case measure => simp [intOf]; omega
      · obtain rfl : k = m := by omega
        go_wp2
        go_ret
        exact Gives.mk rfl HB.out
theorem c_two_3 : Try.prog.cellsOf 3 = 1 := by kernel_rfl
theorem c_two : Try.prog.cellsOf 22 = 2 := by kernel_rfl
theorem rd_two {H : Type} {enc : TypeId × Value → H} {W : World} {cs : Array Value} (h : Rd enc Try.prog W 22 cs.toList) : ∃ x0 x1 : Int, cs = #[.int .i64 x0, .int .i64 x1] ∧ I64 x0 ∧ I64 x1 := by
  obtain ⟨c0, c1, e⟩ := cs_two (h.len_array Try.underlying22 c_two)
  rw [e] at h
  obtain ⟨x0, e0, w0⟩ := Rd.int (h.elem Try.underlying22 0 (by decide) 1 c_two_3) Try.underlying3
  obtain ⟨x1, e1, w1⟩ := Rd.int (h.elem Try.underlying22 1 (by decide) 1 c_two_3) Try.underlying3
  simp at e0 e1
  subst e0 e1
  exact ⟨x0, x1, arr_of e, i64_of w0, i64_of w1⟩
theorem c_step_29 : Try.prog.cellsOf 29 = 1 := by kernel_rfl
theorem c_step : Try.prog.cellsOf 31 = 2 := by kernel_rfl
theorem rd_step {H : Type} {enc : TypeId × Value → H} {W : World} {cs : Array Value} (h : Rd enc Try.prog W 31 cs.toList) : ∃ x0 x1 : Int, cs = #[.int .u16 x0, .int .u16 x1] ∧ U16 x0 ∧ U16 x1 := by
  obtain ⟨c0, c1, e⟩ := cs_two (h.len_struct Try.underlying31 c_step)
  rw [e] at h
  obtain ⟨x0, e0, w0⟩ := Rd.int (h.field Try.underlying31 0 29 0 1 rfl c_step_29) Try.underlying29
  obtain ⟨x1, e1, w1⟩ := Rd.int (h.field Try.underlying31 1 29 1 1 rfl c_step_29) Try.underlying29
  simp at e0 e1
  subst e0 e1
  exact ⟨x0, x1, arr_of e, u16_of w0, u16_of w1⟩
theorem rd_steps {H : Type} {enc : TypeId × Value → H} {W : World} {v : Value} (h : Rd enc Try.prog W 23 [v]) : ∃ (A : Option Addr) (c : Nat) (l : List (Int × Int)), v = .slice A l.length c ∧ Cells W A (tab pairU l) ∧ (∀ x ∈ l, U16 x.1 ∧ U16 x.2) ∧ l.length ≤ maxLen :=
  rd_tab pairU_length (by omega) h Try.underlying23 c_step (fun cs hcs => by
    obtain ⟨x0, x1, e, h0, h1⟩ := rd_step (cs := cs.toArray) hcs
    exact ⟨(x0, x1), by simpa [pairU] using congrArg Array.toList e, h0, h1⟩)
theorem quotaBounds_own : ownKnob Try.prog.godebug = none := by kernel_rfl
theorem quotaBounds_laidOut : laidOutB Try.prog = true := by kernel_rfl
theorem quotaBounds_types : ∀ t ∈ Try.f3.params.toList, Try.prog.readableRec t = true ∧ t < Try.prog.types.size := by
  rw [Try.params3]
  intro t ht
  simp only [List.mem_cons, List.not_mem_nil, or_false] at ht
  rcases ht with rfl | rfl
  · exact ⟨by kernel_rfl, of_decide_eq_true (by kernel_rfl)⟩
  · exact ⟨by kernel_rfl, of_decide_eq_true (by kernel_rfl)⟩
set_option maxRecDepth 100000 in
theorem quotaBounds_lifted (os : Os) (started : os.Started) (H : Type) (enc : TypeId × Value → H) :
    ReturnsInHanded {} Try.checked os 3 .any (Rows.quotaBoundsSpec.pre6 enc Try.prog Try.f3 Rows.quotaBoundsRow.domain false) (Rows.quotaBoundsSpec.post enc Try.prog Try.f3 false true false false) := by
  refine returnsInHanded_of_change (C := Try.checked) quotaBounds_own started (by kernel_rfl) Try.func3
    (ChangeSpec.witness6 (enc := enc) (C := Try.checked) false ⟨#[], #[.agg #[.int .i64 0, .int .i64 0], .slice none 0 0], []⟩ 8 (by kernel_rfl) (by kernel_rfl) (by kernel_rfl) (by kernel_rfl)) ?_
  intro W base args ds gs before hval0 hW hcnd _
  have hval : ∀ (j : Nat) t v, Try.f3.params[j]? = some t → args[j]? = some v → Value.okWide Try.prog W .any base t v := hval0
  have hW' := hW
  obtain ⟨p, q, hA0, hV, hpq, hfz, hnd⟩ := hW
  have hA : DataW.TrodAll enc Try.prog W 0 (fun _ => true) true Try.f3.params.toList args.toList ds p := hA0
  rw [Try.params3] at hA hval
  obtain ⟨v0, vs0, d0, ds0, p0, q0, hargs, rfl, rfl, h0, r0⟩ := trodAll_cons hA
  obtain ⟨v1, vs1, d1, ds1, p1, q1, rfl, rfl, rfl, h1, r1⟩ := trodAll_cons r0
  obtain ⟨rfl, rfl, rfl⟩ := trodAll_nil r1
  obtain rfl : args = #[v0, v1] := by cases args; simp_all
  have k0 := hval 0 22 v0 rfl rfl
  have k1 := hval 1 23 v1 rfl rfl
  clear hA0 hval0 hval hcnd hfz hnd hpq hV hargs r1
  suffices hs : Calls Try.prog 3 #[v0, v1] W (Gives (.bool true) W) from hs.mono fun e W' ⟨he, x, hx⟩ => ⟨_, he, law_post quotaBounds_laidOut hW' rfl rfl (by kernel_rfl) (by first | exact Try.underlying4 | rfl) quotaBounds_types (hx ▸ W.below_past x)⟩
  clear hW'
  obtain ⟨cs, rfl, hr⟩ := rd_agg (.inr ⟨_, _, Try.underlying22⟩) k0 h0
  obtain ⟨x0, x1, rfl, hx0, hx1⟩ := rd_two hr
  obtain ⟨A, ca, l, rfl, ha, hI, hl⟩ := rd_steps (rd_slice Try.underlying23 k1 h1)
  exact QuotaBounds_any x0 x1 hx0 hx1 A ca l _ rfl W hI ha
theorem quotaBounds_holds : Rows.QuotaBoundsSaid :=
  OpenClaim.holds_of_wide 3 Try.f3 rfl rfl rfl rfl rfl rfl rfl ⟨rfl, rfl, rfl, rfl, rfl⟩ rfl rfl rfl rfl rfl (by kernel_rfl) Try.func3 (by kernel_rfl)
    (of_decide_eq_true (by kernel_rfl)) (by unfold Func.isWrapper; first | (rw [if_pos (by decide +kernel)]; kernel_rfl) | (rw [if_neg (by decide +kernel)]; exact ⟨rfl, rfl⟩))
    (fun os started H enc _ => quotaBounds_lifted os started H enc)
end Go.Proofs.Ytmkndabbkceknaa
