/-
  Layer 36's GanttParts: a row up to some time, and the one behind it, are the row of both. No condition.
-/
import Derived.Test.YtphlbomcnholhaaLawTells
namespace Go.Proofs.Ytphlbomcnholhaa
open Go.RowKit Go.ChangeShapes Go.WideShapes Go.ChangeAt
theorem rowL_add (l : List Ev) (core fr : Int) (a : Nat) : ∀ b, rowL l core fr (a + b) = rowL l core fr a ++ rowL l core (fr + a) b := by
  intro b
  induction b with
  | zero => simp [rowL]
  | succ b ih =>
    rw [← Nat.add_assoc, rowL, rowL, ih, List.append_assoc, show fr + ((a + b : Nat) : Int) = fr + a + b by omega]
theorem row_parts (l : List Ev) (core x y z : Int) (hx : 0 ≤ x) (hy : 0 ≤ y ∧ y ≤ 90) (hz : 0 ≤ z ∧ z ≤ 90) :
    rowF l core x (x + y + 1 + z) = rowF l core x (x + y) ++ rowF l core (x + y + 1) (x + y + 1 + z) ∧ (rowF l core x (x + y + 1 + z)).length = (y + z + 2).toNat := by
  have c1 : rowCnt x (x + y + 1 + z) = (y + 1).toNat + (z + 1).toNat := by unfold rowCnt; rw [if_neg (by omega)]; omega
  have c2 : rowCnt x (x + y) = (y + 1).toNat := by unfold rowCnt; rw [if_neg (by omega)]; omega
  have c3 : rowCnt (x + y + 1) (x + y + 1 + z) = (z + 1).toNat := by unfold rowCnt; rw [if_neg (by omega)]; omega
  unfold rowF
  rw [c1, c2, c3, rowL_add, show x + (((y + 1).toNat : Nat) : Int) = x + y + 1 by omega]
  refine ⟨rfl, ?_⟩
  rw [List.length_append, row_length, row_length]
  omega
set_option maxHeartbeats 4000000 in
theorem GanttParts_any (A : Option Addr) (ca n : Nat) (l : List Ev) (en : l.length = n) (hmx : n ≤ maxLen) (core x y z : Int) (hx : U8 x) (hy : U8 y) (hz : U8 z) (w : World) (ha : Cells w A (tab evV l)) :
    Calls Try.prog 4 #[.slice A n ca, .int .i64 core, .agg #[.int .u8 x, .int .u8 y, .int .u8 z]] w (Gives (.bool true) w) := by
  unfold U8 at hx hy hz
  obtain ⟨W, eW⟩ : ∃ W, W = w.alloc (.cells #[.int .u8 x, .int .u8 y, .int .u8 z] 31) := ⟨_, rfl⟩
  have hBW : Below w.heap.size w W := by rw [eW]; exact (Below.refl _ w).alloc (Nat.le_refl _) _
  have q0 : W.cell? ⟨w.heap.size, 0, none⟩ = some (.int .u8 x) := by rw [eW, World.cell?_alloc_new]; rfl
  have q1 : W.cell? ⟨w.heap.size, 1, none⟩ = some (.int .u8 y) := by rw [eW, World.cell?_alloc_new]; rfl
  have q2 : W.cell? ⟨w.heap.size, 2, none⟩ = some (.int .u8 z) := by rw [eW, World.cell?_alloc_new]; rfl
  have EW := hid eW
  clear eW
  by_cases h60 : 60 < n
  · clear en ha
    go_enter Try.func4, Try.ntmps4
    go_wp2_with fail
    rw [← EW.out]
    refine (awake_any _).mono ?_
    rintro _ _ ⟨rfl, x1, rfl⟩
    go_wp2_with fail
    go_ret
    exact Gives.mk rfl (RowKit.Below.past hBW _)
  · by_cases h1 : 90 < y
    · clear en ha
      go_enter Try.func4, Try.ntmps4
      go_wp2_with fail
      rw [← EW.out]
      refine (awake_any _).mono ?_
      rintro _ _ ⟨rfl, x1, rfl⟩
      go_wp2_with fail
      go_ret
      exact Gives.mk rfl (RowKit.Below.past hBW _)
    · by_cases h2 : 90 < z
      · clear en ha
        go_enter Try.func4, Try.ntmps4
        go_wp2_with fail
        rw [← EW.out]
        refine (awake_any _).mono ?_
        rintro _ _ ⟨rfl, x1, rfl⟩
        go_wp2_with fail
        go_ret
        exact Gives.mk rfl (RowKit.Below.past hBW _)
      · obtain ⟨e1, e2⟩ := row_parts l core x y z (by omega) (by omega) (by omega)
        have HW := hid (fun fr to (hf : U64 fr) (ht : U64 to) p => Row_any A ca n l en (by omega) core fr to hf ht (W.past p) (ha.below (below_trans' hBW (W.below_past p))))
        have P1 := hid (HW.out x (x + y + 1 + z) (by unfold U64; omega) (by unfold U64; omega))
        have P2 := hid (HW.out x (x + y) (by unfold U64; omega) (by unfold U64; omega))
        have P3 := hid (HW.out (x + y + 1) (x + y + 1 + z) (by unfold U64; omega) (by unfold U64; omega))
        rw [e1] at P1 e2
        have hl1 := rowF_length l core x (x + y)
        have hl2 := rowF_length l core (x + y + 1) (x + y + 1 + z)
        generalize rowF l core x (x + y) = R1 at P1 P2 e2 hl1
        generalize rowF l core (x + y + 1) (x + y + 1 + z) = R2 at P1 P3 e2 hl2
        have w1 : IntKind.u64.wrap x = x := by rw [IntKind.wrap_u64]; omega
        have w2 : IntKind.u64.wrap y = y := by rw [IntKind.wrap_u64]; omega
        have w3 : IntKind.u64.wrap z = z := by rw [IntKind.wrap_u64]; omega
        have w4 : IntKind.u64.wrap (x + y) = x + y := by rw [IntKind.wrap_u64]; omega
        have w5 : IntKind.u64.wrap (x + y + 1) = x + y + 1 := by rw [IntKind.wrap_u64]; omega
        have w6 : IntKind.u64.wrap (x + y + 1 + z) = x + y + 1 + z := by rw [IntKind.wrap_u64]; omega
        have v1 : IntKind.i64.wrap y = y := by rw [IntKind.wrap_i64]; omega
        have v2 : IntKind.i64.wrap z = z := by rw [IntKind.wrap_i64]; omega
        have v3 : IntKind.i64.wrap (y + z) = y + z := by rw [IntKind.wrap_i64]; omega
        have v4 : IntKind.i64.wrap (y + z + 2) = y + z + 2 := by rw [IntKind.wrap_i64]; omega
        have hs0 : ((⟨(R1 ++ R2).toArray⟩ : ByteArray).size : Int) = y + z + 2 := by rw [size_of_list, e2]; omega
        have hs1 := size_of_list R1
        have hs2 := size_of_list R2
        have hcat : (⟨R1.toArray⟩ : ByteArray) ++ ⟨R2.toArray⟩ = ⟨(R1 ++ R2).toArray⟩ := by rw [str_append]
        have HE := hid (show ((R1.length : Int) + R2.length == y + z + 2) = true by rw [List.length_append] at e2; simp; omega)
        clear en ha e1 e2 HW
        go_enter Try.func4, Try.ntmps4
        go_wp2_with fail
        rw [← EW.out]
        refine (awake_any _).mono ?_
        rintro _ _ ⟨rfl, x1, rfl⟩
        go_wp2_with (go_at_call 8; first | ((with_reducible refine (P1.out _).mono ?_); rintro _ _ ⟨rfl, x5, rfl⟩) | ((with_reducible refine (P2.out _).mono ?_); rintro _ _ ⟨rfl, x5, rfl⟩) | ((with_reducible refine (P3.out _).mono ?_); rintro _ _ ⟨rfl, x5, rfl⟩))
        go_ret
        refine Gives.mk ?_ (RowKit.Below.past hBW _)
        show Value.bool _ = _
        rw [HE.out]
theorem c_three_5 : Try.prog.cellsOf 5 = 1 := by kernel_rfl
theorem c_three : Try.prog.cellsOf 31 = 3 := by kernel_rfl
theorem rd_three {H : Type} {enc : TypeId × Value → H} {W : World} {cs : Array Value} (h : Rd enc Try.prog W 31 cs.toList) : ∃ x0 x1 x2 : Int, cs = #[.int .u8 x0, .int .u8 x1, .int .u8 x2] ∧ U8 x0 ∧ U8 x1 ∧ U8 x2 := by
  obtain ⟨c0, c1, c2, e⟩ := cs_three (h.len_array Try.underlying31 c_three)
  rw [e] at h
  obtain ⟨x0, e0, w0⟩ := Rd.int (h.elem Try.underlying31 0 (by decide) 1 c_three_5) Try.underlying5
  obtain ⟨x1, e1, w1⟩ := Rd.int (h.elem Try.underlying31 1 (by decide) 1 c_three_5) Try.underlying5
  obtain ⟨x2, e2, w2⟩ := Rd.int (h.elem Try.underlying31 2 (by decide) 1 c_three_5) Try.underlying5
  simp at e0 e1 e2
  subst e0 e1 e2
  exact ⟨x0, x1, x2, arr_of e, u8_of w0, u8_of w1, u8_of w2⟩
theorem ganttParts_own : ownKnob Try.prog.godebug = none := by kernel_rfl
theorem ganttParts_laidOut : laidOutB Try.prog = true := by kernel_rfl
theorem ganttParts_types : ∀ t ∈ Try.f4.params.toList, Try.prog.readableRec t = true ∧ t < Try.prog.types.size := by
  rw [Try.params4]
  intro t ht
  simp only [List.mem_cons, List.not_mem_nil, or_false] at ht
  rcases ht with rfl | rfl | rfl
  · exact ⟨by kernel_rfl, of_decide_eq_true (by kernel_rfl)⟩
  · exact ⟨by kernel_rfl, of_decide_eq_true (by kernel_rfl)⟩
  · exact ⟨by kernel_rfl, of_decide_eq_true (by kernel_rfl)⟩
set_option maxRecDepth 100000 in
theorem ganttParts_lifted (os : Os) (started : os.Started) (H : Type) (enc : TypeId × Value → H) :
    ReturnsInHanded {} Try.checked os 4 .any (Rows.ganttPartsSpec.pre6 enc Try.prog Try.f4 Rows.ganttPartsRow.domain false) (Rows.ganttPartsSpec.post enc Try.prog Try.f4 false true false false) := by
  refine returnsInHanded_of_change (C := Try.checked) ganttParts_own started (by kernel_rfl) Try.func4
    (ChangeSpec.witness6 (enc := enc) (C := Try.checked) false ⟨#[], #[.slice none 0 0, .int .i64 0, .agg #[.int .u8 0, .int .u8 0, .int .u8 0]], []⟩ 8 (by kernel_rfl) (by kernel_rfl) (by kernel_rfl) (by kernel_rfl)) ?_
  intro W base args ds gs before hval0 hW hcnd _
  have hval : ∀ (j : Nat) t v, Try.f4.params[j]? = some t → args[j]? = some v → Value.okWide Try.prog W .any base t v := hval0
  have hW' := hW
  obtain ⟨p, q, hA0, hV, hpq, hfz, hnd⟩ := hW
  have hA : DataW.TrodAll enc Try.prog W 0 (fun _ => true) true Try.f4.params.toList args.toList ds p := hA0
  rw [Try.params4] at hA hval
  obtain ⟨v0, vs0, d0, ds0, p0, q0, hargs, rfl, rfl, h0, r0⟩ := trodAll_cons hA
  obtain ⟨v1, vs1, d1, ds1, p1, q1, rfl, rfl, rfl, h1, r1⟩ := trodAll_cons r0
  obtain ⟨v2, vs2, d2, ds2, p2, q2, rfl, rfl, rfl, h2, r2⟩ := trodAll_cons r1
  obtain ⟨rfl, rfl, rfl⟩ := trodAll_nil r2
  obtain rfl : args = #[v0, v1, v2] := by cases args; simp_all
  have k0 := hval 0 22 v0 rfl rfl
  have k1 := hval 1 3 v1 rfl rfl
  have k2 := hval 2 31 v2 rfl rfl
  clear hA0 hval0 hval hcnd hfz hnd hpq hV hargs r2
  suffices hs : Calls Try.prog 4 #[v0, v1, v2] W (Gives (.bool true) W) from hs.mono fun e W' ⟨he, x, hx⟩ => ⟨_, he, law_post ganttParts_laidOut hW' rfl rfl (by kernel_rfl) (by first | exact Try.underlying4 | rfl) ganttParts_types (hx ▸ W.below_past x)⟩
  clear hW'
  obtain ⟨A, ca, l, rfl, ha, _, hl⟩ := rd_tab evV_length (by omega) (rd_slice Try.underlying22 k0 h0) Try.underlying22 c_event rd_ev
  obtain ⟨x1, rfl, _, _, w1⟩ := open_int Try.underlying3 k1 h1
  obtain ⟨cs, rfl, hr⟩ := rd_agg (.inr ⟨_, _, Try.underlying31⟩) k2 h2
  obtain ⟨y0, y1, y2, rfl, g0, g1, g2⟩ := rd_three hr
  exact GanttParts_any A ca _ l rfl hl x1 y0 y1 y2 g0 g1 g2 W ha
theorem ganttParts_holds : Rows.GanttPartsSaid :=
  OpenClaim.holds_of_wide 4 Try.f4 rfl rfl rfl rfl rfl rfl rfl ⟨rfl, rfl, rfl, rfl, rfl⟩ rfl rfl rfl rfl rfl (by kernel_rfl) Try.func4 (by kernel_rfl)
    (of_decide_eq_true (by kernel_rfl)) (by unfold Func.isWrapper; first | (rw [if_pos (by decide +kernel)]; kernel_rfl) | (rw [if_neg (by decide +kernel)]; exact ⟨rfl, rfl⟩))
    (fun os started H enc _ => ganttParts_lifted os started H enc)
end Go.Proofs.Ytphlbomcnholhaa
