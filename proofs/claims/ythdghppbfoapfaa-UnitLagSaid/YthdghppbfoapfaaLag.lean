/-
  UnitLag holds for every input: ticks that were paid for are fair, up to as many as there are of them, times the reach in ticks. No condition.
-/
import Derived.Test.YthdghppbfoapfaaLagM
import Derived.Deep.RegionHeld3
namespace Go.Proofs.Ythdghppbfoapfaa
open Go.RowKit Go.ChangeShapes Go.WideShapes Go.ChangeAt
def u16s (l : List Int) : List Value := l.map (Value.int .u16)
def u8s (l : List Int) : List Value := l.map (Value.int .u8)
theorem u16_at {w : World} {A : Option Addr} {l : List Int} (h : Cells w A (u16s l)) {k : Nat} (hk : k < l.length) : ∃ b off : Nat, A = some ⟨b, off, none⟩ ∧ w.cell? ⟨b, off + k, none⟩ = some (.int .u16 (atL l k)) := by
  obtain ⟨b, off, e, hc⟩ := h.at (k := k) (by simpa [u16s] using hk)
  refine ⟨b, off, e, ?_⟩
  rw [hc]
  simp [u16s, atL, List.getElem?_eq_getElem hk]
theorem u8_at {w : World} {A : Option Addr} {l : List Int} (h : Cells w A (u8s l)) {k : Nat} (hk : k < l.length) : ∃ b off : Nat, A = some ⟨b, off, none⟩ ∧ w.cell? ⟨b, off + k, none⟩ = some (.int .u8 (atL l k)) := by
  obtain ⟨b, off, e, hc⟩ := h.at (k := k) (by simpa [u8s] using hk)
  refine ⟨b, off, e, ?_⟩
  rw [hc]
  simp [u8s, atL, List.getElem?_eq_getElem hk]
theorem info_int : (Try.prog.info? 3).map (fun i => (i.zero, i.size, i.bytes)) = some (some (.int .i64 0), 1, 8) := by kernel_rfl
/-- What the first loop has made. -/
structure Lag (a b : List Int) (k : Nat) (w wr : World) (t u v : Value) : Prop where
  below : Below w.heap.size w wr
  ot : wr.ownsRow w.heap.size 3 1 t k (i64s (tK a k))
  ou : wr.ownsRow w.heap.size 3 1 u k (i64s (wK b k))
  ov : wr.ownsRow w.heap.size 25 1 v k (u64s (vK a b k))
  tu : Apart t u
  tv : Apart t v
  uv : Apart u v
set_option maxHeartbeats 8000000 in
theorem UnitLag_any (A B : Option Addr) (la lb ca cb : Nat) (a b : List Int) (r : Int) (w : World) (ea : a.length = la) (eb : b.length = lb) (hla : la ≤ 9223372036854775807) (hlb : lb ≤ 9223372036854775807) (hr : U8 r) (ha : Cells w A (u16s a)) (hb : Cells w B (u8s b)) (da : U16s a) (db : U8s b) :
    Calls Try.prog 3 #[.slice A la ca, .slice B lb cb, .int .u8 r] w (Gives (.bool true) w) := by
  obtain ⟨i0, hi, hz0, hz1, hz2⟩ := info_parts info_int
  obtain ⟨j0, ji, jz0, jz1, jz2⟩ := info_parts info_u64
  have I0 := hid hi
  have J0 := hid ji
  clear hi ji
  obtain ⟨q, eq⟩ : ∃ q, 1 + r % 32 = q := ⟨_, rfl⟩
  have hr0 := hr.1
  have hr1 := hr.2
  have q0 : 1 ≤ q := by omega
  have q1 : q ≤ 32 := by omega
  have EA := hid ea
  have EB := hid eb
  clear ea eb hr
  go_enter Try.func3, Try.ntmps3
  go_wp2_with ((go_at_call 5; refine (awake_any _).mono ?_; rintro _ _ ⟨rfl, _, rfl⟩))
  case' inl =>
    obtain ⟨n, hn⟩ : ∃ n : Nat, n = 6 := ⟨_, rfl⟩
    have n1 : n ≤ la := by omega
    have n2 : n ≤ lb := by omega
    have n3 : n ≤ 6 := by omega
    rw [show Value.int IntKind.i64 6 = Value.int IntKind.i64 ((n : Nat) : Int) by rw [hn]; rfl]
  case' inr.inl =>
    obtain ⟨n, hn⟩ : ∃ n : Nat, n = lb := ⟨_, rfl⟩
    have n1 : n ≤ la := by omega
    have n2 : n ≤ lb := by omega
    have n3 : n ≤ 6 := by omega
    rw [show Value.int IntKind.i64 (lb : Int) = Value.int IntKind.i64 ((n : Nat) : Int) by rw [hn]]
  case' inr.inr =>
    obtain ⟨n, hn⟩ : ∃ n : Nat, n = la := ⟨_, rfl⟩
    have n1 : n ≤ la := by omega
    have n2 : n ≤ lb := by omega
    have n3 : n ≤ 6 := by omega
    rw [show Value.int IntKind.i64 (la : Int) = Value.int IntKind.i64 ((n : Nat) : Int) by rw [hn]]
  all_goals
    clear hn
    go_loopw [9, 10, 11, 12, 28] (fun le t u v i wr => ∃ k : Nat, i = .int .i64 k ∧ k ≤ n ∧ le = .int .u64 (leastK a b k) ∧ Hid (Lag a b k w wr t u v)) (fun _ _ _ _ i _ => n - (intOf i).toNat)
    case atStart =>
      refine ⟨0, rfl, by omega, rfl, hid ⟨?_, World.ownsRow_nil _ _ _ _, World.ownsRow_nil _ _ _ _, World.ownsRow_nil _ _ _ _, .inl rfl, .inl rfl, .inl rfl⟩⟩
      (repeat (first | exact Below.refl _ _ | refine RowKit.Below.past ?_ _ | refine RowKit.Below.alloc' ?_ _ | refine RowKit.Below.drew' ?_ | refine RowKit.Below.drewN' ?_ _ | refine RowKit.Below.setCell' ?_ (by simp [go_sem]) _))
    case round =>
      rename_i t0 u0 v0
      obtain ⟨k, rfl, hk, rfl, HL⟩ := hrel
      by_cases hlt : k < n
      · obtain ⟨b1, o1, eA, hc1⟩ := u16_at ha (show k < a.length by have := EA.out; omega)
        obtain ⟨b2, o2, eB, hc2⟩ := u8_at hb (show k < b.length by have := EB.out; omega)
        subst eA eB
        have p1 : wr.cell? ⟨b1, o1 + k, none⟩ = some (.int .u16 (atL a k)) := below_cell HL.out.below (Nat.le_refl _) _ _ hc1
        have p2 : wr.cell? ⟨b2, o2 + k, none⟩ = some (.int .u8 (atL b k)) := below_cell HL.out.below (Nat.le_refl _) _ _ hc2
        have lt1 : b1 < w.heap.size := World.block_lt_of_cell? w _ hc1
        obtain ⟨da0, da1⟩ := da k
        obtain ⟨db0, db1⟩ := db k
        have e1 : 1 + atL b k % 16 = wOf b k := rfl
        have HC1 := hid hc1
        clear hc1 hc2
        go_wp2_with (first | (at_builtin; refine wpList_pushO rfl (.tmp 38) (.tmp 44) 26 rfl 3 i0 (.int .i64 0) 1 8 Try.underlying26 I0.out hz0 hz1 hz2 rfl (by decide) (w0 := w) ?_ _ _ _ rfl HL.out.ot _ #[.int .i64 (atL a k)] ?_ rfl rfl ?_ ?_ ?_ ?_; (· exact HL.out.below); (· simp [go_sem]); (· simp [Value.oneCell']); (· omega); (· unfold maxLen; omega); intro w1 g1 c1 hb1 ho1 hk1; have HB1 := hid hb1; have HO1 := hid ho1; have HU1 := hid (hk1 _ _ _ _ _ _ HL.out.ou HL.out.tu.symm); have HV1 := hid (hk1 _ _ _ _ _ _ HL.out.ov HL.out.tv.symm); clear hb1 ho1 hk1) | (at_builtin; refine wpList_pushO rfl (.tmp 46) (.tmp 48) 26 rfl 3 i0 (.int .i64 0) 1 8 Try.underlying26 I0.out hz0 hz1 hz2 rfl (by decide) (w0 := w) ?_ _ _ _ rfl HU1.out.1 _ #[.int .i64 (wOf b k)] ?_ rfl rfl ?_ ?_ ?_ ?_; (· exact HB1.out); (· simp [go_sem]); (· simp [Value.oneCell']); (· omega); (· unfold maxLen; omega); intro w2 g2 c2 hb2 ho2 hk2; have HB2 := hid hb2; have HO2 := hid ho2; have HT2 := hid (hk2 _ _ _ _ _ _ HO1.out HU1.out.2.symm); have HV2 := hid (hk2 _ _ _ _ _ _ HV1.out.1 (Apart.symm HL.out.uv)); clear hb2 ho2 hk2))
        have lk := lock_in (wOf b k)
        have m1 := Int.mul_nonneg da0 lk.1
        have m2 := Int.mul_le_mul (show atL a k ≤ 65536 by omega) lk.2 lk.1 (show (0 : Int) ≤ 65536 by omega)
        have e2 : IntKind.u64.wrap (atL a k * lockF (wOf b k)) = vOf a b k := by rw [IntKind.wrap_u64]; unfold vOf; omega
        have e3 : IntKind.u64.wrap (atL a k) = atL a k := by rw [IntKind.wrap_u64]; omega
        have q1 : w2.cell? ⟨b1, o1 + k, none⟩ = some (.int .u16 (atL a k)) := below_cell HB2.out (Nat.le_refl _) _ _ HC1.out
        have lt2 : b1 < w2.heap.size := World.block_lt_of_cell? w2 _ q1
        clear lk m1 m2
        have k0 : (0 : Int) ≤ (k : Int) := by omega
        have k1 : (k : Int) < (la : Int) := by omega
        go_region_held3 (fun w' => w'.cell? ⟨b1, o1 + k, none⟩ = some (.int .u16 (atL a k))) ((first | (simp [go_sem, *]; done) | (exact below_cell HB3.out (Nat.le_refl _) _ _ HC1.out))) ((first | (go_at_call 6; refine (Lock_any _ _).mono ?_; rintro _ _ ⟨rfl, _, rfl⟩) | (refine step_pushO rfl (.tmp 50) (.tmp 59) 27 rfl 25 j0 (.int .u64 0) 1 8 Try.underlying27 J0.out jz0 jz1 jz2 rfl (by decide) (w0 := w) ?_ _ _ _ ?_ (own_past HV2.out.1 _) _ #[.int .u64 (vOf a b k)] rfl ?_ rfl ?_ ?_ ?_ ?_; (· exact RowKit.Below.past HB2.out _); (· rfl); (· simp [go_sem]); (· simp [Value.oneCell']); (· omega); (· unfold maxLen; omega); intro w3 g3 c3 hb3 ho3 hk3; have HB3 := hid hb3; have HO3 := hid ho3; have HT3 := hid (hk3 _ _ _ _ _ _ (own_past HT2.out.1 _) HV1.out.2.symm); have HU3 := hid (hk3 _ _ _ _ _ _ (own_past HO2.out _) HV2.out.2.symm); clear hb3 ho3 hk3)))
        have p3 : w3.cell? ⟨g3, k, none⟩ = some (.int .u64 (vOf a b k)) := by
          rw [HO3.out.cellAt k (by omega)]
          simp [u64s, vK]
        have hL := HL.out
        have HN := hid (show Lag a b (k + 1) w w3 (.slice (some ⟨g1, 0, none⟩) (k + 1) c1) (.slice (some ⟨g2, 0, none⟩) (k + 1) c2) (.slice (some ⟨g3, 0, none⟩) (k + 1) c3) from
          ⟨HB3.out, by rw [tK_succ, ← i64s_snoc]; exact HT3.out.1, by rw [wK_succ, ← i64s_snoc]; exact HU3.out.1, by rw [vK_succ, ← u64s_snoc]; exact HO3.out, HT2.out.2, HT3.out.2, HU3.out.2⟩)
        rcases dec_cases (leastK a b k < vOf a b k) with hm | hm
        · have em : leastK a b (k + 1) = leastK a b k := by simp [leastK, hm]
          have hm' : leastK a b k < vOf a b k := by simpa using hm
          clear hL q1 lt1 lt2 p1 p2
          go_wp2
          go_roundw
          case rel => exact ⟨k + 1, by go_num, by omega, by rw [em], HN⟩
          case measure => simp [intOf]; omega
        · have em : leastK a b (k + 1) = vOf a b k := by simp [leastK, hm]
          have hm' : vOf a b k ≤ leastK a b k := by simpa using hm
          clear hL q1 lt1 lt2 p1 p2
          go_wp2
          go_roundw
          case rel => exact ⟨k + 1, by go_num, by omega, by rw [em]; exact congrArg (Value.int .u64) (by split <;> omega), HN⟩
          case measure => simp [intOf]; omega
      · obtain rfl : k = n := by omega
        have hB := hid HL.out.below
        clear hlt
        go_wp2
        go_loopw [69] (fun i wr2 => ∃ (m : Nat) (x : Past), i = .int .i64 m ∧ m ≤ k ∧ wr2 = wr.past x ∧ Hid (∀ j, j < m → vOf a b j ≤ leastK a b k + lockF (wOf b j) * q)) (fun i _ => k - (intOf i).toNat)
        case atStart => exact ⟨0, _, rfl, by omega, wr.past_refl, hid (fun j h => by omega)⟩
        case round =>
          obtain ⟨m, x, rfl, hm, rfl, HJ⟩ := hrel
          by_cases hlt : m < k
          · obtain ⟨gv, cv, ev, _⟩ := own_succ HL.out.ov (by omega)
            obtain ⟨gw, cw, ew, _⟩ := own_succ HL.out.ou (by omega)
            subst ev ew
            have p1 : wr.cell? ⟨gv, m, none⟩ = some (.int .u64 (vOf a b m)) := by
              rw [HL.out.ov.cellAt m (by omega)]
              simp [u64s, vK, hlt]
            have p2 : wr.cell? ⟨gw, m, none⟩ = some (.int .i64 (wOf b m)) := by
              rw [HL.out.ou.cellAt m (by omega)]
              simp [i64s, wK, hlt]
            have lw := wOf_in db m
            have lk := lock_in (wOf b m)
            have hl := least_le da db k
            have hl2 := hl.2 m hlt
            have hv := vOf_in da db m
            have m1 := Int.mul_nonneg lk.1 (show 0 ≤ q by omega)
            have m2 := Int.mul_le_mul lk.2 q1 (by omega) (show (0 : Int) ≤ 720720 by omega)
            have f0 : IntKind.u64.wrap q = q := by rw [IntKind.wrap_u64]; omega
            have f1 : IntKind.u64.wrap (lockF (wOf b m) * q) = lockF (wOf b m) * q := by rw [IntKind.wrap_u64]; omega
            have f2 : IntKind.u64.wrap (leastK a b k + lockF (wOf b m) * q) = leastK a b k + lockF (wOf b m) * q := by rw [IntKind.wrap_u64]; omega
            clear lw lk hl hl2 hv m1 m2
            rcases dec_cases (leastK a b k + lockF (wOf b m) * q < vOf a b m) with hc | hc
            · have hc' : leastK a b k + lockF (wOf b m) * q < vOf a b m := by simpa using hc
              go_wp2_with fail
              refine wp_region_past (by kernel_rfl) (by kernel_rfl) ?_
              repeat (go_big_quiet_step (((go_at_call 6; first | exact Calls.in_past (Lock_any _ _) | exact Calls.in_past2 (Lock_any _ _)))))
              refine wpQuiet_nil ?_
              rintro _ ⟨_, rfl⟩
              go_wp2
              go_ret
              refine Gives.mk rfl ?_
              (repeat (first | exact hB.out | refine RowKit.Below.past ?_ _))
            · have HJ2 := hid (show ∀ j, j < m + 1 → vOf a b j ≤ leastK a b k + lockF (wOf b j) * q from fun j h => by
                by_cases e : j = m
                · subst e; simpa using hc
                · exact HJ.out j (by omega))
              go_wp2_with fail
              refine wp_region_past (by kernel_rfl) (by kernel_rfl) ?_
              repeat (go_big_quiet_step (((go_at_call 6; first | exact Calls.in_past (Lock_any _ _) | exact Calls.in_past2 (Lock_any _ _)))))
              refine wpQuiet_nil ?_
              rintro _ ⟨_, rfl⟩
              go_wp2
              go_roundw
              case rel => exact ⟨m + 1, _, by go_num, by omega, rfl, HJ2⟩
              case measure => simp [intOf]; omega
          · obtain rfl : m = k := by omega
            clear hlt
            by_cases hz : m = 0
            · have hz' : ((m : Int) == 0) = true := by simpa using hz
              go_wp2
              go_ret
              refine Gives.mk rfl ?_
              (repeat (first | exact hB.out | refine RowKit.Below.past ?_ _))
            · have hz' : ((m : Int) == 0) = false := by simp; omega
              obtain ⟨gt, ct, et, _⟩ := own_succ HL.out.ot (by omega)
              obtain ⟨gw, cw, ew, _⟩ := own_succ HL.out.ou (by omega)
              subst et ew
              have mm := Int.mul_le_mul (show (m : Int) ≤ 6 by omega) q1 (by omega) (show (0 : Int) ≤ 6 by omega)
              have m0 := Int.mul_nonneg (show (0 : Int) ≤ m by omega) (show 0 ≤ q by omega)
              obtain ⟨N, hN⟩ : ∃ N, (m : Int) * q = N := ⟨_, rfl⟩
              have f1 : wrap64 N = N := IntWalk.wrap64_in N ⟨by omega, by omega⟩
              have hF := lag_fair da db (n := m) (by omega) q0 q1 HJ.out N hN.symm
              have hF := fun (x : Past) => Fair_is (A := some ⟨gt, 0, none⟩) (B := some ⟨gw, 0, none⟩) (ca := ct) (cb := cw) (n := m) (m := m) (a := tK a m) (b := wK b m) (t := N) (c := true) (by simp [tK]) (by simp [wK]) hF (wr.past x) ((Cells.of_own HL.out.ot).past x) ((Cells.of_own HL.out.ou).past x)
              have HF := hid hF
              clear mm m0 hF hz
              go_wp2_with ((go_at_call 7; refine (HF.out _).mono ?_; rintro _ _ ⟨rfl, _, rfl⟩))
              go_ret
              refine Gives.mk rfl ?_
              (repeat (first | exact hB.out | refine RowKit.Below.past ?_ _))
theorem c_u16 : Try.prog.cellsOf 28 = 1 := by kernel_rfl
theorem c_u8 : Try.prog.cellsOf 5 = 1 := by kernel_rfl
theorem cs_u16s : Try.prog.cellsOf 28 = 1 := by kernel_rfl
theorem rd_u16s {H : Type} {enc : TypeId × Value → H} {W : World} {v : Value} (h : Rd enc Try.prog W 22 [v]) : ∃ (A : Option Addr) (c : Nat) (l : List Int), v = .slice A l.length c ∧ Cells W A (u16s l) ∧ (∀ x ∈ l, U16 x) ∧ l.length ≤ maxLen :=
  rd_ints_row h Try.underlying22 Try.underlying28 cs_u16s (fun _ hx => u16_of hx)
theorem cs_u8s : Try.prog.cellsOf 5 = 1 := by kernel_rfl
theorem rd_u8s {H : Type} {enc : TypeId × Value → H} {W : World} {v : Value} (h : Rd enc Try.prog W 23 [v]) : ∃ (A : Option Addr) (c : Nat) (l : List Int), v = .slice A l.length c ∧ Cells W A (u8s l) ∧ (∀ x ∈ l, U8 x) ∧ l.length ≤ maxLen :=
  rd_ints_row h Try.underlying23 Try.underlying5 cs_u8s (fun _ hx => u8_of hx)
theorem all_in {l : List Int} {lo hi : Int} (h0 : lo ≤ 0) (h1 : 0 < hi) (h : ∀ x ∈ l, lo ≤ x ∧ x < hi) (i : Nat) : lo ≤ atL l i ∧ atL l i < hi := by
  unfold atL
  cases e : l[i]? with
  | none => simp; omega
  | some x => exact h x (List.mem_of_getElem? e)
theorem unitLag_own : ownKnob Try.prog.godebug = none := by kernel_rfl
theorem unitLag_laidOut : laidOutB Try.prog = true := by kernel_rfl
theorem unitLag_types : ∀ t ∈ Try.f3.params.toList, Try.prog.readableRec t = true ∧ t < Try.prog.types.size := by
  rw [Try.params3]
  intro t ht
  simp only [List.mem_cons, List.not_mem_nil, or_false] at ht
  rcases ht with rfl | rfl | rfl
  · exact ⟨by kernel_rfl, of_decide_eq_true (by kernel_rfl)⟩
  · exact ⟨by kernel_rfl, of_decide_eq_true (by kernel_rfl)⟩
  · exact ⟨by kernel_rfl, of_decide_eq_true (by kernel_rfl)⟩
set_option maxRecDepth 100000 in
theorem unitLag_lifted (os : Os) (started : os.Started) (H : Type) (enc : TypeId × Value → H) :
    ReturnsInHanded {} Try.checked os 3 .any (Rows.unitLagSpec.pre6 enc Try.prog Try.f3 Rows.unitLagRow.domain false) (Rows.unitLagSpec.post enc Try.prog Try.f3 false true false false) := by
  refine returnsInHanded_of_change (C := Try.checked) unitLag_own started (by kernel_rfl) Try.func3
    (ChangeSpec.witness6 (enc := enc) (C := Try.checked) false ⟨#[], #[.slice none 0 0, .slice none 0 0, .int .u8 0], []⟩ 8 (by kernel_rfl) (by kernel_rfl) (by kernel_rfl) (by kernel_rfl)) ?_
  intro W base args ds gs before hval0 hW hcnd _
  have hval : ∀ (j : Nat) t v, Try.f3.params[j]? = some t → args[j]? = some v → Value.okWide Try.prog W .any base t v := hval0
  have hW' := hW
  obtain ⟨p, q, hA0, hV, hpq, hfz, hnd⟩ := hW
  have hA : DataW.TrodAll enc Try.prog W 0 (fun _ => true) true Try.f3.params.toList args.toList ds p := hA0
  rw [Try.params3] at hA hval
  obtain ⟨v0, vs0, d0, ds0, p0, q0, hargs, rfl, rfl, h0, r0⟩ := trodAll_cons hA
  obtain ⟨v1, vs1, d1, ds1, p1, q1, rfl, rfl, rfl, h1, r1⟩ := trodAll_cons r0
  obtain ⟨v2, vs2, d2, ds2, p2, q2, rfl, rfl, rfl, h2, r2⟩ := trodAll_cons r1
  obtain ⟨rfl, rfl, rfl⟩ := trodAll_nil r2
  obtain rfl : args = #[v0, v1, v2] := by cases args; simp_all
  have k0 := hval 0 22 v0 rfl rfl
  have k1 := hval 1 23 v1 rfl rfl
  have k2 := hval 2 5 v2 rfl rfl
  clear hA0 hval0 hval hcnd hfz hnd hpq hV hargs r2
  suffices hs : Calls Try.prog 3 #[v0, v1, v2] W (Gives (.bool true) W) from hs.mono fun e W' ⟨he, x, hx⟩ => ⟨_, he, law_post unitLag_laidOut hW' rfl rfl (by kernel_rfl) (by first | exact Try.underlying4 | rfl) unitLag_types (hx ▸ W.below_past x)⟩
  clear hW'
  obtain ⟨A, ca, a, rfl, ha, da, la⟩ := rd_u16s (rd_slice Try.underlying22 k0 h0)
  obtain ⟨B, cb, b, rfl, hb, db, lb⟩ := rd_u8s (rd_slice Try.underlying23 k1 h1)
  obtain ⟨r, rfl, _, _, wr⟩ := open_int Try.underlying5 k2 h2
  exact UnitLag_any A B a.length b.length ca cb a b r W rfl rfl (by have := la; unfold maxLen at this; omega) (by have := lb; unfold maxLen at this; omega) (u8_of wr) ha hb (all_in (by omega) (by omega) (fun x hx => da x hx)) (all_in (by omega) (by omega) (fun x hx => db x hx))
theorem unitLag_holds : Rows.UnitLagSaid :=
  OpenClaim.holds_of_wide 3 Try.f3 rfl rfl rfl rfl rfl rfl rfl ⟨rfl, rfl, rfl, rfl, rfl⟩ rfl rfl rfl rfl rfl (by kernel_rfl) Try.func3 (by kernel_rfl)
    (of_decide_eq_true (by kernel_rfl)) (by unfold Func.isWrapper; first | (rw [if_pos (by decide +kernel)]; kernel_rfl) | (rw [if_neg (by decide +kernel)]; exact ⟨rfl, rfl⟩))
    (fun os started H enc _ => unitLag_lifted os started H enc)
end Go.Proofs.Ythdghppbfoapfaa
