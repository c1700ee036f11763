/-
  Layer 34's HistBelow: the more of all are asked for, the greater is the number below which they are; all are below that of all. No condition.
-/
import Derived.Test.YtccfamagckgamaaHisM
namespace Go.Proofs.Ytccfamagckgamaa
open Go.RowKit Go.ChangeShapes Go.WideShapes Go.ChangeAt
theorem At_any (b : Nat) (L : List Cm) (k : Nat) (hk : k < 65) (w : World) (h : HisAt w b L) : Calls Try.prog 20 #[.pointer (some ⟨b, 0, none⟩), .int .i64 k] w (Gives (.int .i64 (atF L k)) w) := by
  have q := h.ct hk
  clear h
  go_enter Try.func20, Try.ntmps20
  go_wp2
  go_ret
  exact Gives.refl rfl
theorem aw1 : addOk [] (5, 1) = true := by decide
theorem aw2 : addOk [(5, 1)] (1, 1) = true := by decide
theorem aw3 : addOk [(5, 1), (1, 1)] (0, 1) = true := by decide
theorem aw4 : belowF [(5, 1), (1, 1), (0, 1)] 1 2 = (1, true) := by decide
theorem aw5 : cntF [(5, 1), (1, 1), (0, 1)] = 3 := by decide
theorem aw6 : totF [(5, 1), (1, 1), (0, 1)] = 6 := by decide
theorem aw7 : atF [(5, 1), (1, 1), (0, 1)] 3 = 1 := by decide
theorem aw8 : placeF 5 = 3 := by decide
/-- Behind a number that came: the object, and what else. -/
theorem Add_on (b : Nat) (L : List Cm) (hL : OkL L) (n times : Int) (hn : U64 n) (ht : I64 times) (w0 w : World) (hb : w0.heap.size ≤ b) (hw : Below w0.heap.size w0 w) (h : HisAt w b L) :
    Calls Try.prog 8 #[.pointer (some ⟨b, 0, none⟩), .int .u64 n, .int .i64 times] w (fun e w' => e = .returned (.bool (addOk L (n, times))) ∧ HisAt w' b (addL L (n, times)) ∧ Below w0.heap.size w0 w') :=
  (Add_any' b L hL n times hn ht w h).mono fun _ _ ⟨h1, h2, h3⟩ => ⟨h1, h2, h3.to_below hw hw.size (fun k hk => by subst hk; exact hb)⟩
set_option maxHeartbeats 1000000 in
theorem awake_any (w : World) : Calls Try.prog 6 #[] w (Gives (.bool true) w) := by
  have o1 : OkL [(5, 1)] := ⟨by simp [U64], by decide⟩
  have o2 : OkL [(5, 1), (1, 1)] := ⟨by simp [U64], by decide⟩
  have o3 : OkL [(5, 1), (1, 1), (0, 1)] := ⟨by simp [U64], by decide⟩
  have O3 := hid o3
  have A1 := hid (fun w1 (hb : Below w.heap.size w w1) (h : HisAt w1 w.heap.size []) => (by have := Add_on w.heap.size [] okL_nil 5 1 (by unfold U64; omega) (by unfold I64; omega) w w1 (Nat.le_refl _) hb h; unfold addL at this; rw [aw1] at this; exact this : Calls Try.prog 8 #[.pointer (some ⟨w.heap.size, 0, none⟩), .int .u64 5, .int .i64 1] w1 (fun e w' => e = .returned (.bool true) ∧ HisAt w' w.heap.size [(5, 1)] ∧ Below w.heap.size w w')))
  have A2 := hid (fun w1 (hb : Below w.heap.size w w1) (h : HisAt w1 w.heap.size [(5, 1)]) => (by have := Add_on w.heap.size _ o1 1 1 (by unfold U64; omega) (by unfold I64; omega) w w1 (Nat.le_refl _) hb h; unfold addL at this; rw [aw2] at this; exact this : Calls Try.prog 8 #[.pointer (some ⟨w.heap.size, 0, none⟩), .int .u64 1, .int .i64 1] w1 (fun e w' => e = .returned (.bool true) ∧ HisAt w' w.heap.size [(5, 1), (1, 1)] ∧ Below w.heap.size w w')))
  have A3 := hid (fun w1 (hb : Below w.heap.size w w1) (h : HisAt w1 w.heap.size [(5, 1), (1, 1)]) => (by have := Add_on w.heap.size _ o2 0 1 (by unfold U64; omega) (by unfold I64; omega) w w1 (Nat.le_refl _) hb h; unfold addL at this; rw [aw3] at this; exact this : Calls Try.prog 8 #[.pointer (some ⟨w.heap.size, 0, none⟩), .int .u64 0, .int .i64 1] w1 (fun e w' => e = .returned (.bool true) ∧ HisAt w' w.heap.size [(5, 1), (1, 1), (0, 1)] ∧ Below w.heap.size w w')))
  clear o1 o2 o3
  go_enter Try.func6, Try.ntmps6
  go_wp2_with (go_at_call 7; refine (New_any _).mono ?_; rintro _ w1 ⟨rfl, h1, hb1, _⟩)
  refine (A1.out w1 hb1 h1).mono ?_
  rintro _ w2 ⟨rfl, h2, hb2⟩
  go_wp2_with fail
  refine (A2.out w2 hb2 h2).mono ?_
  rintro _ w3 ⟨rfl, h3, hb3⟩
  go_wp2_with fail
  refine (A3.out w3 hb3 h3).mono ?_
  rintro _ w4 ⟨rfl, h4, hb4⟩
  have B1 := Below_any w.heap.size _ O3.out 1 2 (by unfold I64; omega) (by unfold I64; omega) w4 h4
  rw [aw4] at B1
  have B1 := hid B1
  have P0 := hid (fun x => (by have := Count_any w.heap.size _ (w4.past x) (Rec.past h4 x); rw [aw5] at this; exact this : Calls Try.prog 17 #[.pointer (some ⟨w.heap.size, 0, none⟩)] (w4.past x) (Gives (.int .i64 3) (w4.past x))))
  have P1 := hid (fun x => (by have := HSum_any w.heap.size _ (w4.past x) (Rec.past h4 x); rw [aw6] at this; exact this : Calls Try.prog 19 #[.pointer (some ⟨w.heap.size, 0, none⟩)] (w4.past x) (Gives (.int .u64 6) (w4.past x))))
  have P2 := hid (fun x => (by have := At_any w.heap.size _ 3 (by omega) (w4.past x) (Rec.past h4 x); rw [aw7] at this; exact this : Calls Try.prog 20 #[.pointer (some ⟨w.heap.size, 0, none⟩), .int .i64 3] (w4.past x) (Gives (.int .i64 1) (w4.past x))))
  have P3 := hid (fun w' => (by have := Place_any 5 (by unfold U64; omega) w'; rw [aw8] at this; exact this : Calls Try.prog 11 #[.int .u64 5] w' (Gives (.int .i64 3) w')))
  clear h1 h2 h3 h4 A1 A2 A3 hb1 hb2 hb3
  have HB := hid hb4
  clear hb4
  go_wp2_with (first | (go_at_call 9; refine B1.out.mono ?_; rintro _ _ ⟨rfl, x1, rfl⟩) | (go_at_call 17; refine (P0.out _).mono ?_; rintro _ _ ⟨rfl, _, rfl⟩) | (go_at_call 19; refine (P1.out _).mono ?_; rintro _ _ ⟨rfl, _, rfl⟩) | (go_at_call 20; refine (P2.out _).mono ?_; rintro _ _ ⟨rfl, _, rfl⟩) | (go_at_call 11; refine (P3.out _).mono ?_; rintro _ _ ⟨rfl, _, rfl⟩))
  go_ret
  exact Gives.mk rfl (HB.out.trans ((w4.below_past _).mono HB.out.size))
theorem New_ex (w : World) : Calls Try.prog 7 #[] w (fun e w' => ∃ B, e = .returned (.pointer (some ⟨B, 0, none⟩)) ∧ w.heap.size ≤ B ∧ HisAt w' B [] ∧ Below w.heap.size w w') :=
  (New_any w).mono fun _ _ ⟨h1, h2, h3, _⟩ => ⟨_, h1, Nat.le_refl _, h2, h3⟩
def cm (l : List Cm) (i : Nat) : Cm := l[i]?.getD (0, 0)
def cmV (x : Cm) : List Value := [.int .u64 x.1, .int .i64 x.2]
theorem cmV_length (x : Cm) : (cmV x).length = 2 := rfl
theorem cm_at {w : World} {A : Option Addr} {l : List Cm} (h : Cells w A (tab cmV l)) {k : Nat} (hk : k < l.length) :
    ∃ b off : Nat, A = some ⟨b, off, none⟩ ∧ w.cell? ⟨b, off + k * 2, none⟩ = some (.int .u64 (cm l k).1) ∧ w.cell? ⟨b, off + k * 2 + 1, none⟩ = some (.int .i64 (cm l k).2) := by
  have e : l[k]? = some (cm l k) := by simp [cm, hk]
  obtain ⟨b, off, rfl, hc⟩ := h.tab_at cmV_length e (by omega)
  exact ⟨b, off, rfl, by simpa using hc 0 _ rfl, hc 1 _ rfl⟩
def runL (l : List Cm) : Nat → List Cm
  | 0 => []
  | k + 1 => addL (runL l k) (cm l k)
theorem cm_ok {l : List Cm} (h : ∀ x ∈ l, U64 x.1 ∧ I64 x.2) (k : Nat) : U64 (cm l k).1 ∧ I64 (cm l k).2 := by
  unfold cm
  cases e : l[k]? with
  | none => exact ⟨by simp [U64], by simp [I64]⟩
  | some x => exact h x (List.mem_of_getElem? e)
theorem run_ok {l : List Cm} (h : ∀ x ∈ l, U64 x.1 ∧ I64 x.2) : ∀ k, OkL (runL l k)
  | 0 => okL_nil
  | k + 1 => okL_add (run_ok h k) (cm_ok h k).1
set_option maxHeartbeats 2000000 in
theorem HistBelow_any (A : Option Addr) (ca n : Nat) (l : List Cm) (en : l.length = n) (hmx : n ≤ maxLen) (hl : ∀ x ∈ l, U64 x.1 ∧ I64 x.2) (a b : Int) (ha : U16 a) (hb : U16 b) (w : World) (hc : Cells w A (tab cmV l)) :
    Calls Try.prog 3 #[.slice A n ca, .int .u16 a, .int .u16 b] w (Gives (.bool true) w) := by
  unfold U16 at ha hb
  have HAW := hid (awake_any w)
  by_cases h40 : 40 < n
  · clear en hl hc
    go_enter Try.func3, Try.ntmps3
    go_wp2_with ((go_at_call 6; refine (HAW.out).mono ?_; rintro _ _ ⟨rfl, _, rfl⟩))
    go_ret
    exact Gives.mk rfl (World.below_past _ _)
  · by_cases hab : b < a
    · clear en hl hc
      go_enter Try.func3, Try.ntmps3
      go_wp2_with ((go_at_call 6; refine (HAW.out).mono ?_; rintro _ _ ⟨rfl, _, rfl⟩))
      go_ret
      exact Gives.mk rfl (World.below_past _ _)
    · have EN := hid en
      have HL := hid hl
      have HC := hid hc
      have e1 : IntKind.i64.wrap a = a := by rw [IntKind.wrap_i64]; omega
      have e2 : IntKind.i64.wrap b = b := by rw [IntKind.wrap_i64]; omega
      clear en hl hc
      go_enter Try.func3, Try.ntmps3
      go_wp2_with (first | (go_at_call 6; refine HAW.out.mono ?_; rintro _ _ ⟨rfl, x0, rfl⟩) | (go_at_call 7; refine (New_ex _).mono ?_; rintro _ w1 ⟨bh, rfl, hbh0, h1, hb1⟩))
      have hbh : w.heap.size ≤ bh := by simp [go_sem] at hbh0; omega
      have hB1 : Below w.heap.size w w1 := (w.below_past x0).trans (hb1.mono (by simp [go_sem]))
      have J1 := hid h1
      have JB := hid hB1
      clear h1 hb1 hB1 hbh0
      go_loopw [31] (fun i wr => ∃ (k : Nat), i = .int .i64 k ∧ k ≤ n ∧ Hid (HisAt wr bh (runL l k)) ∧ Hid (Below w.heap.size w wr)) (fun i _ => n - numOf i)
      case atStart => exact ⟨0, rfl, by omega, J1, JB⟩
      case round =>
        clear J1 JB
        obtain ⟨k, rfl, hk, HH, HB⟩ := hrel
        by_cases hlt : k < n
        · obtain ⟨b1, o1, rfl, c0, c1⟩ := cm_at (HC.out.below HB.out) (show k < l.length by rw [EN.out]; exact hlt)
          have hx := cm_ok HL.out k
          have HRUN := hid (show runL l (k + 1) = addL (runL l k) (cm l k) from rfl)
          have hok := run_ok HL.out k
          generalize cm l k = x at c0 c1 hx HRUN
          obtain ⟨xn, xt⟩ := x
          simp only at c0 c1 hx
          have HAD := hid (fun o (wx : World) (e : wx = wr.alloc o) => Add_on bh (runL l k) hok xn xt hx.1 hx.2 w wx hbh (by rw [e]; exact HB.out.alloc HB.out.size o) (by rw [e]; exact Rec.alloc HH.out o))
          clear hx hok
          go_wp2_with (go_at_call 8; refine (HAD.out _ _ rfl).mono ?_; rintro _ w5 ⟨rfl, h5, hb5⟩)
          go_roundw
          case rel => exact ⟨k + 1, by go_num, by omega, hid (by rw [HRUN.out]; exact h5), hid hb5⟩
          case measure => simp [numOf]; omega
        · obtain rfl : k = n := by omega
          have hok := run_ok HL.out k
          have h := HH.out
          generalize runL l k = L at hok h
          have B1 := hid (fun x => Below_any bh L hok a 65535 (by unfold I64; omega) (by unfold I64; omega) (wr.past x) (Rec.past h x))
          have B2 := hid (fun x => Below_any bh L hok b 65535 (by unfold I64; omega) (by unfold I64; omega) (wr.past x) (Rec.past h x))
          have B3 := hid (fun x => Below_any bh L hok 1 1 (by unfold I64; omega) (by unfold I64; omega) (wr.past x) (Rec.past h x))
          have B4 := hid (fun x => Most_any bh L (wr.past x) (Rec.past h x))
          have B0 := hid (Below_any bh L hok a 65535 (by unfold I64; omega) (by unfold I64; omega) wr h)
          have hmu := most_range hok.each
          have P1 := hid (fun w' => Place_any (mostF L) hmu w')
          rcases below_law hok a b (by omega) (by omega) (by omega) with ⟨z, z1, z2, z3⟩ | ⟨z, i, j, hij, hj, z1, z2, z3⟩
          · rw [z1] at B1 B0
            rw [z2] at B2
            rw [z3] at B3
            rw [z] at B4
            clear h hok hmu z z1 z2 z3 HH P1
            go_wp2_with (first | (go_at_call 9; first | ((with_reducible refine B0.out.mono ?_); rintro _ _ ⟨rfl, x1, rfl⟩) | ((with_reducible refine (B2.out _).mono ?_); rintro _ _ ⟨rfl, x2, rfl⟩) | ((with_reducible refine (B3.out _).mono ?_); rintro _ _ ⟨rfl, x3, rfl⟩) | ((with_reducible refine (B1.out _).mono ?_); rintro _ _ ⟨rfl, x3, rfl⟩)) | (go_at_call 10; refine (B4.out _).mono ?_; rintro _ _ ⟨rfl, x4, rfl⟩))
            go_ret
            exact Gives.mk rfl (HB.out.trans ((wr.below_past _).mono HB.out.size))
          · rw [z1] at B1 B0
            rw [z2] at B2
            rw [z3] at B3
            have hz : (!decide (cntF L = 0)) = true := by simp [z]
            rw [hz, if_neg z] at B4
            have f1 := pow_mono hij
            have f2 := pow_mono hj
            have f3 := place_lt hmu
            have hp64 := place_le hmu
            have f4 := place_pow _ hp64
            have f5 : U64 ((2 : Int) ^ placeF (mostF L) - 1) := by
              have := pow_mono hp64
              have := pow_mono (Nat.zero_le (placeF (mostF L)))
              unfold U64; omega
            have P2 := hid (fun w' => Place_any _ f5 w')
            rw [f4] at P2
            generalize (2 : Int) ^ i - 1 = X at B1 B0 f1
            generalize (2 : Int) ^ j - 1 = Y at B2 f1 f2
            generalize (2 : Int) ^ placeF (mostF L) - 1 = Z at B3 f2 f3 P2
            generalize placeF (mostF L) = p at P1 P2
            generalize mostF L = m at B4 f3 P1
            clear h hok hmu z z1 z2 z3 HH f4 f5 hp64 hij hj hz
            go_wp2_with (first | (go_at_call 9; first | ((with_reducible refine B0.out.mono ?_); rintro _ _ ⟨rfl, x1, rfl⟩) | ((with_reducible refine (B2.out _).mono ?_); rintro _ _ ⟨rfl, x2, rfl⟩) | ((with_reducible refine (B3.out _).mono ?_); rintro _ _ ⟨rfl, x3, rfl⟩) | ((with_reducible refine (B1.out _).mono ?_); rintro _ _ ⟨rfl, x3, rfl⟩)) | (go_at_call 10; refine (B4.out _).mono ?_; rintro _ _ ⟨rfl, x4, rfl⟩) | (go_at_call 11; first | ((with_reducible refine (P1.out _).mono ?_); rintro _ _ ⟨rfl, _, rfl⟩) | ((with_reducible refine (P2.out _).mono ?_); rintro _ _ ⟨rfl, _, rfl⟩)))
            go_ret
            exact Gives.mk rfl (HB.out.trans ((wr.below_past _).mono HB.out.size))
theorem c_came_3 : Try.prog.cellsOf 3 = 1 := by kernel_rfl
theorem c_came_27 : Try.prog.cellsOf 27 = 1 := by kernel_rfl
theorem c_came : Try.prog.cellsOf 29 = 2 := by kernel_rfl
theorem rd_came {H : Type} {enc : TypeId × Value → H} {W : World} {cs : Array Value} (h : Rd enc Try.prog W 29 cs.toList) : ∃ x0 x1 : Int, cs = #[.int .u64 x0, .int .i64 x1] ∧ U64 x0 ∧ I64 x1 := by
  obtain ⟨c0, c1, e⟩ := cs_two (h.len_struct Try.underlying29 c_came)
  rw [e] at h
  obtain ⟨x0, e0, w0⟩ := Rd.int (h.field Try.underlying29 0 27 0 1 rfl c_came_27) Try.underlying27
  obtain ⟨x1, e1, w1⟩ := Rd.int (h.field Try.underlying29 1 3 1 1 rfl c_came_3) Try.underlying3
  simp at e0 e1
  subst e0 e1
  exact ⟨x0, x1, arr_of e, u64_of w0, i64_of w1⟩
theorem rd_cm {H : Type} {enc : TypeId × Value → H} {W : World} : ∀ cs : List Value, Rd enc Try.prog W 29 cs → ∃ x, cs = cmV x ∧ (U64 x.1 ∧ I64 x.2) := fun cs hcs => by
  have hcs' : Rd enc Try.prog W 29 (cs.toArray).toList := by simpa using hcs
  obtain ⟨x0, x1, e, h0, h1⟩ := rd_came hcs'
  refine ⟨(x0, x1), ?_, h0, h1⟩
  have : cs.toArray.toList = _ := congrArg Array.toList e
  simpa [cmV] using this
theorem histBelow_own : ownKnob Try.prog.godebug = none := by kernel_rfl
theorem histBelow_laidOut : laidOutB Try.prog = true := by kernel_rfl
theorem histBelow_types : ∀ t ∈ Try.f3.params.toList, Try.prog.readableRec t = true ∧ t < Try.prog.types.size := by
  rw [Try.params3]
  intro t ht
  simp only [List.mem_cons, List.not_mem_nil, or_false] at ht
  rcases ht with rfl | rfl | rfl
  · exact ⟨by kernel_rfl, of_decide_eq_true (by kernel_rfl)⟩
  · exact ⟨by kernel_rfl, of_decide_eq_true (by kernel_rfl)⟩
  · exact ⟨by kernel_rfl, of_decide_eq_true (by kernel_rfl)⟩
set_option maxRecDepth 100000 in
theorem histBelow_lifted (os : Os) (started : os.Started) (H : Type) (enc : TypeId × Value → H) :
    ReturnsInHanded {} Try.checked os 3 .any (Rows.histBelowSpec.pre6 enc Try.prog Try.f3 Rows.histBelowRow.domain false) (Rows.histBelowSpec.post enc Try.prog Try.f3 false true false false) := by
  refine returnsInHanded_of_change (C := Try.checked) histBelow_own started (by kernel_rfl) Try.func3
    (ChangeSpec.witness6 (enc := enc) (C := Try.checked) false ⟨#[], #[.slice none 0 0, .int .u16 0, .int .u16 0], []⟩ 8 (by kernel_rfl) (by kernel_rfl) (by kernel_rfl) (by kernel_rfl)) ?_
  intro W base args ds gs before hval0 hW hcnd _
  have hval : ∀ (j : Nat) t v, Try.f3.params[j]? = some t → args[j]? = some v → Value.okWide Try.prog W .any base t v := hval0
  have hW' := hW
  obtain ⟨p, q, hA0, hV, hpq, hfz, hnd⟩ := hW
  have hA : DataW.TrodAll enc Try.prog W 0 (fun _ => true) true Try.f3.params.toList args.toList ds p := hA0
  rw [Try.params3] at hA hval
  obtain ⟨v0, vs0, d0, ds0, p0, q0, hargs, rfl, rfl, h0, r0⟩ := trodAll_cons hA
  obtain ⟨v1, vs1, d1, ds1, p1, q1, rfl, rfl, rfl, h1, r1⟩ := trodAll_cons r0
  obtain ⟨v2, vs2, d2, ds2, p2, q2, rfl, rfl, rfl, h2, r2⟩ := trodAll_cons r1
  obtain ⟨rfl, rfl, rfl⟩ := trodAll_nil r2
  obtain rfl : args = #[v0, v1, v2] := by cases args; simp_all
  have k0 := hval 0 22 v0 rfl rfl
  have k1 := hval 1 23 v1 rfl rfl
  have k2 := hval 2 23 v2 rfl rfl
  clear hA0 hval0 hval hcnd hfz hnd hpq hV hargs r2
  suffices hs : Calls Try.prog 3 #[v0, v1, v2] W (Gives (.bool true) W) from hs.mono fun e W' ⟨he, x, hx⟩ => ⟨_, he, law_post histBelow_laidOut hW' rfl rfl (by kernel_rfl) (by first | exact Try.underlying4 | rfl) histBelow_types (hx ▸ W.below_past x)⟩
  clear hW'
  obtain ⟨A, ca, l, rfl, ha, hK, hl⟩ := rd_tab cmV_length (by omega) (rd_slice Try.underlying22 k0 h0) Try.underlying22 c_came rd_cm
  obtain ⟨x1, rfl, _, _, w1⟩ := open_int Try.underlying23 k1 h1
  obtain ⟨x2, rfl, _, _, w2⟩ := open_int Try.underlying23 k2 h2
  exact HistBelow_any A ca _ l rfl hl hK x1 x2 (u16_of w1) (u16_of w2) W ha
theorem histBelow_holds : Rows.HistBelowSaid :=
  OpenClaim.holds_of_wide 3 Try.f3 rfl rfl rfl rfl rfl rfl rfl ⟨rfl, rfl, rfl, rfl, rfl⟩ rfl rfl rfl rfl rfl (by kernel_rfl) Try.func3 (by kernel_rfl)
    (of_decide_eq_true (by kernel_rfl)) (by unfold Func.isWrapper; first | (rw [if_pos (by decide +kernel)]; kernel_rfl) | (rw [if_neg (by decide +kernel)]; exact ⟨rfl, rfl⟩))
    (fun os started H enc _ => histBelow_lifted os started H enc)
end Go.Proofs.Ytccfamagckgamaa
