/-
  Layer 02's ArenaRuns: whatever is put, set and dropped, places and values are the document's. No condition.
-/
import Derived.Test.YtgaenonggnkknaaPair
import Derived.StillTailTactics
import Derived.Test.YtgaenonggnkknaaPastRd
import Derived.Shelf.Abstract
namespace Go.Proofs.Ytgaenonggnkknaa
open Go.RowKit Go.Shelf Go.ChangeShapes Go.WideShapes Go.ChangeAt
attribute [local go_sem] Oper.semAt_some
theorem ref_newR (B : Nat) (most : Int) (w : World) (hB : B ≤ w.heap.size) :
    Calls Try.prog 7 #[.int .i64 most] w (fun e w' => ∃ b, e = .returned (.pointer (some ⟨b, 0, none⟩)) ∧ DcAt B w' b (mostA most) ⟨[], [], []⟩ ∧ Below w.heap.size w w') :=
  (RNew_any B most w hB).mono fun _ _ ⟨b, h1, h2, h3, _⟩ => ⟨b, h1, h2, h3⟩
/-- Both objects, between two deeds. -/
structure Two0 (w : World) (ba bw g6 : Nat) (mm : Int) (S : Ar Int) (D : Dc) (W : World) : Prop where
  a : ArI w.heap.size W ba mm S
  d : DcAt w.heap.size W bw mm D
  below : Below w.heap.size w W
  b6 : Rec W g6 26 #[.pointer (some ⟨bw, 0, none⟩)]
theorem Two0.deed {w W : World} {ba bw g6 : Nat} {mm : Int} {S : Ar Int} {D : Dc} (h : Two0 w ba bw g6 mm S D W) (x : De) (cs : Array Value) (hcs : cs = (deV x).toArray) : Two w ba bw g6 W.heap.size mm S D x (W.alloc (.cells cs 29)) :=
  ⟨h.a.below ((Below.refl _ W).alloc (Nat.le_refl _) _), h.d.below ((Below.refl _ W).alloc (Nat.le_refl _) _), h.below.alloc h.below.size _, Rec.alloc h.b6 _, by rw [hcs]; exact Rec.new W _ _⟩
theorem Two.two0 {w W : World} {ba bw g6 g8 : Nat} {mm : Int} {S : Ar Int} {D : Dc} {x : De} (h : Two w ba bw g6 g8 mm S D x W) : Two0 w ba bw g6 mm S D W := ⟨h.a, h.d, h.below, h.b6⟩
theorem Two.ends {w W : World} {ba bw g6 g8 : Nat} {mm : Int} {S : Ar Int} {D : Dc} {x : De} (h : Two w ba bw g6 g8 mm S D x W) (hl : Lk S D) (hd : OkD 300 D) : ∃ ln : Int,
    Hid (∀ y, Calls Try.prog 16 #[.pointer (some ⟨ba, 0, none⟩)] (W.past y) (Gives (.int .i64 ln) (W.past y))) ∧
    Hid (∀ y, Calls Try.prog 17 #[.pointer (some ⟨bw, 0, none⟩)] (W.past y) (Gives (.int .i64 ln) (W.past y))) ∧
    Hid (∀ y, Calls Try.prog 18 #[.pointer (some ⟨ba, 0, none⟩)] (W.past y) (Gives (.int .i64 mm) (W.past y))) ∧
    W.cell? ⟨g6, 0, none⟩ = some (.pointer (some ⟨bw, 0, none⟩)) ∧ W.cell? ⟨bw, 0, none⟩ = some (.int .i64 mm) := by
  refine ⟨S.n, hid fun y => Len_any ba mm S _ (h.past y).a.rd, hid fun y => ?_, hid fun y => Most_any ba mm S _ (h.past y).a.rd, h.c6, ?_⟩
  · rw [hl.n]
    exact RLen_any bw mm D _ (h.past y).d.rd hd.len hd.lfr
  · obtain ⟨_, _, _, _, _, _, hrec, _⟩ := h.d.ex
    rw [Rec.cell hrec 0]; rfl
/-- What holds between two rounds. -/
structure RndP (T : Nat → Prop) (w6 : World) (R K : Nat) (v : Int) (W : World) : Prop where
  keep : KS T w6 W
  res : Boxed W R 4 (.bool true)
  last : Boxed W K 3 (.int .i64 v)
theorem RndP.far {T : Nat → Prop} {w6 : World} {R K : Nat} {v : Int} {A B : World} (h : RndP T w6 R K v A) (hR : R < w6.heap.size) (hK : K < w6.heap.size) (hb : Below w6.heap.size A B) : RndP T w6 R K v B :=
  ⟨h.keep.far hb, (hb.block _ hR).trans h.res, (hb.block _ hK).trans h.last⟩
theorem RndP.past {T : Nat → Prop} {w6 : World} {R K : Nat} {v : Int} {A : World} (h : RndP T w6 R K v A) (hR : R < w6.heap.size) (hK : K < w6.heap.size) (x : Past) : RndP T w6 R K v (A.past x) :=
  h.far hR hK ((A.below_past x).mono h.keep.size)
theorem RndP.put {T : Nat → Prop} {w6 : World} {R K : Nat} {v : Int} {A : World} (h : RndP T w6 R K v A) (hT : T K) (hRK : R ≠ K) (u : Int) : RndP T w6 R K u (A.setCell ⟨K, 0, none⟩ (.int .i64 u)) :=
  ⟨h.keep.setCell hT 0 _, ((KS.refl (fun q => q = K) _).setCell rfl 0 _).boxed hRK h.res, h.last.set _⟩
theorem RndP.putR {T : Nat → Prop} {w6 : World} {R K : Nat} {v : Int} {A : World} (h : RndP T w6 R K v A) (hT : T R) (hRK : R ≠ K) : RndP T w6 R K v (A.setCell ⟨R, 0, none⟩ (.bool true)) :=
  ⟨h.keep.setCell hT 0 _, h.res.set _, ((KS.refl (fun q => q = R) _).setCell rfl 0 _).boxed (fun e => hRK e.symm) h.last⟩
def lastAt (K : Nat) (wr : World) : Int := match wr.cell? ⟨K, 0, none⟩ with | some (.int _ z) => z | _ => 0
theorem RndP.at {T : Nat → Prop} {w6 : World} {R K : Nat} {v : Int} {A : World} (h : RndP T w6 R K v A) : lastAt K A = v := by unfold lastAt; rw [h.last.cell]
/-- What is read of the document's object. -/
theorem dc_reads {W : World} {bw : Nat} {mm : Int} {D : Dc} (h : DcRd W bw mm D) (hl : D.on.length = D.l.length) : ∃ A1 c1 A2 c2, W.cell? ⟨bw, 1, none⟩ = some (.slice A1 D.l.length c1) ∧ W.cell? ⟨bw, 2, none⟩ = some (.slice A2 D.l.length c2) ∧
    (∀ j, j < D.l.length → ∃ b o, A1 = some ⟨b, o, none⟩ ∧ W.cell? ⟨b, o + j, none⟩ = some (.int .i64 (atL D.l j))) ∧ (∀ j, j < D.l.length → ∃ b o, A2 = some ⟨b, o, none⟩ ∧ W.cell? ⟨b, o + j, none⟩ = some (.bool (onD D j))) := by
  obtain ⟨A1, c1, A2, c2, A3, c3, hrec, h1, h2⟩ := h.ex
  have q1 := Rec.cell hrec 1
  have q2 := Rec.cell hrec 2
  simp at q1 q2
  rw [hl] at q2
  exact ⟨A1, c1, A2, c2, q1, q2, fun j hj => i64_at h1 hj, fun j hj => bl_at h2 (by omega)⟩
set_option maxRecDepth 100000 in
set_option maxHeartbeats 1000000 in
theorem ArenaRuns_any (most : Int) (A : Option Addr) (ca n : Nat) (l : List De) (en : l.length = n) (hmx : n ≤ maxLen) (hl : ∀ x ∈ l, 0 ≤ x.1 ∧ x.1 < 256) (w : World) (hc : Cells w A (tab deV l)) :
    Calls Try.prog 3 #[.int .i64 most, .slice A n ca] w (Gives (.bool true) w) := by
  have HAW := hid (awake_any w)
  by_cases h100 : 100 < n
  · clear en hl hc
    go_enter Try.func3, Try.ntmps3
    go_wp2_with ((go_at_call 5; refine (HAW.out).mono ?_; rintro _ _ ⟨rfl, _, rfl⟩))
    go_ret
    exact Gives.mk rfl (World.below_past _ _)
  · have EN := hid en
    have HL := hid hl
    have HC := hid hc
    clear en hl hc
    refine (callsIn_wide (n := 5)).1 ?_
    refine callsIn_of_wp_marks Try.func3 rfl trivial ?_ rfl
    refine wpIn_wide.2 ?_
    simp only [Try.ntmps3, List.size_toArray, List.length_cons, List.length_nil, Nat.reduceAdd, Nat.reduceSub, Array.replicate_succ, Array.replicate_zero, List.push_toArray, List.append_toArray, List.nil_append, List.cons_append]
    go_wp2_with fail
    refine HAW.out.mono ?_
    rintro _ _ ⟨rfl, x0, rfl⟩
    go_wp2_with fail
    refine (New_any w.heap.size most (w.past x0) (w.below_past x0).size).mono ?_
    rintro _ w1 ⟨ba, rfl, ha1, hb1⟩
    have hB1 : Below w.heap.size w w1 := below_trans' (w.below_past x0) hb1
    go_wp2_with fail
    refine (ref_newR w.heap.size most w1 hB1.size).mono ?_
    rintro _ w2 ⟨bw, rfl, hd2, hb2⟩
    go_wp2_with fail
    obtain ⟨mm, emm⟩ : ∃ mm, mostA most = mm := ⟨_, rfl⟩
    rw [emm] at ha1 hd2
    have J0 := hid (show Two0 w ba bw w2.heap.size mm (runA mm l 0) (runD mm l 0) (w2.alloc (.cells #[.pointer (some ⟨bw, 0, none⟩)] 26)) from
      ⟨(ha1.below hb2).below ((Below.refl _ w2).alloc (Nat.le_refl _) _), hd2.below ((Below.refl _ w2).alloc (Nat.le_refl _) _), (below_trans' hB1 hb2).alloc (below_trans' hB1 hb2).size _, Rec.new w2 _ _⟩)
    obtain ⟨g6, eg6⟩ : ∃ g6, w2.heap.size = g6 := ⟨_, rfl⟩
    rw [eg6] at J0 ⊢
    clear ha1 hb1 hd2 hb2 hB1 emm eg6 HAW
    go_loopw [38] (fun i wr => ∃ (k : Nat), i = .int .i64 k ∧ k ≤ n ∧ Hid (Two0 w ba bw g6 mm (runA mm l k) (runD mm l k) wr)) (fun i _ => n - numOf i)
    case atStart => exact ⟨0, rfl, by omega, J0⟩
    case round =>
      clear J0
      obtain ⟨k, rfl, hk, HT⟩ := hrel
      by_cases hlt : k < n
      · obtain ⟨b1, o1, rfl, c0, c1, c2⟩ := de_at (HC.out.below HT.out.below) (show k < l.length by rw [EN.out]; exact hlt)
        have hx : 0 ≤ (de l k).1 ∧ (de l k).1 < 256 := by
          unfold de
          cases e : l[k]? with
          | none => exact ⟨Int.le_refl _, by decide⟩
          | some x => exact HL.out x (List.mem_of_getElem? e)
        have hok := (runA_ok mm l k).mono (show k ≤ 300 by omega)
        have hokD := (runD_ok mm l k).mono (show k ≤ 300 by omega)
        have hlk := run_lk mm l k
        have HA := hid (show runA mm l (k + 1) = deedA mm (runA mm l k) (de l k) from rfl)
        have HD := hid (show runD mm l (k + 1) = deedD mm (runD mm l k) (de l k) from rfl)
        generalize runA mm l k = S at HT HA hok hlk
        generalize runD mm l k = D at HT HD hokD hlk
        generalize de l k = x at c0 c1 c2 hx HA HD
        obtain ⟨kd, at_, v⟩ := x
        simp only at c0 c1 c2 hx
        have T9 := HT.out.deed (kd, at_, v) #[.int .u8 kd, .int .i64 at_, .int .i64 v] rfl
        have HT9 := hid T9
        have HLK := hid hlk
        have HOK := hid hok
        have HOD := hid hokD
        clear T9 hlk hok hokD HT
        have h4 : kd % 4 = 0 ∨ kd % 4 = 1 ∨ kd % 4 = 2 ∨ kd % 4 = 3 := by omega
        rcases h4 with he0 | he0 | he0 | he0
        · go_wp2_with fail
          have hr := (HLK.out.put mm v).2
          have HA1 := hid (show runA mm l (k + 1) = (putA 0 mm S v).1 by rw [HA.out]; exact if_pos he0)
          have HD1 := hid (show runD mm l (k + 1) = (putD mm D v).1 by rw [HD.out]; exact if_pos he0)
          have P1 := two_put v HOK.out HT9.out
          have P2 := hid (fun W h => two_rput (w := w) (ba := ba) (bw := bw) (g6 := g6) (g8 := wr.heap.size) (mm := mm) (S := (putA 0 mm S v).1) (x := (kd, at_, v)) (W := W) v HOD.out h)
          rw [hr] at P1
          obtain ⟨r, er⟩ : ∃ r, (putD mm D v).2 = r := ⟨_, rfl⟩
          rw [er] at P1 P2
          have HLK2 := hid ((HLK.out.put mm v).1)
          clear hr er
          refine P1.mono ?_
          rintro _ w5 ⟨rfl, T5⟩
          have c6 := T5.c6
          obtain ⟨c80, c81, c82⟩ := T5.c8
          have HT5 := hid T5
          clear T5
          go_wp2_with fail
          refine (P2.out _ HT5.out).mono ?_
          rintro _ w6 ⟨rfl, T6⟩
          obtain ⟨ln, PL, PR, PM, d6, d0⟩ := T6.ends HLK2.out (by rw [← HD1.out]; exact (runD_ok mm l (k + 1)).mono (by omega))
          have HT6 := hid T6
          clear T6 c6 c80 c81 c82 P1 P2
          go_wp2_with fail
          refine wp_region_past (by kernel_rfl) (by kernel_rfl) ?_
          repeat (go_big_quiet_step ((first | (go_at_call 16; first | with_reducible exact Calls.in_past (PL.out _) | with_reducible exact Calls.in_past2 (PL.out _)) | (go_at_call 17; first | with_reducible exact Calls.in_past (PR.out _) | with_reducible exact Calls.in_past2 (PR.out _)) | (go_at_call 18; first | with_reducible exact Calls.in_past (PM.out _) | with_reducible exact Calls.in_past2 (PM.out _)) | (go_at_call 16; first | exact Calls.in_past (PL.out _) | exact Calls.in_past2 (PL.out _)) | (go_at_call 17; first | exact Calls.in_past (PR.out _) | exact Calls.in_past2 (PR.out _)) | (go_at_call 18; first | exact Calls.in_past (PM.out _) | exact Calls.in_past2 (PM.out _)))))
          refine wpQuiet_nil ?_
          rintro _ ⟨_, rfl⟩
          go_wp2_with fail
          exact ⟨⟨k + 1, by go_num, by omega, hid (by rw [HA1.out, HD1.out]; exact (HT6.out.past _).two0)⟩, by simp [numOf]; omega⟩
        · go_wp2_with fail
          have hr := HLK.out.get at_
          have HA1 := hid (show runA mm l (k + 1) = dropA 0 S at_ by rw [HA.out]; unfold deedA; rw [if_neg (by simp only; omega), if_pos he0])
          have HD1 := hid (show runD mm l (k + 1) = dropD D at_ by rw [HD.out]; unfold deedD; rw [if_neg (by simp only; omega), if_pos he0])
          have P1 := two_drop at_ HOK.out HT9.out
          have P2 := hid (fun W h => two_rdrop (w := w) (ba := ba) (bw := bw) (g6 := g6) (g8 := wr.heap.size) (mm := mm) (S := dropA 0 S at_) (x := (kd, at_, v)) (W := W) at_ HOD.out h)
          rw [hr] at P1
          obtain ⟨r, er⟩ : ∃ r, getD D at_ = r := ⟨_, rfl⟩
          rw [er] at P1 P2
          have HLK2 := hid (HLK.out.drop at_)
          clear hr er
          refine P1.mono ?_
          rintro _ w5 ⟨rfl, T5⟩
          have c6 := T5.c6
          obtain ⟨c80, c81, c82⟩ := T5.c8
          have HT5 := hid T5
          clear T5
          go_wp2_with fail
          refine (P2.out _ HT5.out).mono ?_
          rintro _ w6 ⟨rfl, T6⟩
          obtain ⟨ln, PL, PR, PM, d6, d0⟩ := T6.ends HLK2.out (by rw [← HD1.out]; exact (runD_ok mm l (k + 1)).mono (by omega))
          have HT6 := hid T6
          clear T6 c6 c80 c81 c82 P1 P2
          go_wp2_with fail
          refine wp_region_past (by kernel_rfl) (by kernel_rfl) ?_
          repeat (go_big_quiet_step ((first | (go_at_call 16; first | with_reducible exact Calls.in_past (PL.out _) | with_reducible exact Calls.in_past2 (PL.out _)) | (go_at_call 17; first | with_reducible exact Calls.in_past (PR.out _) | with_reducible exact Calls.in_past2 (PR.out _)) | (go_at_call 18; first | with_reducible exact Calls.in_past (PM.out _) | with_reducible exact Calls.in_past2 (PM.out _)) | (go_at_call 16; first | exact Calls.in_past (PL.out _) | exact Calls.in_past2 (PL.out _)) | (go_at_call 17; first | exact Calls.in_past (PR.out _) | exact Calls.in_past2 (PR.out _)) | (go_at_call 18; first | exact Calls.in_past (PM.out _) | exact Calls.in_past2 (PM.out _)))))
          refine wpQuiet_nil ?_
          rintro _ ⟨_, rfl⟩
          go_wp2_with fail
          exact ⟨⟨k + 1, by go_num, by omega, hid (by rw [HA1.out, HD1.out]; exact (HT6.out.past _).two0)⟩, by simp [numOf]; omega⟩
        · go_wp2_with fail
          have hr := HLK.out.is at_
          have HA1 := hid (show runA mm l (k + 1) = setA 0 S at_ v by rw [HA.out]; unfold deedA; rw [if_neg (by simp only; omega), if_neg (by simp only; omega), if_pos he0])
          have HD1 := hid (show runD mm l (k + 1) = setD D at_ v by rw [HD.out]; unfold deedD; rw [if_neg (by simp only; omega), if_neg (by simp only; omega), if_pos he0])
          have P1 := two_set at_ v HT9.out
          have P2 := hid (fun W (h : Two w ba bw g6 wr.heap.size mm (setA 0 S at_ v) D (kd, at_, v) W) => RIs_any bw mm D at_ W h.d.rd HOD.out.lon)
          rw [hr] at P1
          have HLK2 := hid (HLK.out.set at_ v)
          have HOD2 := hid (show OkD 300 (setD D at_ v) by rw [← HD1.out]; exact (runD_ok mm l (k + 1)).mono (by omega))
          clear hr
          by_cases hb : isD D at_ = true
          · obtain ⟨h1, h2, _⟩ := isD_iff.1 hb
            have HE := hid (show setD D at_ v = ⟨D.l.set at_.toNat v, D.on, D.free⟩ from if_pos hb)
            rw [hb] at P1 P2
            obtain ⟨j, rfl⟩ := Int.eq_ofNat_of_zero_le h1
            rw [Int.toNat_natCast] at HE
            have hjl : j < D.l.length := by omega
            clear hb h1 h2
            refine P1.mono ?_
            rintro _ w5 ⟨rfl, T5⟩
            have c6 := T5.c6
            obtain ⟨c80, c81, c82⟩ := T5.c8
            have HT5 := hid T5
            clear T5
            go_wp2_with fail
            refine (P2.out _ HT5.out).mono ?_
            rintro _ _ ⟨rfl, x1, rfl⟩
            obtain ⟨w6, ew6⟩ : ∃ w6, w6 = w5.past x1 := ⟨_, rfl⟩
            have T6 : Two w ba bw g6 wr.heap.size mm (setA 0 S j v) D (kd, j, v) w6 := by rw [ew6]; exact HT5.out.past x1
            rw [← ew6]
            clear ew6 c6 c80 c81 c82 P1 P2
            obtain ⟨g1, c1, d1, ⟨u, d2⟩, d3, d4, T7⟩ := two_store v hjl T6
            rw [← HE.out] at T7
            obtain ⟨nl, enl⟩ : ∃ nl, D.l.length = nl := ⟨_, rfl⟩
            rw [enl] at d1 hjl
            have c6 := T6.c6
            obtain ⟨c80, c81, c82⟩ := T6.c8
            clear T6 enl
            go_wp2_with fail
            go_still_tail 9, (by kernel_rfl)
            change wpList _ _ _ _ _ w6.drew
            have T8 := T7.far (Below.refl _ _).drew
            change Two _ _ _ _ _ _ _ _ _ (w6.drew.setCell ⟨g1, j, none⟩ (Value.int .i64 v)) at T8
            change w6.drew.cell? _ = _ at d1 d2 c6 c80 c81 c82
            change w6.drew.frozen? _ = _ at d3
            change _ < w6.drew.heap.size at d4
            clear T7
            generalize w6.drew = w7 at *
            obtain ⟨w8, ew8⟩ : ∃ w8, w8 = w7.setCell ⟨g1, j, none⟩ (Value.int .i64 v) := ⟨_, rfl⟩
            rw [← ew8] at T8
            have HT7 := hid T8
            have EW8 := hid ew8
            clear T8 ew8
            go_wp2_with fail
            rw [← EW8.out]
            have T8 := HT7.out
            obtain ⟨ln, PL, PR, PM, e6, e0⟩ := T8.ends HLK2.out HOD2.out
            have HT6 := hid T8
            clear T8 EW8 c6 c80 c81 c82 d1 d2 d3 d4
            go_wp2_with fail
            refine wp_region_past (by kernel_rfl) (by kernel_rfl) ?_
            repeat (go_big_quiet_step ((first | (go_at_call 16; first | with_reducible exact Calls.in_past (PL.out _) | with_reducible exact Calls.in_past2 (PL.out _)) | (go_at_call 17; first | with_reducible exact Calls.in_past (PR.out _) | with_reducible exact Calls.in_past2 (PR.out _)) | (go_at_call 18; first | with_reducible exact Calls.in_past (PM.out _) | with_reducible exact Calls.in_past2 (PM.out _)) | (go_at_call 16; first | exact Calls.in_past (PL.out _) | exact Calls.in_past2 (PL.out _)) | (go_at_call 17; first | exact Calls.in_past (PR.out _) | exact Calls.in_past2 (PR.out _)) | (go_at_call 18; first | exact Calls.in_past (PM.out _) | exact Calls.in_past2 (PM.out _)))))
            refine wpQuiet_nil ?_
            rintro _ ⟨_, rfl⟩
            go_wp2_with fail
            exact ⟨⟨k + 1, by go_num, by omega, hid (by rw [HA1.out, HD1.out]; exact (HT6.out.past _).two0)⟩, by simp [numOf]; omega⟩
          · have HE := hid (show setD D at_ v = D from if_neg hb)
            have HDA := hid (show setD D at_ v = D from if_neg hb)
            rw [Bool.eq_false_iff.2 hb] at P1 P2
            rw [HE.out] at HLK2 HOD2 HD1
            clear hb
            refine P1.mono ?_
            rintro _ w5 ⟨rfl, T5⟩
            have c6 := T5.c6
            obtain ⟨c80, c81, c82⟩ := T5.c8
            have HT5 := hid T5
            clear T5
            go_wp2_with fail
            refine (P2.out _ HT5.out).mono ?_
            rintro _ _ ⟨rfl, x1, rfl⟩
            obtain ⟨w6, ew6⟩ : ∃ w6, w6 = w5.past x1 := ⟨_, rfl⟩
            have T6 : Two w ba bw g6 wr.heap.size mm (setA 0 S at_ v) D (kd, at_, v) w6 := by rw [ew6]; exact HT5.out.past x1
            rw [← ew6]
            obtain ⟨ln, PL, PR, PM, e6, e0⟩ := T6.ends HLK2.out HOD2.out
            have HT6 := hid T6
            clear T6 ew6 c6 c80 c81 c82 P1 P2
            go_wp2_with fail
            refine wp_region_past (by kernel_rfl) (by kernel_rfl) ?_
            repeat (go_big_quiet_step ((first | (go_at_call 16; first | with_reducible exact Calls.in_past (PL.out _) | with_reducible exact Calls.in_past2 (PL.out _)) | (go_at_call 17; first | with_reducible exact Calls.in_past (PR.out _) | with_reducible exact Calls.in_past2 (PR.out _)) | (go_at_call 18; first | with_reducible exact Calls.in_past (PM.out _) | with_reducible exact Calls.in_past2 (PM.out _)) | (go_at_call 16; first | exact Calls.in_past (PL.out _) | exact Calls.in_past2 (PL.out _)) | (go_at_call 17; first | exact Calls.in_past (PR.out _) | exact Calls.in_past2 (PR.out _)) | (go_at_call 18; first | exact Calls.in_past (PM.out _) | exact Calls.in_past2 (PM.out _)))))
            refine wpQuiet_nil ?_
            rintro _ ⟨_, rfl⟩
            go_wp2_with fail
            exact ⟨⟨k + 1, by go_num, by omega, hid (by rw [HA1.out, HD1.out]; exact (HT6.out.past _).two0)⟩, by simp [numOf]; omega⟩
        · go_wp2_with fail
          have hr := HLK.out.get at_
          have HA1 := hid (show runA mm l (k + 1) = S by rw [HA.out]; unfold deedA; rw [if_neg (by simp only; omega), if_neg (by simp only; omega), if_neg (by simp only; omega)])
          have HD1 := hid (show runD mm l (k + 1) = D by rw [HD.out]; unfold deedD; rw [if_neg (by simp only; omega), if_neg (by simp only; omega), if_neg (by simp only; omega)])
          have P1 := Get_any ba mm S at_ _ HT9.out.a.rd
          have P2 := hid (fun W (h : Two w ba bw g6 wr.heap.size mm S D (kd, at_, v) W) => RGet_any bw mm D at_ W h.d.rd HOD.out.lon)
          rw [hr] at P1
          obtain ⟨r, er⟩ : ∃ r, getD D at_ = r := ⟨_, rfl⟩
          rw [er] at P1 P2
          clear hr er
          refine P1.mono ?_
          rintro _ _ ⟨rfl, x0', rfl⟩
          obtain ⟨w5, ew5⟩ : ∃ w5, w5 = (wr.alloc (Obj.cells #[.int .u8 kd, .int .i64 at_, .int .i64 v] 29)).past x0' := ⟨_, rfl⟩
          have T5 : Two w ba bw g6 wr.heap.size mm S D (kd, at_, v) w5 := by rw [ew5]; exact HT9.out.past x0'
          rw [← ew5]
          have c6 := T5.c6
          obtain ⟨c80, c81, c82⟩ := T5.c8
          have HT5 := hid T5
          clear T5 ew5
          go_wp2_with fail
          refine (P2.out _ HT5.out).mono ?_
          rintro _ _ ⟨rfl, x1, rfl⟩
          obtain ⟨w6, ew6⟩ : ∃ w6, w6 = w5.past x1 := ⟨_, rfl⟩
          have T6 : Two w ba bw g6 wr.heap.size mm S D (kd, at_, v) w6 := by rw [ew6]; exact HT5.out.past x1
          rw [← ew6]
          obtain ⟨ln, PL, PR, PM, d6, d0⟩ := T6.ends HLK.out HOD.out
          have HT6 := hid T6
          clear T6 ew6 c6 c80 c81 c82 P1 P2
          go_wp2_with fail
          refine wp_region_past (by kernel_rfl) (by kernel_rfl) ?_
          repeat (go_big_quiet_step ((first | (go_at_call 16; first | with_reducible exact Calls.in_past (PL.out _) | with_reducible exact Calls.in_past2 (PL.out _)) | (go_at_call 17; first | with_reducible exact Calls.in_past (PR.out _) | with_reducible exact Calls.in_past2 (PR.out _)) | (go_at_call 18; first | with_reducible exact Calls.in_past (PM.out _) | with_reducible exact Calls.in_past2 (PM.out _)) | (go_at_call 16; first | exact Calls.in_past (PL.out _) | exact Calls.in_past2 (PL.out _)) | (go_at_call 17; first | exact Calls.in_past (PR.out _) | exact Calls.in_past2 (PR.out _)) | (go_at_call 18; first | exact Calls.in_past (PM.out _) | exact Calls.in_past2 (PM.out _)))))
          refine wpQuiet_nil ?_
          rintro _ ⟨_, rfl⟩
          go_wp2_with fail
          exact ⟨⟨k + 1, by go_num, by omega, hid (by rw [HA1.out, HD1.out]; exact (HT6.out.past _).two0)⟩, by simp [numOf]; omega⟩
      · rename World => w4
        obtain rfl : k = n := by omega
        have hokD := (runD_ok mm l k).mono (show k ≤ 300 by omega)
        have hok := (runA_ok mm l k).mono (show k ≤ 300 by omega)
        have hlk := run_lk mm l k
        generalize runA mm l k = S at HT hok hlk
        generalize runD mm l k = D at HT hokD hlk
        have HLK := hid hlk
        have HLON := hid hokD.lon
        have h300 := hok.len
        have hlen : D.l.length = S.l.length := hlk.len
        obtain ⟨nl, enl⟩ : ∃ nl, S.l.length = nl := ⟨_, rfl⟩
        have ENL := hid enl
        have EDL := hid (hlen.trans enl)
        rw [enl] at h300
        clear hok hlk hokD enl hlen HC HL EN
        go_wp2_with fail
        obtain ⟨w5, ew5⟩ : ∃ w5, w5 = (w4.alloc (.cells #[.int .i64 0] 3)).alloc (.cells #[.bool true] 4) := ⟨_, rfl⟩
        have h5 : Below w4.heap.size w4 w5 := by rw [ew5]; exact ((Below.refl _ w4).alloc (Nat.le_refl _) _).alloc (by simp) _
        have hs5 : w5.heap.size = w4.heap.size + 2 := by rw [ew5]; simp
        have bK : Boxed w5 w4.heap.size 3 (.int .i64 0) := by rw [ew5]; exact (Boxed.new w4 _ _).alloc _
        have bR : Boxed w5 (w4.heap.size + 1) 4 (.bool true) := by
          rw [ew5]
          have := Boxed.new (w4.alloc (.cells #[.int .i64 0] 3)) 4 (.bool true)
          rwa [World.size_alloc] at this
        rw [← ew5]
        clear ew5
        refine (All_any (some ⟨ba, 0, none⟩) w5).mono ?_
        rintro _ w6 ⟨rfl, hb6, hs6, hx6⟩
        have cK : Boxed w6 w4.heap.size 3 (.int .i64 0) := (hb6.block _ (by omega)).trans bK
        have cR : Boxed w6 (w4.heap.size + 1) 4 (.bool true) := (hb6.block _ (by omega)).trans bR
        have hB6 : Below w4.heap.size w4 w6 := below_trans' h5 hb6
        clear bK bR h5 hb6
        obtain ⟨T, eT⟩ : ∃ T : Nat → Prop, T = fun k => k = w4.heap.size + 1 ∨ k = w4.heap.size := ⟨_, rfl⟩
        have hR6 : w4.heap.size + 1 < w6.heap.size := cR.lt
        have hK6 : w4.heap.size < w6.heap.size := cK.lt
        have hTR : T (w4.heap.size + 1) := by rw [eT]; exact .inl rfl
        have hTK : T (w4.heap.size) := by rw [eT]; exact .inr rfl
        have hTw : ∀ k, T k → k < w6.heap.size := by rw [eT]; rintro k (rfl | rfl); exact hR6; exact hK6
        have hTb : ∀ k, T k → w4.heap.size ≤ k := by rw [eT]; rintro k (rfl | rfl) <;> omega
        have hTx : ¬ T (w5.heap.size) := by rw [eT]; rintro (h | h) <;> omega
        have hT6 : ∀ W, KS T w6 W → Below w4.heap.size w4 W := fun W h => hB6.trans (h.under hTb hB6.size)
        have hRI : ∀ W, KS T w6 W → RdI W ba mm S := fun W h => HT.out.a.rd.below (hT6 W h)
        have HDR := hid (fun W (h : KS T w6 W) => HT.out.d.rd.below (hT6 W h))
        have HC6 := hid (fun W (h : KS T w6 W) => (by rw [Rec.cell (HT.out.b6.below (hT6 W h) (Nat.le_refl _)) 0]; rfl : W.cell? ⟨g6, 0, none⟩ = some (.pointer (some ⟨bw, 0, none⟩))))
        rw [hs5] at hx6 hTx
        have hseq := all_seq (5 - 1) (by omega) w6 (w4.heap.size + 2) ba mm S T hx6 hTx (by rw [ENL.out]; exact h300) hRI
        obtain ⟨M, eM⟩ : ∃ M, allA (z := (0 : Int)) S.l S.l.length = M := ⟨_, rfl⟩
        rw [eM] at hseq
        have HSEQ := hid hseq
        have EM := hid eM
        clear eT hseq hRI hx6 eM
        go_wp2_with fail
        refine (wpIn_wide (n := 5)).1 ?_
        apply wpIn_rangeFunc_E rfl (by omega) (gf := 30) (lb := #[.pointer (some ⟨w4.heap.size + 2, 0, none⟩)]) rfl trivial (enters_of Try.func30 (by kernel_rfl) rfl) HSEQ.out hTw (KS.refl _ _) (fun _ => rfl)
          (fun pre W => RndP T w6 (w4.heap.size + 1) w4.heap.size (lastOf pre + 1) W ∧ pre <+: M)
          (fun _ _ _ => False)
          (fun _ _ _ h hb => ⟨h.1.far hR6 hK6 hb, h.2⟩)
          (fun _ _ _ _ h _ => h.elim)
          ⟨⟨KS.refl _ _, cR, cK⟩, List.nil_prefix⟩
          _ ?assign ?body ?done ?stop
        case assign =>
          intro lq x W K hK
          simp only [encI]
          gi_wp2
          exact hK
        case stop => rintro D c pre W hD hSp h; exact h.elim
        case body =>
          rintro lq pre ⟨x1, x2⟩ W hsW ⟨hJ, _⟩ hlen hsp
          obtain ⟨x, hx, hxe, hon, hpre⟩ := all_next (z := (0 : Int)) (l := S.l) (m := S.l.length) (by rw [EM.out]; exact hsp)
          injection hxe with hx1 hx2
          subst hx1; subst hx2
          obtain ⟨l1, l2, l3⟩ := last_all (0 : Int) S.l x
          rw [← hpre] at l1 l2 l3
          have hv : (slotA 0 S.l x).1 = atL D.l x := HLK.out.v x hx hon
          rw [HLK.out.on x hx] at hon
          have hlast : lastOf (pre ++ [((x : Int), (slotA 0 S.l x).1)]) + 1 = (x : Int) + 1 := by rw [last_snoc]
          rw [hv] at hsp hlast ⊢
          obtain ⟨v, ev⟩ : ∃ v, lastOf pre = v := ⟨_, rfl⟩
          rw [ev] at l1 l2 l3 hJ
          obtain ⟨j0, ej0⟩ := Int.eq_ofNat_of_zero_le (show 0 ≤ v + 1 by omega)
          rw [ej0] at hJ
          have EJ := hid ej0
          have HSP := hid hsp
          have HJ0 := hid hJ
          have HKS := hid (KS.refl T W)
          have HLAST := hid hlast
          have HON := hid hon
          have HOFF := hid (fun j (h1 : j < x) (h2 : v < j) => (by rw [← HLK.out.on j (by omega)]; exact l3 j h1 h2 : onD D j = false))
          rw [ENL.out] at hx
          obtain ⟨y, ey⟩ : ∃ y, atL D.l x = y := ⟨_, rfl⟩
          have EY := hid ey
          rw [ey]
          clear ev hpre hlast hsp l3 hJ ej0 hon hv ey HSEQ
          gi_wp2_with fail
          gi_loopw [167] (fun _ w4' => ∃ j : Nat, v + 1 ≤ j ∧ j ≤ x ∧ Hid (RndP T w6 (w4.heap.size + 1) w4.heap.size j w4') ∧ Hid (KS T W w4')) (fun _ w4' => (x - lastAt w4.heap.size w4').toNat)
          case atStart => exact ⟨j0, by have := EJ.out; omega, by have := EJ.out; omega, HJ0, HKS⟩
          case round =>
            obtain ⟨j, hj1, hj2, HR, HK⟩ := hrel
            clear HJ0 HKS
            have q23 := HR.out.last.cell
            have f23 := HR.out.last.frozen
            have q24 := HR.out.res.cell
            have f24 := HR.out.res.frozen
            have hlt23 := HR.out.last.lt
            have hlt24 := HR.out.res.lt
            have q6 := HC6.out _ HR.out.keep
            obtain ⟨A1, c1, A2, c2, p1, p2, r1, r2⟩ := dc_reads (HDR.out _ HR.out.keep) HLON.out
            rw [EDL.out] at p1 p2 r1 r2
            have e2 : IntKind.i64.wrap ((j : Int) + 1) = (j : Int) + 1 := by rw [IntKind.wrap_i64]; omega
            have hat0 := HR.out.at
            have hjn : j < nl := by omega
            obtain ⟨g2, o2, rfl, t2⟩ := r2 j hjn
            obtain ⟨g1, o1, rfl, t1⟩ := r1 j hjn
            clear r1 r2
            have g1' : decide ((j : Int) < (nl : Int)) = true := by simp; omega
            by_cases hlt : j < x
            · rw [HOFF.out j hlt (by omega)] at t2
              clear t1
              gi_wp2_with fail
              refine wpIn_region_pastR (by kernel_rfl) (by kernel_rfl) (by kernel_rfl) ?_
              repeat (gi_big_quiet_step (fail))
              refine wpQuietIn_nil ?_
              rintro _ ⟨xq, rfl⟩
              obtain ⟨wp, ewp⟩ : ∃ wp, wp = wr.past xq := ⟨_, rfl⟩
              have HR2 := hid (show RndP T w6 (w4.heap.size + 1) w4.heap.size j wp by rw [ewp]; exact HR.out.past hR6 hK6 xq)
              have HK2 := hid (show KS T W wp by rw [ewp]; exact HK.out.trans (KS.of_below (wr.below_past xq)))
              rw [← ewp]
              clear ewp q23 f23 q24 f24 hlt23 hlt24 q6 p1 p2 t2
              have q23 := HR2.out.last.cell
              have f23 := HR2.out.last.frozen
              have hlt23 := HR2.out.last.lt
              gi_wp2
              have hput := HR2.out.put hTK (by omega) ((j : Int) + 1)
              go_roundw
              case rel => exact ⟨j + 1, by omega, by omega, hid (by rw [show (((j + 1 : Nat)) : Int) = (j : Int) + 1 by omega]; exact hput), hid (HK2.out.setCell hTK 0 _)⟩
              case measure => rw [hput.at, hat0]; omega
            · obtain rfl : j = x := by omega
              rw [HON.out] at t2
              rw [EY.out] at t1
              gi_wp2_with fail
              refine wpIn_region_pastR (by kernel_rfl) (by kernel_rfl) (by kernel_rfl) ?_
              repeat (gi_big_quiet_step (fail))
              refine wpQuietIn_nil ?_
              rintro _ ⟨xq, rfl⟩
              obtain ⟨wp, ewp⟩ : ∃ wp, wp = wr.past xq := ⟨_, rfl⟩
              have hbp : Below wr.heap.size wr wp := by rw [ewp]; exact wr.below_past xq
              have HR2 := hid (show RndP T w6 (w4.heap.size + 1) w4.heap.size j wp by rw [ewp]; exact HR.out.past hR6 hK6 xq)
              have HK2 := hid (show KS T W wp by rw [ewp]; exact HK.out.trans (KS.of_below (wr.below_past xq)))
              rw [← ewp]
              have p1' := below_cell hbp (Nat.le_refl _) _ _ p1
              have t1' := below_cell hbp (Nat.le_refl _) _ _ t1
              clear ewp q23 f23 q24 f24 hlt23 hlt24 q6 p1 p2 t2 t1
              have q23 := HR2.out.last.cell
              have f23 := HR2.out.last.frozen
              have hlt23 := HR2.out.last.lt
              have q24 := HR2.out.res.cell
              have f24 := HR2.out.res.frozen
              have hlt24 := HR2.out.res.lt
              have q6 := HC6.out _ HR2.out.keep
              gi_wp2_with fail
              refine wpIn_region_toR 26 1 (by kernel_rfl) (by kernel_rfl) (by kernel_rfl) rfl (by kernel_rfl) ?_
              simp only [List.take_succ_cons, List.take_zero]
              repeat (gi_big_quiet_step (fail))
              refine wpQuietIn_nil ?_
              rintro _ ⟨xq2, rfl⟩
              obtain ⟨wp2, ewp2⟩ : ∃ wp2, wp2 = wp.past xq2 := ⟨_, rfl⟩
              have HR3 := hid (show RndP T w6 (w4.heap.size + 1) w4.heap.size j wp2 by rw [ewp2]; exact HR2.out.past hR6 hK6 xq2)
              have HK3 := hid (show KS T W wp2 by rw [ewp2]; exact HK2.out.trans (KS.of_below (wp.below_past xq2)))
              rw [← ewp2]
              clear ewp2 q23 f23 q24 f24 hlt23 hlt24 q6 p1' t1'
              have q24 := HR3.out.res.cell
              have f24 := HR3.out.res.frozen
              have hlt24 := HR3.out.res.lt
              refine wpAnyIn_ready (rs := [26]) (by kernel_rfl) (by simp) ?_
              refine AllReadyIn.cons rfl (fun K hK => ?_) AllReadyIn.nil
              go_simp
              refine hK _ _ ?_
              clear hK K
              refine wpAnyIn_done (by kernel_rfl) ?_ _
              obtain ⟨wp3, ewp3⟩ : ∃ wp3, wp3 = wp2.setCell ⟨w4.heap.size + 1, 0, none⟩ (.bool true) := ⟨_, rfl⟩
              have HR4 := hid (show RndP T w6 (w4.heap.size + 1) w4.heap.size j wp3 by rw [ewp3]; exact HR3.out.putR hTR (by omega))
              have HK4 := hid (show KS T W wp3 by rw [ewp3]; exact HK3.out.setCell hTR 0 _)
              rw [← ewp3]
              clear ewp3 q24 f24 hlt24
              have q23 := HR4.out.last.cell
              have f23 := HR4.out.last.frozen
              have hlt23 := HR4.out.last.lt
              gi_wp2
              have hsp' := HSP.out
              have hlast' := HLAST.out
              rw [EY.out] at hsp' hlast'
              refine ⟨HK4.out.setCell hTK 0 _, ?_, hsp'⟩
              rw [hlast']
              exact HR4.out.put hTK (by omega) ((j : Int) + 1)
        case done =>
          rintro DD xs W hD rfl ⟨hJ, _⟩ hKD
          obtain ⟨l1, l2, l3⟩ := last_all (0 : Int) S.l S.l.length
          rw [EM.out, ENL.out] at l2
          rw [EM.out] at l1 l3
          obtain ⟨v, ev⟩ : ∃ v, lastOf xs = v := ⟨_, rfl⟩
          rw [ev] at l1 l2 l3 hJ
          obtain ⟨j0, ej0⟩ := Int.eq_ofNat_of_zero_le (show 0 ≤ v + 1 by omega)
          rw [ej0] at hJ
          have EJ := hid ej0
          have HJ0 := hid hJ
          have HKD := hid hKD
          have HOFF := hid (fun j (h1 : j < nl) (h2 : v < j) => (by rw [← HLK.out.on j (by rw [ENL.out]; exact h1)]; exact l3 j (by rw [ENL.out]; exact h1) h2 : onD D j = false))
          clear ev l3 HSEQ hJ hKD ej0
          go_wp2_with fail
          go_loopw [214] (fun _ wr => ∃ j : Nat, v + 1 ≤ j ∧ j ≤ nl ∧ Hid (RndP T w6 (w4.heap.size + 1) w4.heap.size j wr) ∧ Hid (wr.heap[DD]? = some (.deferred (some [])))) (fun _ wr => (nl - lastAt w4.heap.size wr).toNat)
          case atStart => exact ⟨j0, by have := EJ.out; omega, by have := EJ.out; omega, HJ0, HKD⟩
          case round =>
            obtain ⟨j, hj1, hj2, HR, HK⟩ := hrel
            clear HJ0 HKD
            have q23 := HR.out.last.cell
            have f23 := HR.out.last.frozen
            have q24 := HR.out.res.cell
            have f24 := HR.out.res.frozen
            have hlt23 := HR.out.last.lt
            have hlt24 := HR.out.res.lt
            have q6 := HC6.out _ HR.out.keep
            obtain ⟨A1, c1, A2, c2, p1, p2, r1, r2⟩ := dc_reads (HDR.out _ HR.out.keep) HLON.out
            rw [EDL.out] at p1 p2 r1 r2
            have e2 : IntKind.i64.wrap ((j : Int) + 1) = (j : Int) + 1 := by rw [IntKind.wrap_i64]; omega
            have hat0 := HR.out.at
            have hDlt : DD < wr.heap.size := (Array.getElem?_eq_some_iff.1 HK.out).1
            clear r1
            by_cases hlt : j < nl
            · obtain ⟨g2, o2, rfl, t2⟩ := r2 j hlt
              have g1' : decide ((j : Int) < (nl : Int)) = true := by simp; omega
              rw [HOFF.out j hlt (by omega)] at t2
              clear r2
              go_wp2_with fail
              refine wp_region_past (by kernel_rfl) (by kernel_rfl) ?_
              repeat (go_big_quiet_step ((fail)))
              refine wpQuiet_nil ?_
              rintro _ ⟨_, rfl⟩
              rename_i xq
              obtain ⟨wp, ewp⟩ : ∃ wp, wp = wr.past xq := ⟨_, rfl⟩
              have HR2 := hid (show RndP T w6 (w4.heap.size + 1) w4.heap.size j wp by rw [ewp]; exact HR.out.past hR6 hK6 xq)
              have HK2 := hid (show wp.heap[DD]? = some (.deferred (some [])) by rw [ewp, World.block_past hDlt]; exact HK.out)
              rw [← ewp]
              clear ewp q23 f23 q24 f24 hlt23 hlt24 q6 p1 p2 t2
              have q23 := HR2.out.last.cell
              have f23 := HR2.out.last.frozen
              have hlt23 := HR2.out.last.lt
              go_wp2
              have hput := HR2.out.put hTK (by omega) ((j : Int) + 1)
              go_roundw
              case rel => exact ⟨j + 1, by omega, by omega, hid (by rw [show (((j + 1 : Nat)) : Int) = (j : Int) + 1 by omega]; exact hput), hid ((Below.heap_setCell wp ⟨w4.heap.size, 0, none⟩ _ DD (by simp; omega)).trans HK2.out)⟩
              case measure => rw [hput.at, hat0]; omega
            · obtain rfl : j = nl := by omega
              have g1' : decide ((j : Int) < (j : Int)) = false := by simp
              clear r2
              go_wp2_with fail
              refine wp_region_past (by kernel_rfl) (by kernel_rfl) ?_
              repeat (go_big_quiet_step ((fail)))
              refine wpQuiet_nil ?_
              rintro _ ⟨_, rfl⟩
              rename_i xq
              obtain ⟨wp, ewp⟩ : ∃ wp, wp = wr.past xq := ⟨_, rfl⟩
              have hbp : Below wr.heap.size wr wp := by rw [ewp]; exact wr.below_past xq
              have HR2 := hid (show RndP T w6 (w4.heap.size + 1) w4.heap.size j wp by rw [ewp]; exact HR.out.past hR6 hK6 xq)
              have HK2 := hid (show wp.heap[DD]? = some (.deferred (some [])) by rw [ewp, World.block_past hDlt]; exact HK.out)
              have hDlt2 : DD < wp.heap.size := (Array.getElem?_eq_some_iff.1 HK2.out).1
              rw [← ewp]
              have p1' := below_cell hbp (Nat.le_refl _) _ _ p1
              clear ewp q23 f23 q24 f24 hlt23 hlt24 q6 p1 p2
              have q23 := HR2.out.last.cell
              have q24 := HR2.out.res.cell
              have q6 := HC6.out _ HR2.out.keep
              go_wp2_with fail
              refine wp_region_past (by kernel_rfl) (by kernel_rfl) ?_
              repeat (go_big_quiet_step ((fail)))
              refine wpQuiet_nil ?_
              rintro _ ⟨_, rfl⟩
              rename_i xq2
              go_wp2_with fail
              have hb7 := hT6 _ HR2.out.keep
              have hb8 : Below w.heap.size w (wp.past xq2) := (HT.out.below.trans (hb7.mono HT.out.below.size)).trans ((wp.below_past xq2).mono (Nat.le_trans HT.out.below.size hb7.size))
              have hKF : (wp.past xq2).heap[DD]? = some (.deferred (some [])) := by rw [World.block_past hDlt2]; exact HK2.out
              have hBx := below_putObj hb8 (show w.heap.size ≤ DD by have := HT.out.below.size; omega) (.deferred none)
              clear q23 q24 q6 p1'
              refine ⟨by simp, .inl ⟨_, _, rfl, run_takeDeferred hKF, ?_⟩⟩
              exact ⟨.bool true, by simp [results, Try.results3, go_sem], Gives.mk rfl hBx⟩
end Go.Proofs.Ytgaenonggnkknaa
