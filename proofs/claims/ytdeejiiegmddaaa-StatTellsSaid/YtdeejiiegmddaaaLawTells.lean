/-
  Layer 25's StatTells: what any events come to, for each task, each lock, and each kind, is the document's. No condition.
-/
import Derived.Test.YtdeejiiegmddaaaStW
import Derived.Test.YtdeejiiegmddaaaStE
import Derived.Test.YtdeejiiegmddaaaStP
import Derived.Test.YtdeejiiegmddaaaStQ
import Derived.Test.YtdeejiiegmddaaaStX
import Derived.Test.YtdeejiiegmddaaaLift
namespace Go.Proofs.Ytdeejiiegmddaaa
open Go Go.RowKit Go.ChangeShapes Go.WideShapes Go.ChangeAt
theorem tasks_same {l : List Ev} (h : ∀ k, U64 (evA l k).time) : rtasksF l l.length = tasksF l l.length := by
  unfold rtasksF tasksF
  apply List.map_congr_left
  intro x _
  exact (tally_same h x).symm
/-- A cell of an own row behind the first cells. -/
theorem Cells.far {w w' : World} {A : Option Addr} {xs : List Value} (h : Cells w A xs) (hb : Below w.heap.size w w') : Cells w' A xs := h.below hb
set_option maxRecDepth 100000 in
set_option maxHeartbeats 16000000 in
theorem StatTells_any (A : Option Addr) (ca n : Nat) (l : List Ev) (en : l.length = n) (hmx : n ≤ maxLen) (hl : ∀ k, U64 (evA l k).time ∧ I64 (evA l k).task) (w : World) (ha : Cells w A (tab evV l)) :
    Calls Try.prog 3 #[.slice A n ca] w (Gives (.bool true) w) := by
  by_cases h80 : 80 < n
  · clear en ha hl hmx
    go_enter Try.func3, Try.ntmps3
    go_wp2_with (go_at_call 6; refine (awake_any _).mono ?_; rintro _ _ ⟨rfl, x1, rfl⟩)
    go_ret
    exact ⟨rfl, x1, rfl⟩
  have h80' : n ≤ 80 := by omega
  have hT := fun z : Past => Tasks_any A ca n l en (by omega) hl (w.past z) (ha.past z)
  have hR := fun z : Past => RTasks_any A ca n l en (by omega) (fun k => (hl k).1) (w.past z) (ha.past z)
  have hLK := fun z : Past => Locks_any A ca n l en hmx (w.past z) (ha.past z)
  have hKI := fun z : Past => Kinds_any A ca n l en hmx (w.past z) (ha.past z)
  have hRL := fun (q : Int) (W : World) (hW : Below w.heap.size w W) => RLock_any A ca n l en hmx q W (ha.below hW)
  have hts := tasks_same (l := l) (fun k => (hl k).1)
  rw [en] at hts
  rw [hts] at hR
  obtain ⟨TS, ets⟩ : ∃ z, tasksF l n = z := ⟨_, rfl⟩
  rw [ets] at hT hR
  obtain ⟨m, em⟩ : ∃ m, TS.length = m := ⟨_, rfl⟩
  rw [em] at hT hR
  have hmn : m ≤ 80 := by
    rw [← em, ← ets]
    unfold tasksF
    rw [List.length_map]
    have := idsK_length l n
    omega
  obtain ⟨z0, z1, z2, z3, z4, z5, z6, z7, z8, z9, z10, z11, z12, z13, z14, ez⟩ := list15 (kinK_length l n)
  have HKI : Hid (∀ z : Past, Calls Try.prog 10 #[.slice A n ca] (w.past z) (Gives (.agg #[.int .i64 z0, .int .i64 z1, .int .i64 z2, .int .i64 z3, .int .i64 z4, .int .i64 z5, .int .i64 z6, .int .i64 z7, .int .i64 z8, .int .i64 z9, .int .i64 z10, .int .i64 z11, .int .i64 z12, .int .i64 z13, .int .i64 z14]) (w.past z))) := hid (fun z => by
    have h := hKI z
    rw [ez] at h
    exact h)
  have EZ := hid ez
  have HLI := hid (locK_is l n)
  have hlk8 := locK_length l n
  obtain ⟨LS, els⟩ : ∃ z, locK l n = z := ⟨_, rfl⟩
  rw [els] at hLK HLI hlk8
  have HL8 := hid hlk8
  have HT := hid hT
  have HR := hid hR
  have HLK := hid hLK
  have HRL := hid hRL
  have EN := hid en
  have EM := hid em
  have HA := hid ha
  clear hT hR hLK hKI hRL en em ets els ez ha hts hl hlk8
  go_enter Try.func3, Try.ntmps3
  go_upto_region 7 with (first | (go_at_call 6; refine (awake_any _).mono ?_; rintro _ _ ⟨rfl, x1, rfl⟩) | (go_at_call 7; refine (HT.out _).mono ?_; rintro _ w2 ⟨A2, c2, rfl, hb2, ho2⟩; obtain ⟨x2, rfl⟩ := past_of hb2; have HO2 := hid ho2; clear hb2 ho2) | (go_at_call 8; refine (HR.out _).mono ?_; rintro _ w3 ⟨A3, c3, rfl, hb3, ho3⟩; obtain ⟨x3, rfl⟩ := past_of hb3; have HO3 := hid ho3; clear hb3 ho3) | (go_at_call 9; refine (HLK.out _).mono ?_; rintro _ w4 ⟨A4, c4, rfl, hb4, ho4⟩; obtain ⟨x4, rfl⟩ := past_of hb4; have HO4 := hid ho4; clear hb4 ho4) | (go_at_call 10; refine (HKI.out _).mono ?_; rintro _ _ ⟨rfl, x5, rfl⟩))
  obtain ⟨y, ey⟩ : ∃ y, (((x1.and x2).and x3).and x4).and x5 = y := ⟨_, rfl⟩
  have hc2 : Cells (w.past y) A2 (tab tyV TS) := by rw [← ey]; simp only [← World.past_past]; exact (((Cells.of_own HO2.out).past _).past _).past _
  have hc3 : Cells (w.past y) A3 (tab tyV TS) := by rw [← ey]; have h := Cells.of_own HO3.out; simp only [← World.past_past] at h ⊢; exact (h.past _).past _
  have hc4 : Cells (w.past y) A4 (tab ctV LS) := by rw [← ey]; have h := Cells.of_own HO4.out; simp only [← World.past_past] at h ⊢; exact h.past _
  rw [ey]
  obtain ⟨W2, eW2⟩ : ∃ W2, W2 = (w.past y).alloc (.cells #[.int .i64 z0, .int .i64 z1, .int .i64 z2, .int .i64 z3, .int .i64 z4, .int .i64 z5, .int .i64 z6, .int .i64 z7, .int .i64 z8, .int .i64 z9, .int .i64 z10, .int .i64 z11, .int .i64 z12, .int .i64 z13, .int .i64 z14] 28) := ⟨_, rfl⟩
  obtain ⟨kb, ekb⟩ : ∃ b, (w.past y).heap.size = b := ⟨_, rfl⟩
  have hsz : w.heap.size + y.more = kb := by rw [← ekb]; simp [go_sem]
  have HB2 := hid (show Below w.heap.size w W2 from by rw [eW2]; exact RowKit.Below.alloc' (w.below_past y) _)
  have HK2 := hid (show Rec W2 kb tKs #[.int .i64 z0, .int .i64 z1, .int .i64 z2, .int .i64 z3, .int .i64 z4, .int .i64 z5, .int .i64 z6, .int .i64 z7, .int .i64 z8, .int .i64 z9, .int .i64 z10, .int .i64 z11, .int .i64 z12, .int .i64 z13, .int .i64 z14] from by rw [eW2, ← ekb]; exact Rec.new _ _ _)
  have HC2 := hid (show Cells W2 A2 (tab tyV TS) from by rw [eW2]; exact hc2.alloc _)
  have HC3 := hid (show Cells W2 A3 (tab tyV TS) from by rw [eW2]; exact hc3.alloc _)
  have HC4 := hid (show Cells W2 A4 (tab ctV LS) from by rw [eW2]; exact hc4.alloc _)
  rw [hsz, ← eW2]
  clear hc2 hc3 hc4 HO2 HO3 HO4 HT HR HLK HKI ey eW2 ekb hsz
  go_wp2_with fail
  go_loopw [7, 37] (fun _ v wr => ∃ (j : Nat) (y : Past), v = .int .i64 (j : Int) ∧ j ≤ m ∧ wr = W2.past y) (fun _ v _ => m - (intOf v).toNat)
  case atStart => exact ⟨0, _, rfl, Nat.zero_le _, World.past_refl W2⟩
  case round =>
    obtain ⟨j, y, rfl, hj, rfl⟩ := hrel
    by_cases hjm : j < m
    · obtain ⟨g2, o2, rfl, p0, p1, p2, p3, p4, p5, p6⟩ := ty_at HC2.out (k := j) (by rw [EM.out]; exact hjm)
      obtain ⟨g3, o3, rfl, r0, r1, r2, r3, r4, r5, r6⟩ := ty_at HC3.out (k := j) (by rw [EM.out]; exact hjm)
      obtain ⟨⟨t0, t1, t2, t3, t4, t5, t6⟩, et⟩ : ∃ z, tyA TS j = z := ⟨_, rfl⟩
      rw [et] at p0 p1 p2 p3 p4 p5 p6 r0 r1 r2 r3 r4 r5 r6
      simp only at p0 p1 p2 p3 p4 p5 p6 r0 r1 r2 r3 r4 r5 r6
      have e1 : IntKind.i64.wrap ((j : Int) + 1) = (j : Int) + 1 := by rw [IntKind.wrap_i64]; omega
      clear et
      go_wp2_with fail
      refine wp_region_past (by kernel_rfl) (by kernel_rfl) ?_
      repeat (go_big_quiet_step ((fail)))
      refine wpQuiet_nil ?_
      rintro _ ⟨_, rfl⟩
      go_wp2_with fail
      go_roundw
      case rel => exact ⟨j + 1, _, by go_num, by omega, by first | rfl | trivial⟩
      case measure => simp [intOf]; omega
    · obtain rfl : m = j := by omega
      go_wp2_with fail
      go_loopw [8, 52] (fun _ v wr => ∃ (i : Nat) (y : Past), v = .int .i64 (i : Int) ∧ i ≤ 8 ∧ wr = W2.past y) (fun _ v _ => 8 - (intOf v).toNat)
      case atStart => exact ⟨0, _, rfl, Nat.zero_le _, rfl⟩
      case round =>
        obtain ⟨i, y2, rfl, hi, rfl⟩ := hrel
        by_cases hi8 : i < 8
        · have hL := HC4.out.tab_at ctV_length (ct_get (l := LS) (k := i) (by rw [HL8.out]; exact hi8)) (by omega)
          obtain ⟨g4, o4, rfl, hc⟩ := hL
          have hrl := fun W hW => HRL.out (i : Int) W hW
          rw [← HLI.out i hi8] at hrl
          obtain ⟨⟨c0, c1, c2', c3', c4'⟩, ec⟩ : ∃ z, ctA LS i = z := ⟨_, rfl⟩
          rw [ec] at hc hrl
          have q0 := hc 0 _ rfl
          have q1 := hc 1 _ rfl
          have q2 := hc 2 _ rfl
          have q3 := hc 3 _ rfl
          have q4 := hc 4 _ rfl
          simp only [Nat.add_zero] at q0
          have HQ : Hid (∀ z : Past, Calls Try.prog 11 #[.slice A n ca, .int .i64 (i : Int)] (W2.past z) (Gives (.agg #[.int .i64 c0, .int .i64 c1, .int .i64 c2', .int .i64 c3', .int .i64 c4']) (W2.past z))) := hid (fun z => hrl _ (RowKit.Below.past HB2.out z))
          have e1 : IntKind.i64.wrap ((i : Int) + 1) = (i : Int) + 1 := by rw [IntKind.wrap_i64]; omega
          clear ec hc hrl
          go_wp2_with fail
          refine wp_region_past (by kernel_rfl) (by kernel_rfl) ?_
          repeat (go_big_quiet_step ((first | (go_at_call 11; first | with_reducible exact Calls.in_past (HQ.out _) | with_reducible exact Calls.in_past2 (HQ.out _)) | (go_at_call 11; first | exact Calls.in_past (HQ.out _) | exact Calls.in_past2 (HQ.out _)))))
          refine wpQuiet_nil ?_
          rintro _ ⟨_, rfl⟩
          go_wp2_with fail
          go_roundw
          case rel => exact ⟨i + 1, _, by go_num, by omega, by first | rfl | trivial⟩
          case measure => simp [intOf]; omega
        · obtain rfl : i = 8 := by omega
          obtain ⟨wz, ewz⟩ : ∃ wz, wz = W2.past y2 := ⟨_, rfl⟩
          obtain ⟨b, eb⟩ : ∃ b, wz.heap.size = b := ⟨_, rfl⟩
          have hsz : W2.heap.size + y2.more = b := by rw [← eb, ewz]; simp [go_sem]
          have HBZ := hid (show Below w.heap.size w wz from by rw [ewz]; exact RowKit.Below.past HB2.out y2)
          have HKZ := hid (show Rec wz kb tKs #[.int .i64 z0, .int .i64 z1, .int .i64 z2, .int .i64 z3, .int .i64 z4, .int .i64 z5, .int .i64 z6, .int .i64 z7, .int .i64 z8, .int .i64 z9, .int .i64 z10, .int .i64 z11, .int .i64 z12, .int .i64 z13, .int .i64 z14] from by rw [ewz]; exact HK2.out.past y2)
          have hwb : w.heap.size ≤ b := by have := HBZ.out.size; omega
          have hkb : kb < b := by have := HKZ.out.lt; omega
          obtain ⟨W4, eW4⟩ : ∃ W4, W4 = wz.alloc (.cells (i64s (kinK l 0)).toArray tKs) := ⟨_, rfl⟩
          have H0 := hid (show Rec W4 b tKs (i64s (kinK l 0)).toArray ∧ Below b wz W4 from by rw [eW4, ← eb]; exact ⟨Rec.new wz _ _, (Below.refl _ wz).alloc (Nat.le_refl _) _⟩)
          have HEB := hid eb
          go_upto_region 22 with (fail)
          first | rw [hsz, ← ewz] | rw [← ewz]
          change Code.wp _ _ _ _ (wz.alloc (.cells (i64s (kinK l 0)).toArray tKs))
          rw [← eW4]
          clear eW4 ewz hsz eb HC2 HC3 HC4 HRL HB2 HK2
          go_wp2_with fail
          go_loopw [11, 66] (fun _ v wr => ∃ k : Nat, v = .int .i64 (k : Int) ∧ k ≤ n ∧ Hid (Rec wr b tKs (i64s (kinK l k)).toArray ∧ Below b wz wr)) (fun _ v _ => n - (intOf v).toNat)
          case atStart => exact ⟨0, rfl, Nat.zero_le _, H0⟩
          case round =>
            clear H0
            obtain ⟨k, rfl, hk, H⟩ := hrel
            by_cases hlt : k < n
            · obtain ⟨gA, oA, rfl, q0, q1, q2, q3, q4⟩ := ev_at ((HA.out.below HBZ.out).below (by rw [HEB.out]; exact H.out.2)) (k := k) (by rw [EN.out]; exact hlt)
              have HT := hid (show kinK l (k + 1) = (kinK l k).set (kxF (evA l k).kind) (atL (kinK l k) (kxF (evA l k).kind) + 1) from rfl)
              have hin := kinK_in l k (kxF (evA l k).kind)
              have hjl := kx_lt (evA l k).kind
              have hkl := kinK_length l k
              obtain ⟨⟨xt, xk, xa, xl, xn⟩, ex⟩ : ∃ z, evA l k = z := ⟨_, rfl⟩
              rw [ex] at HT q0 q1 q2 q3 q4 hin hjl
              simp only at HT q0 q1 q2 q3 q4 hin hjl
              obtain ⟨L, eL⟩ : ∃ L, kinK l k = L := ⟨_, rfl⟩
              rw [eL] at HT hin hkl H
              obtain ⟨j, ej⟩ : ∃ j, kxF xk = j := ⟨_, rfl⟩
              rw [ej] at HT hin hjl
              obtain ⟨v, ev⟩ : ∃ v, atL L j = v := ⟨_, rfl⟩
              rw [ev] at HT hin
              have EV := hid ev
              have e1 : IntKind.i64.wrap ((k : Int) + 1) = (k : Int) + 1 := by rw [IntKind.wrap_i64]; omega
              have e2 : IntKind.i64.wrap (v + 1) = v + 1 := by rw [IntKind.wrap_i64]; omega
              obtain ⟨K, eK⟩ : ∃ K, wr.heap.size = K := ⟨_, rfl⟩
              obtain ⟨w5, ew5⟩ : ∃ w5, w5 = wr.alloc (.cells (evV ⟨xt, xk, xa, xl, xn⟩).toArray tEv) := ⟨_, rfl⟩
              have hsK : b < K := by rw [← eK]; exact H.out.1.lt
              have r5 : Rec w5 K tEv (evV ⟨xt, xk, xa, xl, xn⟩).toArray := by rw [ew5, ← eK]; exact Rec.new wr _ _
              have H5 := hid (show Rec w5 b tKs (i64s L).toArray ∧ Below b wz w5 from by
                rw [ew5]; exact ⟨H.out.1.alloc _, H.out.2.alloc (by rw [eK]; omega) _⟩)
              have EW5 := hid ew5
              have hgl := World.block_lt_of_cell? _ _ q0
              simp only at hgl
              clear ex eL ev ew5 H
              go_upto_region 25 with (fail)
              change Code.wp _ _ _ _ (wr.alloc (.cells (evV ⟨xt, xk, xa, xl, xn⟩).toArray tEv))
              rw [← EW5.out]
              have d1 := Rec.cell r5 1
              have hl5 := r5.lt
              have cj := Rec.cell H5.out.1 j
              have fj := Rec.frozen H5.out.1 j
              have hl3 := H5.out.1.lt
              have hne : ¬ K = b := by omega
              have hne2 : ¬ b = K := by omega
              simp [evV] at d1
              have cj2 : w5.cell? ⟨b, j, none⟩ = some (.int .i64 v) := by
                rw [cj, ← EV.out]
                have : j < L.length := by omega
                simp [i64s, atL, List.getElem?_eq_getElem this]
              have HU : Hid (Rec (w5.setCell ⟨b, j, none⟩ (.int .i64 (v + 1))) b tKs (i64s (kinK l (k + 1))).toArray) := by
                have h7 := H5.out.1.set j (.int .i64 (v + 1))
                unfold Rec at h7 ⊢
                rw [HT.out, h7]
                congr 1
                simp [i64s, List.map_set]
              have HBB : Hid (Below b wz (w5.setCell ⟨b, j, none⟩ (.int .i64 (v + 1)))) := hid (below_set H5.out.2 (Nat.le_refl _) _ _)
              clear q0 q1 q2 q3 q4 eK hgl cj r5 H5 HT
              by_cases h1 : 0 < xk
              · by_cases h2 : xk < 15
                · obtain ⟨i, rfl⟩ : ∃ i : Nat, xk = (i : Int) := ⟨xk.toNat, by omega⟩
                  obtain rfl : i = j := by rw [← ej, kxF, if_pos ⟨h1, h2⟩]; rfl
                  have h3 : (1 : Int) ≤ (i : Int) := by omega
                  have h4 : (i : Int) ≤ 14 := by omega
                  clear ej
                  go_wp2_with fail
                  go_roundw
                  case rel => exact ⟨k + 1, by go_num, by omega, hid ⟨HU.out, HBB.out⟩⟩
                  case measure => simp [intOf]; omega
                · obtain rfl : 0 = j := by rw [← ej, kxF, if_neg (by omega)]
                  have h3 : (1 : Int) ≤ xk := by omega
                  have h4 : ¬ xk ≤ 14 := by omega
                  clear ej
                  go_wp2_with fail
                  go_roundw
                  case rel => exact ⟨k + 1, by go_num, by omega, hid ⟨HU.out, HBB.out⟩⟩
                  case measure => simp [intOf]; omega
              · obtain rfl : 0 = j := by rw [← ej, kxF, if_neg (by omega)]
                have h3 : ¬ (1 : Int) ≤ xk := by omega
                clear ej
                go_wp2_with fail
                go_roundw
                case rel => exact ⟨k + 1, by go_num, by omega, hid ⟨HU.out, HBB.out⟩⟩
                case measure => simp [intOf]; omega
            · obtain rfl : n = k := by omega
              have ht := H.out.1
              rw [EZ.out] at ht
              have hr := (HKZ.out).below H.out.2 (by rw [HEB.out]; exact Nat.le_refl _)
              have c0' := Rec.cell ht 0
              have g0' := Rec.cell hr 0
              have c1' := Rec.cell ht 1
              have g1' := Rec.cell hr 1
              have c2' := Rec.cell ht 2
              have g2' := Rec.cell hr 2
              have c3' := Rec.cell ht 3
              have g3' := Rec.cell hr 3
              have c4' := Rec.cell ht 4
              have g4' := Rec.cell hr 4
              have c5' := Rec.cell ht 5
              have g5' := Rec.cell hr 5
              have c6' := Rec.cell ht 6
              have g6' := Rec.cell hr 6
              have c7' := Rec.cell ht 7
              have g7' := Rec.cell hr 7
              have c8' := Rec.cell ht 8
              have g8' := Rec.cell hr 8
              have c9' := Rec.cell ht 9
              have g9' := Rec.cell hr 9
              have c10' := Rec.cell ht 10
              have g10' := Rec.cell hr 10
              have c11' := Rec.cell ht 11
              have g11' := Rec.cell hr 11
              have c12' := Rec.cell ht 12
              have g12' := Rec.cell hr 12
              have c13' := Rec.cell ht 13
              have g13' := Rec.cell hr 13
              have c14' := Rec.cell ht 14
              have g14' := Rec.cell hr 14
              have hl3 := ht.lt
              have hl2 := hr.lt
              simp [i64s] at c0' c1' c2' c3' c4' c5' c6' c7' c8' c9' c10' c11' c12' c13' c14'
              simp at g0' g1' g2' g3' g4' g5' g6' g7' g8' g9' g10' g11' g12' g13' g14'
              have HBF := hid (HBZ.out.trans (H.out.2.mono hwb))
              have heq := fun W => run_eq_row [z0, z1, z2, z3, z4, z5, z6, z7, z8, z9, z10, z11, z12, z13, z14] rfl W
              simp only [i64s, List.map_cons, List.map_nil] at heq
              clear ht hr H
              go_wp2_with fail
              go_ret
              exact Gives.mk rfl HBF.out
theorem c_event_3 : Try.prog.cellsOf 3 = 1 := by kernel_rfl
theorem c_event_30 : Try.prog.cellsOf 30 = 1 := by kernel_rfl
theorem c_event : Try.prog.cellsOf 37 = 5 := by kernel_rfl
theorem rd_event {H : Type} {enc : TypeId × Value → H} {W : World} {cs : Array Value} (h : Rd enc Try.prog W 37 cs.toList) : ∃ x0 x1 x2 x3 x4 : Int, cs = #[.int .u64 x0, .int .i64 x1, .int .i64 x2, .int .i64 x3, .int .i64 x4] ∧ U64 x0 ∧ I64 x1 ∧ I64 x2 ∧ I64 x3 ∧ I64 x4 := by
  obtain ⟨c0, c1, c2, c3, c4, e⟩ := cs_five (h.len_struct Try.underlying37 c_event)
  rw [e] at h
  obtain ⟨x0, e0, w0⟩ := Rd.int (h.field Try.underlying37 0 30 0 1 rfl c_event_30) Try.underlying30
  obtain ⟨x1, e1, w1⟩ := Rd.int (h.field Try.underlying37 1 3 1 1 rfl c_event_3) Try.underlying3
  obtain ⟨x2, e2, w2⟩ := Rd.int (h.field Try.underlying37 2 3 2 1 rfl c_event_3) Try.underlying3
  obtain ⟨x3, e3, w3⟩ := Rd.int (h.field Try.underlying37 3 3 3 1 rfl c_event_3) Try.underlying3
  obtain ⟨x4, e4, w4⟩ := Rd.int (h.field Try.underlying37 4 3 4 1 rfl c_event_3) Try.underlying3
  simp at e0 e1 e2 e3 e4
  subst e0 e1 e2 e3 e4
  exact ⟨x0, x1, x2, x3, x4, arr_of e, u64_of w0, i64_of w1, i64_of w2, i64_of w3, i64_of w4⟩
theorem rd_ev {H : Type} {enc : TypeId × Value → H} {W : World} : ∀ cs : List Value, Rd enc Try.prog W 37 cs → ∃ x, cs = evV x ∧ (U64 x.time ∧ I64 x.task) := fun cs hcs => by
  have hcs' : Rd enc Try.prog W 37 (cs.toArray).toList := by simpa using hcs
  obtain ⟨x0, x1, x2, x3, x4, e, h0, _, h2, _⟩ := rd_event hcs'
  refine ⟨⟨x0, x1, x2, x3, x4⟩, ?_, h0, h2⟩
  have : cs.toArray.toList = _ := congrArg Array.toList e
  simpa [evV] using this
theorem evA_of {l : List Ev} (h : ∀ x ∈ l, U64 x.time ∧ I64 x.task) (k : Nat) : U64 (evA l k).time ∧ I64 (evA l k).task := by
  unfold evA
  cases hk : l[k]? with
  | none => exact ⟨⟨by decide, by decide⟩, ⟨by decide, by decide⟩⟩
  | some x => exact h x (List.mem_of_getElem? hk)
theorem statTells_own : ownKnob Try.prog.godebug = none := by kernel_rfl
theorem statTells_laidOut : laidOutB Try.prog = true := by kernel_rfl
theorem statTells_types : ∀ t ∈ Try.f3.params.toList, Try.prog.readableRec t = true ∧ t < Try.prog.types.size := by
  rw [Try.params3]
  intro t ht
  simp only [List.mem_cons, List.not_mem_nil, or_false] at ht
  rcases ht with rfl
  · exact ⟨by kernel_rfl, of_decide_eq_true (by kernel_rfl)⟩
set_option maxRecDepth 100000 in
theorem statTells_lifted (os : Os) (started : os.Started) (H : Type) (enc : TypeId × Value → H) :
    ReturnsInHanded {} Try.checked os 3 .any (Rows.statTellsSpec.pre6 enc Try.prog Try.f3 Rows.statTellsRow.domain false) (Rows.statTellsSpec.post enc Try.prog Try.f3 false true false false) := by
  refine returnsInHanded_of_change (C := Try.checked) statTells_own started (by kernel_rfl) Try.func3
    (ChangeSpec.witness6 (enc := enc) (C := Try.checked) false ⟨#[], #[.slice none 0 0], []⟩ 8 (by kernel_rfl) (by kernel_rfl) (by kernel_rfl) (by kernel_rfl)) ?_
  intro W base args ds gs before hval0 hW hcnd _
  have hval : ∀ (j : Nat) t v, Try.f3.params[j]? = some t → args[j]? = some v → Value.okWide Try.prog W .any base t v := hval0
  have hW' := hW
  obtain ⟨p, q, hA0, hV, hpq, hfz, hnd⟩ := hW
  have hA : DataW.TrodAll enc Try.prog W 0 (fun _ => true) true Try.f3.params.toList args.toList ds p := hA0
  rw [Try.params3] at hA hval
  obtain ⟨v0, vs0, d0, ds0, p0, q0, hargs, rfl, rfl, h0, r0⟩ := trodAll_cons hA
  obtain ⟨rfl, rfl, rfl⟩ := trodAll_nil r0
  obtain rfl : args = #[v0] := by cases args; simp_all
  have k0 := hval 0 22 v0 rfl rfl
  clear hA0 hval0 hval hcnd hfz hnd hpq hV hargs r0
  suffices hs : Calls Try.prog 3 #[v0] W (Gives (.bool true) W) from hs.mono fun e W' ⟨he, x, hx⟩ => ⟨_, he, law_post statTells_laidOut hW' rfl rfl (by kernel_rfl) (by first | exact Try.underlying4 | rfl) statTells_types (hx ▸ W.below_past x)⟩
  clear hW'
  obtain ⟨A, ca, l, rfl, ha, hK, hl, _⟩ := rd_tabC (f := evV) (c := 5) (K := fun x => U64 x.time ∧ I64 x.task) evV_length (by omega) (rd_slice Try.underlying22 k0 h0) Try.underlying22 c_event rd_ev
  exact StatTells_any A ca _ l rfl hl (evA_of hK) W ha
theorem statTells_holds : Rows.StatTellsSaid :=
  OpenClaim.holds_of_wide 3 Try.f3 rfl rfl rfl rfl rfl rfl rfl ⟨rfl, rfl, rfl, rfl, rfl⟩ rfl rfl rfl rfl rfl (by kernel_rfl) Try.func3 (by kernel_rfl)
    (of_decide_eq_true (by kernel_rfl)) (by unfold Func.isWrapper; first | (rw [if_pos (by decide +kernel)]; kernel_rfl) | (rw [if_neg (by decide +kernel)]; exact ⟨rfl, rfl⟩))
    (fun os started H enc _ => statTells_lifted os started H enc)
end Go.Proofs.Ytdeejiiegmddaaa
