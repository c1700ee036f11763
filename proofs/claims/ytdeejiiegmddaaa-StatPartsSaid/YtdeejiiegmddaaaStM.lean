/-
  Layer 25: Tasks, by the program. No condition.
-/
import Derived.Test.YtdeejiiegmddaaaStL
import Derived.Test.YtdeejiiegmddaaaMapE
namespace Go.Proofs.Ytdeejiiegmddaaa
open Go Go.RowKit
/-- All tallies, in the order of their tasks. -/
def tasksF (l : List Ev) (n : Nat) : List Ty := (idsK l n).map fun x => (rowT l x n).1
theorem info_ty : (Try.prog.info? tTy).map (fun i => (i.zero, i.size, i.bytes)) = some (some (.agg (tyV ⟨0, 0, 0, 0, 0, 0, 0⟩).toArray), 7, 56) := by kernel_rfl
set_option maxRecDepth 100000 in
set_option maxHeartbeats 4000000 in
theorem Tasks_any (A : Option Addr) (ca n : Nat) (l : List Ev) (en : l.length = n) (hn : n ≤ 4294967290) (hl : ∀ k, U64 (evA l k).time ∧ I64 (evA l k).task) (w : World) (ha : Cells w A (tab evV l)) :
    Calls Try.prog 7 #[.slice A n ca] w (GivesOwn tTy 7 (tasksF l n).length (tab tyV (tasksF l n)) w) := by
  have HA := hid ha
  have EN := hid en
  have HL := hid hl
  have hti : Try.prog.underlying 3 = some (.int .i64) := Try.underlying3
  have htm := Try.underlying45
  have hmm := @run_makeMap Try.prog
  have HTI := hid hti
  have HTM := hid htm
  clear ha en hl hti htm
  go_enter Try.func7, Try.ntmps7
  go_upto_region 2 with (fail)
  obtain ⟨bm, hbm⟩ : ∃ b, w.heap.size = b := ⟨_, rfl⟩
  obtain ⟨W1, eW1⟩ : ∃ W, W = w.alloc (.map #[] 0) := ⟨_, rfl⟩
  have hT1 : TkAt (bm + 1) bm l 0 (fun x => x ∈ idsK l 0) (fun _ => none) (fun _ _ => False) W1 :=
    ⟨⟨0, by rw [eW1, ← hbm]; exact MapP.made w, Nat.zero_le _⟩, fun x => (by simp [idsK]), fun x b h => (by cases h), fun x y _ h => (by cases h), Nat.lt_succ_self _⟩
  have hb1 : Below bm w W1 ∧ bm < W1.heap.size := by rw [eW1]; exact ⟨(Below.refl _ w).alloc (by omega) _, by rw [← hbm]; simp [go_sem]⟩
  have H0 := hid (And.intro hT1 hb1)
  have HBM := hid hbm
  rw [hbm, ← eW1]
  clear hT1 hb1 hbm eW1 hmm
  go_wp2_with fail
  go_loopw [5, 12] (fun _ v wr => ∃ (k : Nat) (f : Int → Option Nat) (FF : Int → Nat → Prop), v = .int .i64 (k : Int) ∧ k ≤ n ∧ Hid (TkAt (bm + 1) bm l k (fun x => x ∈ idsK l k) f FF wr ∧ Below bm w wr ∧ bm < wr.heap.size)) (fun _ v _ => n - (intOf v).toNat)
  case atStart => exact ⟨0, _, _, rfl, Nat.zero_le _, H0⟩
  case round =>
    clear H0
    obtain ⟨k, f, FF, rfl, hk, H⟩ := hrel
    by_cases hlt : k < n
    · obtain ⟨gA, oA, rfl, q0, q1, q2, q3, q4⟩ := ev_at (HA.out.below (by rw [HBM.out]; exact H.out.2.1)) (k := k) (by rw [EN.out]; exact hlt)
      have hin := rowT_in (fun k => (HL.out k).1) (evA l k).task k
      have hx64 := (HL.out k).2
      have ht64 := (HL.out k).1
      have e1 : IntKind.i64.wrap ((k : Int) + 1) = (k : Int) + 1 := by rw [IntKind.wrap_i64]; omega
      have HSEEN := hid (fun (S : Int → Prop) (f : Int → Option Nat) (FF : Int → Nat → Prop) (b : Nat) (w w' : World) (h : TkAt (bm + 1) bm l k S f FF w) => TkAt.seen (b := b) (w' := w') h)
      have HIDS := hid (fun y => insI_mem (evA l k).task (idsK l k) y)
      have HIK := hid (show idsK l (k + 1) = insI (idsK l k) (evA l k).task from rfl)
      have HNO := hid (fun (h : (evA l k).task ∉ idsK l k) => rowT_none h)
      obtain ⟨⟨t, L⟩, etl⟩ : ∃ z, rowT l (evA l k).task k = z := ⟨_, rfl⟩
      have HTL := hid etl
      rw [etl] at hin HSEEN HNO
      obtain ⟨⟨xt, xk, xa, xl, xn⟩, ex⟩ : ∃ z, evA l k = z := ⟨_, rfl⟩
      rw [ex] at q0 q1 q2 q3 q4 hx64 ht64 HSEEN HIDS HIK HNO HTL
      simp only at q0 q1 q2 q3 q4 hx64 ht64
      have HSEE := hid (fun (b : Nat) (W : World) (F : Nat → Prop) (h : RwO (bm + 1) b t L W F) (hB : bm + 1 ≤ W.heap.size) => see_any (bm + 1) b ⟨xt, xk, xa, xl, xn⟩ t L k (by omega) hin.1 ht64 (waA_mem hin.2.1) (by have := hin.2.2; simp only at this; omega) W F h hB)
      obtain ⟨K, eK⟩ : ∃ K, wr.heap.size = K := ⟨_, rfl⟩
      obtain ⟨w5, ew5⟩ : ∃ w5, w5 = wr.alloc (.cells (evV ⟨xt, xk, xa, xl, xn⟩).toArray tEv) := ⟨_, rfl⟩
      have hb5 : Below wr.heap.size wr w5 := by rw [ew5]; exact (Below.refl _ wr).alloc (Nat.le_refl _) _
      have HR5 := hid (show Rec w5 K tEv (evV ⟨xt, xk, xa, xl, xn⟩).toArray from by rw [ew5, ← eK]; exact Rec.new wr _ _)
      have HT5 := hid (H.out.1.far hb5)
      have HB5 := hid (show Below bm w w5 from H.out.2.1.trans (hb5.mono (Nat.le_of_lt H.out.2.2)))
      have HK5 := hid (show bm + 1 ≤ K ∧ w5.heap.size = K + 1 from ⟨by rw [← eK]; exact H.out.2.2, by rw [ew5, ← eK]; simp [go_sem]⟩)
      have EW5 := hid ew5
      have hgl := World.block_lt_of_cell? _ _ q0
      simp only at hgl
      clear ex etl ew5 hb5
      go_upto_region 5 with (fail)
      change Code.wp _ _ _ _ (wr.alloc (.cells (evV ⟨xt, xk, xa, xl, xn⟩).toArray tEv))
      rw [← EW5.out]
      have d0 := Rec.cell HR5.out 0
      have d1 := Rec.cell HR5.out 1
      have d2 := Rec.cell HR5.out 2
      have d3 := Rec.cell HR5.out 3
      have d4 := Rec.cell HR5.out 4
      have hKl := HR5.out.lt
      simp [evV] at d0 d1 d2 d3 d4
      clear q0 q1 q2 q3 q4 hgl eK
      obtain ⟨c5, hm5, hc5⟩ := HT5.out.map
      have hlook := hm5.look1 HTM.out HTI.out (Try.zeroValue46 _) hx64
      have HM5 := hid hm5
      obtain ⟨o, eo⟩ : ∃ o, f xa = o := ⟨_, rfl⟩
      have EO := hid eo
      rw [eo] at hlook
      clear hm5 eo
      cases o with
      | some b =>
        have hlook' : (Instr.lookup 45 (.map (some bm)) (.int .i64 xa) false).run Try.prog w5 = .ok (.pointer (some ⟨b, 0, none⟩)) w5 := hlook
        have HC := hid (HSEE.out b w5 (FF xa) (by have := HT5.out.row xa b EO.out; rw [HTL.out] at this; exact this) (by have := HK5.out; omega))
        clear hlook
        go_wp2_with (go_at_call 14; refine HC.out.mono ?_; rintro _ w6 ⟨rfl, ha6⟩)
        obtain ⟨FF', hT6⟩ := HSEEN.out _ f FF b w5 w6 HT5.out EO.out ha6
        have hxm : xa ∈ idsK l k := (HT5.out.mem xa).1 (by rw [EO.out]; rfl)
        have hT7 := hT6.iff (S' := fun x => x ∈ idsK l (k + 1)) (fun y => by rw [HIK.out, HIDS.out]; exact ⟨.inr, fun h => by rcases h with rfl | h; exact hxm; exact h⟩)
        obtain ⟨F', _, _, hk6⟩ := ha6
        have hfo := HT5.out.foot xa (by rw [EO.out]; rfl)
        have hb6 : Below bm w w6 := hk6.to_below HB5.out (by have := HK5.out; omega) (fun q hq => by have := (hfo q hq).1; omega)
        have hs6 := hk6.size
        go_roundw
        case rel => exact ⟨k + 1, f, FF', by go_num, by omega, hid ⟨hT7, hb6, by have := HK5.out; omega⟩⟩
        case measure => simp [intOf]; omega
      | none =>
        have hlook' : (Instr.lookup 45 (.map (some bm)) (.int .i64 xa) false).run Try.prog w5 = .ok (.pointer none) w5 := hlook
        clear hlook
        have hnm : xa ∉ idsK l k := fun h => by have := (HT5.out.mem xa).2 h; rw [EO.out] at this; cases this
        obtain ⟨w6, ew6⟩ : ∃ w6, w6 = w5.alloc (.cells (rowV ⟨xa, 0, 0, 0, 0, 0, 0⟩ (.slice none 0 0)).toArray tRow) := ⟨_, rfl⟩
        have hb6 : Below w5.heap.size w5 w6 := by rw [ew6]; exact (Below.refl _ w5).alloc (Nat.le_refl _) _
        have HM6 := hid (HM5.out.below hb6 (by have := HK5.out; omega))
        have HB6 := hid (show Below bm w w6 from HB5.out.trans (hb6.mono (by have := HK5.out; omega)))
        have HE6 := hid (HR5.out.below hb6 (Nat.le_refl _))
        have e6 : w5.heap.size = K + 1 := HK5.out.2
        have hs6 : w6.heap.size = K + 2 := by rw [ew6]; simp [go_sem]; omega
        have d62 := Rec.cell HE6.out 2
        simp [evV] at d62
        have hKl6 := HE6.out.lt
        obtain ⟨w7, hrun7, hm7, hg7, ht7⟩ := HM6.out.store HTM.out HTI.out hx64 (K + 1) (by unfold maxLen; omega)
        have hk7 : Kept (fun q => q = bm) w6 w7 := ⟨hg7.os, hg7.tape, hg7.output, hg7.size, fun q hq hn => hg7.block q hq (fun e => hn (by injection e))⟩
        have HK7 := hid hk7
        have HM7 := hid hm7
        have hlook7 := hm7.look1 HTM.out HTI.out (Try.zeroValue46 _) hx64
        rw [show updP f xa (K + 1) xa = some (K + 1) from by simp [updP]] at hlook7
        have hlook8 : (Instr.lookup 45 (.map (some bm)) (.int .i64 xa) false).run Try.prog w7 = .ok (.pointer (some ⟨K + 1, 0, none⟩)) w7 := hlook7
        have HE7 := hid (HE6.out.kept hk7 (by have := HK5.out; omega))
        have EW6 := hid ew6
        have HTL0 : rowT l xa k = (⟨xa, 0, 0, 0, 0, 0, 0⟩, []) := by rw [HTL.out]; exact HNO.out hnm
        have hcc : (if (f xa).isSome then c5 else c5 + 1) = c5 + 1 := by rw [EO.out]; rfl
        rw [hcc] at hm7
        have hc51 : c5 ≤ k := by
          obtain ⟨_, _, _, _, hc'⟩ := HM5.out.keys HTI.out ((idsK_sorted l k).imp (fun h => Int.ne_of_lt h)) (fun x => (HT5.out.mem x).symm)
          rw [hc']; exact idsK_length l k
        have HT7 := hid (HT5.out.fresh (x := xa) (d := K + 1) EO.out HTL0 (by have := HK5.out; omega) hm7 (by omega) e6.symm (by rw [← ew6]; exact hk7))
        have hs7 := hk7.size
        have HC := hid (HSEE.out (K + 1) w7 _ (by have := HT7.out.row xa (K + 1) (by simp [updP]); rw [HTL.out] at this; exact this) (by have := HK5.out; omega))
        have d70 := Rec.cell HE7.out 0
        have d71 := Rec.cell HE7.out 1
        have d72 := Rec.cell HE7.out 2
        have d73 := Rec.cell HE7.out 3
        have d74 := Rec.cell HE7.out 4
        have hKl7 := HE7.out.lt
        simp [evV] at d70 d71 d72 d73 d74
        clear hlook7 ew6 hm7 hg7 ht7 hk7 hb6 hcc HTL0
        rw [EW6.out] at hrun7
        have hrun8 : (Instr.mapUpdate 45 (.map (some bm)) (.int .i64 xa) (.pointer (some ⟨K + 1, 0, none⟩))).run Try.prog (w5.alloc (.cells #[.int .i64 xa, .int .i64 0, .int .i64 0, .int .i64 0, .int .i64 0, .int .i64 0, .int .u64 0, .slice none 0 0] tRow)) = .ok () w7 := hrun7
        clear hrun7
        go_upto_region 7 with (fail)
        clear hlook' hrun8 d0 d1 d2 d3 d4 d62 e6
        go_wp2_with (go_at_call 14; refine HC.out.mono ?_; rintro _ w8 ⟨rfl, ha8⟩)
        have HA8 := hid ha8
        have ha8' : After (RwO (bm + 1) (K + 1) (seeT ⟨xt, xk, xa, xl, xn⟩ t L) (seeL ⟨xt, xk, xa, xl, xn⟩ L)) ((fun y q => if y = xa then q = K + 1 else FF y q) xa) w7 w8 := by simpa using ha8
        obtain ⟨FF', hT8⟩ := HSEEN.out _ _ _ (K + 1) w7 w8 HT7.out (by simp [updP]) ha8'
        have hT9 := hT8.iff (S' := fun x => x ∈ idsK l (k + 1)) (fun y => by rw [HIK.out, HIDS.out]; exact Or.comm)
        obtain ⟨F', _, _, hk8⟩ := ha8
        have hb7 : Below bm w w7 := HK7.out.to_below HB6.out (by have := HK5.out; omega) (fun q hq => by omega)
        have hb8 : Below bm w w8 := hk8.to_below hb7 (by have := HK5.out; have := HK7.out.size; omega) (fun q hq => by simp at hq; have := HK5.out; omega)
        have hs8 := hk8.size
        have hs7 := HK7.out.size
        go_roundw
        case rel => exact ⟨k + 1, _, FF', by go_num, by omega, hid ⟨hT9, hb8, by have := HK5.out; omega⟩⟩
        case measure => simp [intOf]; omega
    · obtain rfl : n = k := by omega
      obtain ⟨c1, hm1, hc1⟩ := H.out.1.map
      have HSO := hid (sorted_call bm c1 f (idsK l n) (idsK_sorted l n) (fun x => (H.out.1.mem x).symm) (by have := idsK_length l n; omega) wr hm1)
      have HAL := hid (fun W (hW : Below wr.heap.size wr W) => H.out.1.far hW)
      have HLE := hid (idsK_length l n)
      have HIM := hid (fun j (hj : j < (idsK l n).length) => (H.out.1.mem (atL (idsK l n) j)).2 (by unfold atL; rw [List.getElem?_eq_getElem hj]; exact List.getElem_mem hj))
      have HI64 := hid (show ∀ x, x ∈ idsK l n → I64 x from fun x hx => by
        have : ∀ k, x ∈ idsK l k → ∃ j, (evA l j).task = x := fun k => by
          induction k with
          | zero => intro h; cases h
          | succ k ih =>
            intro h
            rcases (insI_mem _ _ _).1 h with h | h
            · exact ⟨k, h.symm⟩
            · exact ih h
        obtain ⟨j, rfl⟩ := this n hx
        exact (HL.out j).2)
      have HTF := hid (show tasksF l n = (idsK l n).map fun x => (rowT l x n).1 from rfl)
      obtain ⟨ids, eids⟩ : ∃ z, idsK l n = z := ⟨_, rfl⟩
      rw [eids] at HSO HLE HIM HI64 HTF
      obtain ⟨m, em⟩ : ∃ m, ids.length = m := ⟨_, rfl⟩
      have EM := hid em
      rw [em] at HSO HLE HIM
      obtain ⟨TS, ets⟩ : ∃ z, tasksF l n = z := ⟨_, rfl⟩
      have ETS := hid ets
      have hHB := H.out.2
      have HB := hid hHB
      have hws : bm < wr.heap.size := hHB.2
      clear hm1 hc1 eids em ets H hHB
      go_upto_region 11 with (first | (go_at_call 16; refine (keys_call bm _).mono ?_; rintro _ _ ⟨rfl, rfl⟩) | (go_at_call 15; refine HSO.out.mono ?_; rintro _ w3 ⟨A2, c2, rfl, hb3, ho3⟩))
      have hbw : Below wr.heap.size wr w3 := ((Below.refl _ wr).alloc (Nat.le_refl _) _).trans (hb3.mono (by simp [go_sem]))
      have HT3 := hid (HAL.out w3 hbw)
      have HBW := hid (show Below bm w w3 from HB.out.1.trans (hbw.mono (Nat.le_of_lt hws)))
      have HS3 := hid (show bm < w3.heap.size from Nat.lt_of_lt_of_le hws hbw.size)
      have HID := hid (Cells.of_own ho3)
      clear hbw hb3 ho3 HSO HAL HB hws
      obtain ⟨c1, hm1, _⟩ := HT3.out.map
      have HM3 := hid hm1
      have H0 := hid (show (w3.past ⟨#[], w3.drawn⟩).ownsRow w3.heap.size tTy 7 (.slice none 0 0) 0 (tab tyV (TS.take 0)) from ⟨rfl, .inl ⟨rfl, rfl⟩⟩)
      have e3 : w3 = w3.past ⟨#[], w3.drawn⟩ := World.past_refl w3
      have E3 := hid e3
      have htl : TS.length = m := by rw [← ETS.out, HTF.out, List.length_map, EM.out]
      have HTL := hid htl
      have HTA := hid (fun j (hj : j < m) => show TS[j]? = some (rowT l (atL ids j) n).1 from by
        rw [← ETS.out, HTF.out, List.getElem?_map]
        have hj' : j < ids.length := by rw [EM.out]; exact hj
        simp [atL, List.getElem?_eq_getElem hj'])
      obtain ⟨i0, hi, hz0, hz1, hz2⟩ := info_parts info_ty
      clear hm1 e3 htl
      go_loopw [6, 8, 40] (fun u6 _ v wz => ∃ (j : Nat) (A : Option Addr) (c : Nat) (y : Past), v = .int .i64 (j : Int) ∧ j ≤ m ∧ u6 = .slice A j c ∧ wz = w3.past y ∧ Hid ((w3.past y).ownsRow w3.heap.size tTy 7 (.slice A j c) j (tab tyV (TS.take j)))) (fun _ _ v _ => m - (intOf v).toNat)
      case atStart => exact ⟨0, none, 0, _, rfl, Nat.zero_le _, rfl, E3.out, H0⟩
      case round =>
        clear H0
        obtain ⟨j, A, c, y, rfl, hj, rfl, rfl, HO⟩ := hrel
        by_cases hjm : j < m
        · obtain ⟨gI, oI, rfl, qI⟩ := i64_at HID.out (k := j) (by rw [EM.out]; exact hjm)
          obtain ⟨b, hfb⟩ := Option.isSome_iff_exists.1 (HIM.out j hjm)
          have hmem : atL ids j ∈ ids := by
            have hj' : j < ids.length := by rw [EM.out]; exact hjm
            unfold atL; rw [List.getElem?_eq_getElem hj']; exact List.getElem_mem hj'
          have hx64 := HI64.out _ hmem
          have hrow := HT3.out.row _ b hfb
          have htj := HTA.out j hjm
          have hlk := (HM3.out.below (w3.below_past y) HM3.out.lt).look1 HTM.out HTI.out (Try.zeroValue46 _) hx64
          rw [hfb] at hlk
          obtain ⟨x, ex⟩ : ∃ x, atL ids j = x := ⟨_, rfl⟩
          rw [ex] at qI hx64 hrow htj hlk
          have hlk' : (Instr.lookup 45 (.map (some bm)) (.int .i64 x) false).run Try.prog (w3.past y) = .ok (.pointer (some ⟨b, 0, none⟩)) (w3.past y) := hlk
          obtain ⟨Aw, cw, hr, _⟩ := hrow
          obtain ⟨⟨td, t1, t2, t3, t4, t5, tw⟩, et⟩ : ∃ z, (rowT l x n).1 = z := ⟨_, rfl⟩
          rw [et] at hr htj
          have c0 := Rec.cell hr 0
          have c1 := Rec.cell hr 1
          have c2 := Rec.cell hr 2
          have c3 := Rec.cell hr 3
          have c4 := Rec.cell hr 4
          have c5 := Rec.cell hr 5
          have c6 := Rec.cell hr 6
          simp [rowV, tyV] at c0 c1 c2 c3 c4 c5 c6
          have hbl := hr.lt
          have e1 : IntKind.i64.wrap ((j : Int) + 1) = (j : Int) + 1 := by rw [IntKind.wrap_i64]; have := HLE.out; omega
          have hm2 : m ≤ 4294967290 := by have := HLE.out; omega
          have HTJ := hid htj
          have HTK : Hid (TS.take (j + 1) = TS.take j ++ [⟨td, t1, t2, t3, t4, t5, tw⟩]) := hid (by rw [List.take_add_one, HTJ.out]; rfl)
          clear hfb hlk ex et hr htj
          go_wp2_with (at_builtin; refine wpList_push rfl (.tmp 44) (.tmp 51) 24 rfl 32 i0 (.agg (tyV ⟨0, 0, 0, 0, 0, 0, 0⟩).toArray) 7 56 Try.underlying24 hi hz0 hz1 hz2 rfl (by decide) (w0 := w3) ?_ _ _ _ rfl (HO.out) _ (#[.int .i64 td, .int .i64 t1, .int .i64 t2, .int .i64 t3, .int .i64 t4, .int .i64 t5, .int .u64 tw]) ?_ rfl rfl ?_ ?_ ?_ ?_; (· (repeat (first | exact Below.refl _ _ | refine RowKit.Below.past ?_ _ | refine RowKit.Below.alloc' ?_ _ | refine RowKit.Below.drew' ?_ | refine RowKit.Below.drewN' ?_ _ | refine RowKit.Below.setCell' ?_ (by simp [go_sem]) _))); (· simp [go_sem]); (· simp [Value.oneCell']); (· omega); (· (unfold maxLen; omega)); intro x1 g1 cap1 hown1)
          go_roundw
          case rel => exact ⟨j + 1, _, cap1, x1, by go_num, by omega, rfl, by first | rfl | trivial, hid (by rw [HTK.out, ← tab_snoc]; exact hown1)⟩
          case measure => simp [intOf]; omega
        · obtain rfl : m = j := by omega
          go_wp2_with fail
          go_ret
          rw [ETS.out, HTL.out]
          refine ⟨A, c, rfl, ?_, ?_⟩
          · rw [HBM.out]
            exact HBW.out.trans ((w3.below_past y).mono (Nat.le_of_lt HS3.out))
          · have hof := HO.out
            rw [List.take_of_length_le (by rw [HTL.out]; exact Nat.le_refl _)] at hof
            exact own_base hof (by rw [HBM.out]; exact Nat.le_of_lt HS3.out)
end Go.Proofs.Ytdeejiiegmddaaa
