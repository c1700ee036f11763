/-
  Layer 21's BanLeast: the waiting party with the least V waits for no more ticks than are left of the turn that goes on; it is not banned. No condition.
-/
import Derived.Test.YthlogfclgakhkaaDoorBanL
import Derived.Test.YthlogfclgakhkaaDoorLaid
import Derived.Test.YthlogfclgakhkaaDoorTab
namespace Go.Proofs.YthlogfclgakhkaaDoor
open Go.RowKit Go.ChangeShapes Go.WideShapes Go.ChangeAt
attribute [local go_sem] Oper.semAt_some
def m60 (x : Int) : Int := x % 1152921504606846976
def cpy (V : List Int) (k : Nat) : List Int := (V.take k).map m60 ++ List.replicate (V.length - k) 0
theorem cpy_length (V : List Int) (k : Nat) (h : k ≤ V.length) : (cpy V k).length = V.length := by
  unfold cpy; simp; omega
theorem cpy_succ (V : List Int) (k : Nat) (h : k < V.length) : (cpy V k).set k (m60 (atD V k)) = cpy V (k + 1) := by
  unfold cpy
  have h1 : ((V.take k).map m60).length = k := by simp; omega
  rw [List.set_append_right _ _ (by omega), h1, Nat.sub_self]
  obtain ⟨m, em⟩ : ∃ m, V.length - k = m + 1 := ⟨V.length - k - 1, by omega⟩
  rw [em, List.replicate_succ, List.set_cons_zero, show V.length - (k + 1) = m by omega, ← take_atD h]
  simp
theorem cpy_zero (V : List Int) : cpy V 0 = List.replicate V.length 0 := by unfold cpy; simp
theorem cpy_all (V : List Int) : cpy V V.length = V.map m60 := by unfold cpy; simp
theorem made_u64 (n : Nat) : u64s (List.replicate n 0) = (madeCells (Value.int .u64 0).cells (n * 1)).toList := by
  simp [u64s, toList_madeCells_one, Value.cells]
theorem m60_u64 (x : Int) : U64 (m60 x) := by unfold m60; exact ⟨by omega, by omega⟩
theorem ofS_at {wt : Nat} {p u s : Int} {V G : List Int} (hV : ∀ x ∈ V, U64 x) (k : Nat) : U64 (atD (ofS wt p u s V G).v k) := by
  unfold atD
  cases h : (ofS wt p u s V G).v[k]? with
  | none => exact ⟨by simp, by simp⟩
  | some x =>
    have : x ∈ V := List.mem_of_mem_take (List.mem_of_getElem? h)
    exact hV x this
theorem ofS_len {wt : Nat} {p u s : Int} {V G : List Int} : (ofS wt p u s V G).v.length = min (min V.length G.length) 8 ∧ (ofS wt p u s V G).g.length = min (min V.length G.length) 8 := by
  unfold ofS; simp; omega
theorem ofS_wt {wt : Nat} {p u s : Int} {V G : List Int} : (ofS wt p u s V G).wt < 2 ^ (ofS wt p u s V G).v.length := by
  rw [ofS_len.1]
  exact mask_lt wt _
set_option maxRecDepth 100000 in
set_option maxHeartbeats 8000000 in
theorem BanLeast_any (wt : Nat) (hwt : wt < 18446744073709551616) (p u s : Int) (hu : I64 u) (A : Option Addr) (ca n : Nat) (V : List Int) (en : V.length = n) (hca : n ≤ ca) (hn : n ≤ maxLen) (hok : ∀ x ∈ V, U64 x) (A2 : Option Addr) (ca2 m : Nat) (G : List Int) (em : G.length = m) (hca2 : m ≤ ca2) (hm : m ≤ maxLen) (w : World) (hA : Cells w A (u64s V)) (hG : Cells w A2 (i64s G)) (hZ : Tz w) :
    Calls Tryd.prog 3 #[.agg (ban6 wt p u s (.slice A n ca) (.slice A2 m ca2))] w (Gives (.bool true) w) := by
  unfold maxLen at hn hm
  unfold ban6
  obtain ⟨K, eK⟩ : ∃ K, w.heap.size = K := ⟨_, rfl⟩
  obtain ⟨w0, ew0⟩ : ∃ W, W = w.alloc (.cells #[.int .u64 (wt : Int), .int .i64 p, .int .i64 u, .int .i64 s, .slice A n ca, .slice A2 m ca2] 28) := ⟨_, rfl⟩
  have hb0 : Below w.heap.size w w0 := by rw [ew0]; exact (Below.refl _ w).alloc (Nat.le_refl _) _
  have hr0 : Rec w0 K 28 #[.int .u64 (wt : Int), .int .i64 p, .int .i64 u, .int .i64 s, .slice A n ca, .slice A2 m ca2] := by rw [ew0, ← eK]; exact Rec.new w _ _
  have HAW := hid (awake_any w0 (hZ.below hb0))
  have HZ := hid hZ
  have HA := hid hA
  have HG := hid hG
  have HOK := hid hok
  have EN := hid en
  have EM := hid em
  have EK := hid eK
  have EW0 := hid ew0
  have HB0 := hid hb0
  have HR0 := hid hr0
  have HU := hid hu
  have HWT := hid hwt
  clear hA hG hZ hok en em eK ew0 hb0 hr0 hu hwt
  go_enter Tryd.func3, Tryd.ntmps3
  go_upto_region 1 with (fail)
  rw [← EW0.out, EK.out]
  go_upto_region 3 with (refine HAW.out.mono ?_; rintro _ _ ⟨rfl, x0, rfl⟩)
  obtain ⟨w1, ew1⟩ : ∃ W, W = w0.past x0 := ⟨_, rfl⟩
  have hb01 : Below w0.heap.size w0 w1 := by rw [ew1]; exact w0.below_past x0
  have hr1 := HR0.out.below hb01 (Nat.le_refl _)
  have HB1 := hid (below_trans' HB0.out hb01)
  have HR1 := hid hr1
  rw [← ew1]
  clear ew1 hb01 HR0 HB0 EW0
  have q3 := Rec.cell HR1.out 4
  have q4 := Rec.cell HR1.out 5
  simp at q3 q4
  by_cases hg1 : 12 < n
  · go_wp2_with fail
    go_ret
    exact Gives.mk rfl HB1.out
  by_cases hg2 : 12 < m
  · have hg1' : n ≤ 12 := by omega
    clear hg1
    go_wp2_with fail
    go_ret
    exact Gives.mk rfl HB1.out
  have hn12 : n ≤ 12 := by omega
  have hm12 : m ≤ 12 := by omega
  clear hg1 hg2
  obtain ⟨j0, hj, jz0, jz1, jz2⟩ := info_parts info_u64
  obtain ⟨B, eB⟩ : ∃ B, w1.heap.size = B := ⟨_, rfl⟩
  have hKB : K < B := by rw [← eB]; exact Rec.lt HR1.out
  have hwB : w.heap.size ≤ B := by rw [← eB]; exact HB1.out.size
  go_upto_region 6 with (at_make; refine wpList_make_full _ rfl (.tmp 23) (.tmp 23) 25 rfl w1.heap.size 22 j0 (.int .u64 0) 1 Tryd.underlying25 hj jz0 jz1 .i64 .i64 _ _ n rfl rfl rfl rfl ?_ ?_ ?_ ?_; (· rw [jz2]; omega); (· unfold maxLen; omega); (· simp [go_sem]); intro w2 hrow hg2)
  have HROW : Hid (w2.ownsRow B 22 1 (.slice (some ⟨B, 0, none⟩) n n) n (u64s (cpy V 0))) := hid (by
    rw [cpy_zero, EN.out, made_u64, ← eB]; simpa using hrow)
  have HB2 := hid ((Below.refl w1.heap.size w1).grown hg2 (Nat.le_refl _) (fun _ h => by cases h))
  have hs2 : B ≤ w2.heap.size := by rw [← eB]; exact hg2.size
  rw [eB] at HB2
  have hr2 := HR1.out.below HB2.out (Nat.le_of_eq eB)
  have HR2 := hid hr2
  clear hrow hg2 hr1 hr2 q3 q4
  have q3 := Rec.cell HR2.out 4
  simp at q3
  have HEB := hid eB
  try rw [eB]
  clear eB
  go_wp2_with fail
  go_loopw [4, 5, 28] (fun _ _ i wr => ∃ k : Nat, i = .int .i64 (k : Int) ∧ k ≤ n ∧ Hid (wr.ownsRow B 22 1 (.slice (some ⟨B, 0, none⟩) n n) n (u64s (cpy V k))) ∧ Hid (Below B w1 wr) ∧ B ≤ wr.heap.size) (fun _ _ i _ => n - natI i)
  case atStart => exact ⟨0, rfl, Nat.zero_le _, HROW, HB2, hs2⟩
  case round =>
    clear HROW HB2 hs2 q3 HR2
    obtain ⟨k, rfl, hk, HO, HB, hBr⟩ := hrel
    have HBR := hid (HB1.out.trans (HB.out.mono (by have := HEB.out; have := HB1.out.size; omega)))
    by_cases hlt : k < n
    · obtain ⟨b1, o1, e1, ck⟩ := u64_at (HA.out.below HBR.out) (k := k) (by rw [EN.out]; exact hlt)
      subst e1
      have hst := HO.out.stored k (.int .u64 (m60 (atD V k)))
      have HN := hid (show (wr.setCell ⟨B, k, none⟩ (.int .u64 (m60 (atD V k)))).ownsRow B 22 1 (.slice (some ⟨B, 0, none⟩) n n) n (u64s (cpy V (k + 1))) by
        rw [← cpy_succ V k (by rw [EN.out]; exact hlt), show u64s ((cpy V k).set k (m60 (atD V k))) = (u64s (cpy V k)).set k (.int .u64 (m60 (atD V k))) by simp [u64s, List.map_set]]
        exact hst.1)
      have HBN := hid (HB.out.setCell (p := ⟨B, k, none⟩) (Nat.le_refl _) (.int .u64 (m60 (atD V k))))
      have cw : (wr.cell? ⟨B, k, none⟩).isSome = true := by
        have := HO.out.cellAt k (by omega)
        rw [this, List.getElem?_eq_getElem (by rw [u64s_length, cpy_length _ _ (by rw [EN.out]; exact hk), EN.out]; exact hlt)]; rfl
      obtain ⟨z, cz⟩ := Option.isSome_iff_exists.1 cw
      have fz := HO.out.frozenAt k
      have lz := (HO.out.lt B rfl).2
      have hx0 : 0 ≤ atD V k := (HOK.out _ (by unfold atD; rw [List.getElem?_eq_getElem (by rw [EN.out]; exact hlt)]; exact List.getElem_mem _)).1
      obtain ⟨x, ex⟩ : ∃ x, atD V k = x := ⟨_, rfl⟩
      rw [ex] at ck HN HBN hx0
      have hB2 : B ≤ (wr.setCell ⟨B, k, none⟩ (.int .u64 (m60 x))).heap.size := by simpa [World.setCell] using hBr
      unfold m60 at HN HBN hB2
      clear hst cw ex
      go_wp2_with fail
      go_roundw
      case rel => exact ⟨k + 1, by go_num, by omega, HN, HBN, hB2⟩
      case measure => simp [natI]; omega
    · obtain rfl : k = n := by omega
      have HOA := hid (show wr.ownsRow B 22 1 (.slice (some ⟨B, 0, none⟩) k k) k (u64s (V.map m60)) by rw [← cpy_all, EN.out]; exact HO.out)
      have hrr := HR1.out.below HB.out (Nat.le_of_eq HEB.out)
      have c4 := Rec.cell hrr 4
      have f4 := Rec.frozen hrr 4
      have l4 := Rec.lt hrr
      simp at c4
      have HR3 := hid (show Rec (wr.setCell ⟨K, 4, none⟩ (.slice (some ⟨B, 0, none⟩) k k)) K 28 #[.int .u64 (wt : Int), .int .i64 p, .int .i64 u, .int .i64 s, .slice (some ⟨B, 0, none⟩) k k, .slice A2 m ca2] by
        have := hrr.set 4 (.slice (some ⟨B, 0, none⟩) k k)
        simpa using this)
      have HO3 := hid (own_setB HOA.out hrr (by decide) 4 (.slice (some ⟨B, 0, none⟩) k k))
      have HB3 := hid (HBR.out.setCell (p := ⟨K, 4, none⟩) (Nat.le_of_eq EK.out) (.slice (some ⟨B, 0, none⟩) k k))
      clear HO HOA HB HBR hrr
      go_upto_region 12 with (fail)
      obtain ⟨w3, ew3⟩ : ∃ W, W = wr.setCell ⟨K, 4, none⟩ (.slice (some ⟨B, 0, none⟩) k k) := ⟨_, rfl⟩
      rw [← ew3] at HR3 HO3 HB3 ⊢
      have HZ3 := hid (HZ.out.below HB3.out)
      have hbi : BIn w3 wt p u s (V.map m60) G #[.int .u64 (wt : Int), .int .i64 p, .int .i64 u, .int .i64 s, .slice (some ⟨B, 0, none⟩) k k, .slice A2 m ca2] :=
        ⟨HWT.out, B, 0, k, A2, ca2, by rw [List.length_map, EN.out, EM.out]; rfl, by rw [List.length_map, EN.out]; omega, by rw [EM.out]; exact hca2, by rw [List.length_map, EN.out]; exact hn12, by rw [EM.out]; exact hm12, Cells.of_own HO3.out, HG.out.below HB3.out⟩
      obtain ⟨S, eS⟩ : ∃ S, ofS wt p u s (V.map m60) G = S := ⟨_, rfl⟩
      have hS8 : S.v.length ≤ 8 := by rw [← eS, ofS_len.1]; omega
      have hSwt : S.wt < 2 ^ S.v.length := by rw [← eS]; exact ofS_wt
      have hSg : S.g.length = S.v.length := by rw [← eS, ofS_len.1, ofS_len.2]
      have hSu : ∀ j, U64 (atD S.v j) := fun j => by
        rw [← eS]
        exact ofS_at (fun x hx => by obtain ⟨y, _, rfl⟩ := List.mem_map.1 hx; exact m60_u64 y) j
      have hSpu : S.u = u ∧ S.s = s := by rw [← eS]; exact ⟨rfl, rfl⟩
      have HOF := hid (Of_any hbi)
      rw [eS] at HOF
      have HBAN := hid (fun W (hW : Below w3.heap.size w3 W) => banned_any (hbi.below hW) (by rw [eS]; exact hS8) (by rw [eS]; exact hSwt) (HZ3.out.below hW))
      rw [eS] at HBAN
      have HBI := hid hbi
      have HES := hid eS
      have HSU := hid hSu
      have HSW := hid hSwt
      have HPU := hid hSpu
      clear ew3 hbi c4 f4 l4 HO3 hBr eS hSu hSwt hSpu
      have q0 := Rec.cell HR3.out 0
      have q1 := Rec.cell HR3.out 1
      have q2 := Rec.cell HR3.out 2
      have q3 := Rec.cell HR3.out 3
      have q4 := Rec.cell HR3.out 4
      have q5 := Rec.cell HR3.out 5
      simp at q0 q1 q2 q3 q4 q5
      go_upto_region 13 with (go_at_call 5; refine HOF.out.mono ?_; rintro _ w4 ⟨A3, c3, A4, c4, rfl, hA3, hb4⟩)
      obtain ⟨D, eD⟩ : ∃ D, w4.heap.size = D := ⟨_, rfl⟩
      obtain ⟨nv, env⟩ : ∃ x, S.v.length = x := ⟨_, rfl⟩
      obtain ⟨st, est⟩ : ∃ x, S.wt = x := ⟨_, rfl⟩
      rw [env, est]
      obtain ⟨w5, ew5⟩ : ∃ W, W = w4.alloc (.cells #[.int .i64 p, .int .i64 u, .int .i64 s, .int .u64 (st : Int), .slice A3 nv c3, .slice A4 nv c4] 31) := ⟨_, rfl⟩
      have hb45 : Below w4.heap.size w4 w5 := by rw [ew5]; exact (Below.refl _ w4).alloc (Nat.le_refl _) _
      have hr5 : Rec w5 D 31 #[.int .i64 p, .int .i64 u, .int .i64 s, .int .u64 (st : Int), .slice A3 nv c3, .slice A4 nv c4] := by rw [ew5, ← eD]; exact Rec.new w4 _ _
      have hb35 := below_trans' hb4 hb45
      have d3 := Rec.cell hr5 3
      have d4 := Rec.cell hr5 4
      simp at d3 d4
      have HLE := hid (RLeast_any (d := D) (wt := st) env (by omega) d3 d4 (hA3.below hb45))
      have HB5 := hid (HB3.out.trans (hb35.mono HB3.out.size))
      have HB35 := hid hb35
      have hR5 := hid (HR3.out.below hb35 (Nat.le_refl _))
      rw [← ew5, eD]
      clear ew5 hb45 hr5 hb35 d3 d4 hA3 hb4 q0 q1 q2 q3 q4 q5 eD
      have q0 := Rec.cell hR5.out 0
      have q1 := Rec.cell hR5.out 1
      have q2 := Rec.cell hR5.out 2
      have q3 := Rec.cell hR5.out 3
      have q4 := Rec.cell hR5.out 4
      have q5 := Rec.cell hR5.out 5
      simp at q0 q1 q2 q3 q4 q5
      cases hq : leastV S.v S.wt with
      | none =>
        have hw0 : S.wt = 0 := by
          rcases Nat.eq_zero_or_pos S.wt with h0 | h0
          · exact h0
          · obtain ⟨j, hj, hjb⟩ := some_bit (by omega) HSW.out
            have := leastK_none _ (Nat.le_refl _) hq j hj
            rw [hjb] at this; cases this
        have hbf : banF S = 0 := by unfold banF; rw [hw0, bits_zero]; rfl
        have HOR := hid (fun W (hW : Below w3.heap.size w3 W) => order_none (HBI.out.below hW) (by rw [HES.out]; exact hw0) 5 (by omega))
        rw [est] at hq
        rw [hq] at HLE
        rw [hbf] at HBAN
        simp only [encB] at HLE
        clear hq hw0 hbf env est
        go_wp2_with fail
        refine HLE.out.mono ?_
        rintro _ _ ⟨rfl, x5, rfl⟩
        go_wp2_with fail
        refine (HBAN.out _ (below_trans' HB35.out (by (repeat (first | exact Below.refl _ _ | refine RowKit.Below.past ?_ _ | refine RowKit.Below.alloc' ?_ _ | refine RowKit.Below.drew' ?_ | refine RowKit.Below.drewN' ?_ _ | refine RowKit.Below.setCell' ?_ (by simp [go_sem]) _))))).mono ?_
        rintro _ _ ⟨rfl, x6, rfl⟩
        go_wp2_with fail
        refine (HOR.out _ (below_trans' HB35.out (by (repeat (first | exact Below.refl _ _ | refine RowKit.Below.past ?_ _ | refine RowKit.Below.alloc' ?_ _ | refine RowKit.Below.drew' ?_ | refine RowKit.Below.drewN' ?_ _ | refine RowKit.Below.setCell' ?_ (by simp [go_sem]) _))))).mono ?_
        rintro _ _ ⟨rfl, x7, rfl⟩
        go_wp2_with fail
        go_ret
        exact Gives.mk rfl (below_trans' HB5.out (by (repeat (first | exact Below.refl _ _ | refine RowKit.Below.past ?_ _ | refine RowKit.Below.alloc' ?_ _ | refine RowKit.Below.drew' ?_ | refine RowKit.Below.drewN' ?_ _ | refine RowKit.Below.setCell' ?_ (by simp [go_sem]) _))))
      | some j =>
        have hj := leastK_spec _ (Nat.le_refl _) j hq
        have hw0 : S.wt ≠ 0 := fun h0 => by have := hj.2.1; rw [h0] at this; simp at this
        have ok : OkS S := ⟨hS8, hSg, HSW.out, hw0, by rw [HPU.out.1]; exact HU.out, fun i _ => HSU.out i⟩
        have HTK := hid (fun W (hW : Below w3.heap.size w3 W) => ticks_any (HBI.out.below hW) (by rw [HES.out]; exact ok) (HZ3.out.below hW) j (by rw [HES.out]; exact hj.2.1))
        rw [HES.out] at HTK
        have htl := ticks_least ok hq 998
        obtain ⟨o, eo, ho, hob⟩ := ban_least ok hq
        rw [eo] at HBAN
        obtain ⟨tk, etk⟩ : ∃ x, ticksF 1000 S j 0 = x := ⟨_, rfl⟩
        have htl1 : 0 ≤ tk := by rw [← etk]; exact htl.1
        have htl2 : tk ≤ leftF u s := by rw [← etk, ← HPU.out.1, ← HPU.out.2]; exact htl.2
        rw [etk] at HTK
        have hj8 : j < 8 := by have := hj.1; omega
        have HRL := hid (fun W => RLeft_any p u s W)
        have HRH := hid (fun W => (show Calls Tryd.prog 11 #[.int .u64 (o : Int), .int .i64 (j : Int)] W (Gives (.bool false) W) from hob ▸ RHasN_gives o j (by omega) W))
        rw [est] at hq
        rw [hq] at HLE
        simp only [encB] at HLE
        obtain ⟨lf, elf⟩ : ∃ x, leftF u s = x := ⟨_, rfl⟩
        rw [elf] at HRL htl2
        clear hq hw0 ok hj htl eo hob etk env est elf ho
        have hd1 : decide ((j : Int) < 0) = false := by simp
        go_wp2_with fail
        refine HLE.out.mono ?_
        rintro _ _ ⟨rfl, x5, rfl⟩
        go_wp2_with fail
        refine (HTK.out _ (below_trans' HB35.out (by (repeat (first | exact Below.refl _ _ | refine RowKit.Below.past ?_ _ | refine RowKit.Below.alloc' ?_ _ | refine RowKit.Below.drew' ?_ | refine RowKit.Below.drewN' ?_ _ | refine RowKit.Below.setCell' ?_ (by simp [go_sem]) _))))).mono ?_
        rintro _ _ ⟨rfl, x6, rfl⟩
        go_wp2_with fail
        refine (HRL.out _).mono ?_
        rintro _ _ ⟨rfl, x7, rfl⟩
        go_wp2_with fail
        refine (HBAN.out _ (below_trans' HB35.out (by (repeat (first | exact Below.refl _ _ | refine RowKit.Below.past ?_ _ | refine RowKit.Below.alloc' ?_ _ | refine RowKit.Below.drew' ?_ | refine RowKit.Below.drewN' ?_ _ | refine RowKit.Below.setCell' ?_ (by simp [go_sem]) _))))).mono ?_
        rintro _ _ ⟨rfl, x8, rfl⟩
        go_wp2_with fail
        refine (HRH.out _).mono ?_
        rintro _ _ ⟨rfl, x9, rfl⟩
        go_wp2_with fail
        go_ret
        exact Gives.mk rfl (below_trans' HB5.out (by (repeat (first | exact Below.refl _ _ | refine RowKit.Below.past ?_ _ | refine RowKit.Below.alloc' ?_ _ | refine RowKit.Below.drew' ?_ | refine RowKit.Below.drewN' ?_ _ | refine RowKit.Below.setCell' ?_ (by simp [go_sem]) _))))
theorem c_ban6 : Tryd.prog.cellsOf 28 = 6 := by kernel_rfl
theorem c_turn2 : Tryd.prog.cellsOf 24 = 2 := by kernel_rfl
theorem c_u64 : Tryd.prog.cellsOf 22 = 1 := by kernel_rfl
theorem c_int1 : Tryd.prog.cellsOf 3 = 1 := by kernel_rfl
theorem c_rowU : Tryd.prog.cellsOf 25 = 1 := by kernel_rfl
theorem c_rowI : Tryd.prog.cellsOf 26 = 1 := by kernel_rfl
theorem tab_oneU (l : List Int) : tab (fun x : Int => [Value.int .u64 x]) l = u64s l := by induction l with | nil => rfl | cons x l ih => simpa [tab, u64s] using ih
theorem tab_oneI (l : List Int) : tab (fun x : Int => [Value.int .i64 x]) l = i64s l := by induction l with | nil => rfl | cons x l ih => simpa [tab, i64s] using ih
theorem banLeast_own : ownKnob Tryd.prog.godebug = none := by kernel_rfl
theorem banLeast_laidOut : laidOutB Tryd.prog = true := by kernel_rfl
theorem banLeast_types : ∀ t ∈ Tryd.f3.params.toList, Tryd.prog.readableRec t = true ∧ t < Tryd.prog.types.size := by
  rw [Tryd.params3]
  intro t ht
  simp only [List.mem_cons, List.not_mem_nil, or_false] at ht
  rcases ht with rfl
  · exact ⟨by kernel_rfl, of_decide_eq_true (by kernel_rfl)⟩
set_option maxRecDepth 100000 in
theorem banLeast_lifted (os : Os) (started : os.Started) (H : Type) (enc : TypeId × Value → H) :
    ReturnsInHanded {} Tryd.checked os 3 .any (fun w args => (Rows.banLeastSpec.pre enc Tryd.prog Tryd.f3 [] false w args ∧ laidMetH Tryd.prog laidT w) ∧ sizedMet enc Tryd.prog Tryd.f3 (OpenSpec.ofChange Rows.banLeastSpec) false w args) (Rows.banLeastSpec.post enc Tryd.prog Tryd.f3 false true false false) := by
  refine returnsInHanded_of_change_and (C := Tryd.checked) (X := fun w _ => laidMetH Tryd.prog laidT w) (fun _ _ _ hh h => h.of_heap hh) banLeast_own started (by kernel_rfl) Tryd.func3
    (ChangeSpec.witness_shaped (enc := enc) (C := Tryd.checked) (os := os) (X := fun w _ => laidMetH Tryd.prog laidT w) false (World.doorLaid Tryd.prog 14 os) #[.agg #[.int .u64 0, .int .i64 0, .int .i64 0, .int .i64 0, .slice none 0 0, .slice none 0 0]] 8 rfl (World.shaped_of_RefB (by kernel_rfl) (by kernel_rfl)) (by kernel_rfl) (by kernel_rfl) (by kernel_rfl) (door_met os _)) ?_
  intro W base args ds gs before hval0 hW hcnd _ hLaid _
  have hZ : Tz W := tz_of_laid hLaid
  clear hLaid
  have hval : ∀ (j : Nat) t v, Tryd.f3.params[j]? = some t → args[j]? = some v → Value.okWide Tryd.prog W .any base t v := hval0
  have hW' := hW
  obtain ⟨p, q, hA0, hV, hpq, hfz, hnd⟩ := hW
  have hA : DataW.TrodAll enc Tryd.prog W 0 (fun _ => true) true Tryd.f3.params.toList args.toList ds p := hA0
  rw [Tryd.params3] at hA hval
  obtain ⟨v0, vs0, d0, ds0, p0, q0, hargs, rfl, rfl, h0, r0⟩ := trodAll_cons hA
  obtain ⟨rfl, rfl, rfl⟩ := trodAll_nil r0
  obtain rfl : args = #[v0] := by cases args; simp_all
  have k0 := hval 0 28 v0 rfl rfl
  clear hA0 hval0 hval hcnd hfz hnd hpq hV hargs r0
  suffices hs : Calls Tryd.prog 3 #[v0] W (Gives (.bool true) W) from hs.mono fun e W' ⟨he, x, hx⟩ => ⟨_, he, law_post banLeast_laidOut hW' rfl rfl (by kernel_rfl) (by first | exact Tryd.underlying4 | rfl) banLeast_types (hx ▸ W.below_past x)⟩
  clear hW'
  obtain ⟨cs, rfl, hr⟩ := rd_agg (.inl ⟨_, Tryd.underlying28⟩) k0 h0
  obtain ⟨z0, z1, z2, z3, z4, z5, ecs⟩ := cs_six (hr.len_struct Tryd.underlying28 c_ban6)
  rw [ecs] at hr
  obtain ⟨y0, e0, g0⟩ := Rd.int (hr.field Tryd.underlying28 0 22 0 1 rfl c_u64) Tryd.underlying22
  have hT := hr.field Tryd.underlying28 1 24 1 2 rfl c_turn2
  obtain ⟨y1, e1, g1⟩ := Rd.int (hT.field Tryd.underlying24 0 3 0 1 rfl c_int1) Tryd.underlying3
  obtain ⟨y2, e2, g2⟩ := Rd.int (hT.field Tryd.underlying24 1 3 1 1 rfl c_int1) Tryd.underlying3
  obtain ⟨y3, e3, g3⟩ := Rd.int (hr.field Tryd.underlying28 2 3 3 1 rfl c_int1) Tryd.underlying3
  have hV := hr.field Tryd.underlying28 3 25 4 1 rfl c_rowU
  have hG := hr.field Tryd.underlying28 4 26 5 1 rfl c_rowI
  simp at e0 e1 e2 e3 hV hG
  subst e0; subst e1; subst e2; subst e3
  obtain ⟨A, ca, l, rfl, ha, hok, hl, hcap⟩ := rd_tabC (f := fun x : Int => [Value.int .u64 x]) (c := 1) (K := U64) (fun _ => rfl) (by omega) hV Tryd.underlying25 c_u64 (fun _ h => by obtain ⟨x, e, hw⟩ := Rd.int h Tryd.underlying22; exact ⟨x, e, u64_of hw⟩)
  obtain ⟨A2, ca2, l2, rfl, ha2, _, hl2, hcap2⟩ := rd_tabC (f := fun x : Int => [Value.int .i64 x]) (c := 1) (K := fun _ => True) (fun _ => rfl) (by omega) hG Tryd.underlying26 c_int1 (fun _ h => by obtain ⟨x, e, _⟩ := Rd.int h Tryd.underlying3; exact ⟨x, e, trivial⟩)
  obtain ⟨wt, rfl⟩ := Int.eq_ofNat_of_zero_le (u64_of g0).1
  rw [arr_of ecs]
  exact BanLeast_any wt (by have := (u64_of g0).2; omega) y1 y2 y3 (i64_of g2) A ca _ l rfl hcap hl hok A2 ca2 _ l2 rfl hcap2 hl2 W (by rw [tab_oneU] at ha; exact ha) (by rw [tab_oneI] at ha2; exact ha2) hZ
theorem banLeast_row : Rows.BanLeastSaid :=
  OpenClaim.holds_of_wide 3 Tryd.f3 rfl rfl rfl rfl rfl rfl rfl ⟨rfl, rfl, rfl, rfl, rfl⟩ rfl rfl rfl rfl rfl (by kernel_rfl) Tryd.func3 (by kernel_rfl)
    (of_decide_eq_true (by kernel_rfl)) (by unfold Func.isWrapper; first | (rw [if_pos (by decide +kernel)]; kernel_rfl) | (rw [if_neg (by decide +kernel)]; exact ⟨rfl, rfl⟩))
    (fun os started H enc _ => banLeast_lifted os started H enc)
theorem banLeast_holds : Rows.BanLeastCardSaid :=
  Claim7.holds_tied_plain_at .later [] [.data] true _ false
    banLeast_row (fun _ h => by cases h) (by kernel_rfl) (fun _ h => by cases h) banLeast_row_tie rfl ⟨rfl, rfl⟩ (by kernel_rfl) rfl
    (fun f fn hf hfn => by
      obtain rfl : f = 3 := Option.some.inj ((show Tryd.prog.funcNamed "forelock/forelocklaw21.BanLeast" = some 3 by kernel_rfl).symm.trans hf) |>.symm
      obtain rfl : fn = Tryd.f3 := (Option.some.inj (Tryd.func3.symm.trans hfn)).symm
      exact ⟨by kernel_rfl, fun j t ht => by
        rw [Tryd.params3] at ht
        have hm : t ∈ [28] := by simpa using Array.mem_of_getElem? ht
        have hall : ([28].all fun u => !Tryd.prog.wantsStandIn u) = true := by kernel_rfl
        exact (show Tryd.prog.wantsStandIn t = false by simpa using List.all_eq_true.1 hall t hm)⟩)
    (by kernel_rfl)
end Go.Proofs.YthlogfclgakhkaaDoor
