/-
  Layer 04's HeapRuns: whatever is pushed, popped, removed and moved, answers are the document's. No condition.
-/
import Derived.Test.YtcbdghjakdbedaaRunB
import Derived.Test.YtcbdghjakdbedaaAwake
import Derived.Deep.CutBlock
import Derived.Deep.CutRange
import Derived.Deep.RegionHeld3
namespace Go.Proofs.Ytcbdghjakdbedaa
open Go Go.RowKit Go.ChangeShapes Go.WideShapes Go.ChangeAt HpI
def DeOk (d : De) : Prop := U8 d.k ∧ U64 d.v ∧ I64 d.i ∧ I64 d.x
/-- Both heaps hold the same. -/
structure Sm (w : World) (B b mb br : Nat) (mo : Int) (M : List It) (W : World) : Prop where
  hp : HP B W b mb mo M
  rf : RHp B W br mo M
  bel : Below w.heap.size w W
  bB : B ≤ W.heap.size
  wB : w.heap.size ≤ B
  vb : ∀ x ∈ M, x.v ≤ 18446744073709551615
theorem Sm.far {w W W' : World} {B b mb br : Nat} {mo : Int} {M : List It} (h : Sm w B b mb br mo M W) (hb : Below W.heap.size W W') : Sm w B b mb br mo M W' :=
  ⟨h.hp.far hb, h.rf.far hb, h.bel.trans (hb.mono h.bel.size), Nat.le_trans h.bB hb.size, h.wB, h.vb⟩
theorem Bo.sm {w W : World} {B b mb br g : Nat} {mo : Int} {d : De} {L M : List It} (h : Bo w B b mb br mo g d L M W) (p : L.Perm M) (hv : ∀ x ∈ M, x.v ≤ 18446744073709551615) : Sm w B b mb br mo M W := ⟨h.hp.perm p, h.rf, h.bel, h.bB, h.wB, hv⟩
theorem beq_t {a b : Int} (h : a = b) : (a == b) = true := by simp [h]
set_option maxRecDepth 100000 in
set_option maxHeartbeats 8000000 in
theorem HeapRuns_any (most : Int) (A : Option Addr) (ca n : Nat) (l : List De) (en : l.length = n) (hmx : n ≤ maxLen) (hU : ∀ x ∈ l, DeOk x) (w : World) (hc : Cells w A (tab deV l)) :
    Calls Try.prog 3 #[.int .i64 most, .slice A n ca] w (Gives (.bool true) w) := by
  have AWK := hid awake_any
  by_cases h100 : 100 < n
  · clear en hc
    go_enter Try.func3, Try.ntmps3
    go_wp2_with (go_at_call 5; refine (AWK.out _).mono ?_; rintro _ _ ⟨rfl, x1, rfl⟩)
    go_ret
    exact Gives.mk rfl (World.below_past _ _)
  · have hn : n ≤ 100 := by omega
    have EN := hid en
    have HC := hid hc
    have HUU := hid hU
    clear en hc hU h100 hmx
    go_enter Try.func3, Try.ntmps3
    go_wp2_with (go_at_call 5; refine (AWK.out _).mono ?_; rintro _ _ ⟨rfl, x1, rfl⟩)
    obtain ⟨w1, ew1⟩ : ∃ w1, w1 = w.past x1 := ⟨_, rfl⟩
    have hb1 : Below w.heap.size w w1 := by rw [ew1]; exact w.below_past x1
    rw [← ew1]
    obtain ⟨B, eB⟩ : ∃ B, B = w1.heap.size := ⟨_, rfl⟩
    refine (New_any (B := B) most w1 (by omega)).mono ?_
    rintro _ w2 ⟨b, mb, rfl, hP2, hb2, -, -⟩
    clear ew1
    go_wp2_with fail
    refine (RNew_any (B := B) most w2 (by have := hb2.size; omega)).mono ?_
    rintro _ w3 ⟨br, rfl, hR3, hb3, -⟩
    obtain ⟨mo, emo⟩ : ∃ mo, mostH most = mo := ⟨_, rfl⟩
    have hmo : mo ≤ 4096 := by rw [← emo]; unfold mostH; split; omega; split <;> omega
    rw [emo] at hP2 hR3
    have HS3 : Hid (Sm w B b mb br mo [] w3) := hid ⟨hP2.far hb3, hR3, (hb1.trans (hb2.mono hb1.size)).trans (hb3.mono (by have := hb1.size; have := hb2.size; omega)), by have := hb2.size; have := hb3.size; omega, by rw [eB]; exact hb1.size, fun x hx => by simp at hx⟩
    have HMO := hid hmo
    clear hP2 hR3 hb1 hb2 hb3 emo hmo eB
    go_wp2_with fail
    go_loopw [37] (fun i wr => ∃ (k : Nat) (M : List It), i = .int .i64 k ∧ k ≤ n ∧ Hid (Sm w B b mb br mo M wr)) (fun i _ => n - natC i)
    case atStart => exact ⟨0, [], rfl, by omega, HS3⟩
    case round =>
      clear HS3
      obtain ⟨k, M, rfl, hk, hS⟩ := hrel
      by_cases hlt : k < n
      · have hcw := HC.out.below hS.out.bel
        have hkl : k < l.length := by rw [EN.out]; exact hlt
        obtain ⟨g0, off, rfl, hcc⟩ := hcw.tab_at deV_length (List.getElem?_eq_getElem hkl) (by omega)
        have hok := HUU.out _ (List.getElem_mem hkl)
        obtain ⟨d, ed⟩ : ∃ d, l[k] = d := ⟨_, rfl⟩
        rw [ed] at hcc hok
        have c0 := hcc 0 _ rfl
        have c1 := hcc 1 _ rfl
        have c2 := hcc 2 _ rfl
        have c3 := hcc 3 _ rfl
        rw [Nat.add_zero] at c0
        obtain ⟨⟨o1, o2⟩, o3, o4, o5⟩ := hok
        obtain ⟨g, eg⟩ : ∃ g, wr.heap.size = g := ⟨_, rfl⟩
        obtain ⟨W9, eW9⟩ : ∃ W9, W9 = wr.alloc (.cells #[.int .u8 d.k, .int .u64 d.v, .int .i64 d.i, .int .i64 d.x] tDe) := ⟨_, rfl⟩
        have hb9 : Below wr.heap.size wr W9 := by rw [eW9]; exact (Below.refl _ _).alloc (Nat.le_refl _) _
        have h9 := hS.out.far hb9
        have B9 : Bo w B b mb br mo g d M M W9 := ⟨h9.hp, h9.rf, h9.bel, h9.bB, h9.wB, by rw [eW9, ← eg]; exact Rec.new wr _ _⟩
        have hM4 := hS.out.hp.good.len
        have HM4 := hid hM4
        have HVB := hid hS.out.vb
        have hdv : d.v ≤ 18446744073709551615 := by have := o4; unfold U64 at o3; omega
        have HDV := hid hdv
        have hbc := B9.bc
        have hgl := B9.box.lt
        have EW9 := hid eW9
        have HOK := hid (And.intro o3 (And.intro o4 o5))
        have B9 := hid B9
        clear eW9 h9 hb9 hcc hcw hS ed hM4 hkl o3 o4 o5 hdv
        have h6 : d.k % 6 = 0 ∨ d.k % 6 = 1 ∨ d.k % 6 = 2 ∨ d.k % 6 = 3 ∨ d.k % 6 = 4 ∨ d.k % 6 = 5 := by omega
        obtain ⟨d0, d1, d2, d3⟩ := hbc
        go_upto_block 2 with (fail)
        rw [← EW9.out]
        go_cut [9] from 43 to 245 (fun v9 wx => v9 = .bool true ∧ ∃ M', Hid (Sm w B b mb br mo M' wx))
        case first =>
          rcases h6 with h6 | h6 | h6 | h6 | h6 | h6
          · as_aux_lemma =>
            obtain ⟨pe, pp⟩ := push_same (mo := mo) (List.Perm.refl M) (itO d)
            have HPP := hid pp
            have BD := hid B9.out.drew
            have P1 := hid (bo_push BD.out HMO.out HOK.out.2.1)
            have P2 := hid (fun L' W (h : Bo w B b mb br mo g d L' M W) => bo_rpush h HMO.out HM4.out)
            obtain ⟨pr, epr⟩ : ∃ pr, pushE M mo d.i = pr := ⟨_, rfl⟩
            rw [epr] at P1 P2
            clear pe pp epr
            go_wp2_with fail
            go_region_held3 (fun w' => w'.cell? ⟨g, 0, none⟩ = some (.int .u8 d.k) ∧ w'.cell? ⟨g, 1, none⟩ = some (.int .u64 d.v) ∧ w'.cell? ⟨g, 2, none⟩ = some (.int .i64 d.i) ∧ w'.cell? ⟨g, 3, none⟩ = some (.int .i64 d.x)) (simp [go_sem, *]) (first | (go_at_call 8; refine P1.out.mono ?_; rintro _ w5 ⟨rfl, hb5, c50, c51, c52, c53⟩; have HB5 := hid hb5; clear hb5) | (go_at_call 9; refine (P2.out _ _ HB5.out).mono ?_; rintro _ w6 ⟨rfl, hb6, c60, c61, c62, c63⟩; have HB6 := hid hb6; clear hb6))
            go_wp2_with fail
            go_meet
            case rel =>
              refine ⟨rfl, rpushL M mo (itO d), hid (HB6.out.sm HPP.out (fun y hy => ?_))⟩
              unfold rpushL at hy
              split at hy
              · rcases List.mem_append.1 hy with hy | hy
                · exact HVB.out y hy
                · rw [List.mem_singleton.1 hy]; exact HDV.out
              · exact HVB.out y hy
          · as_aux_lemma =>
            cases M with
            | nil =>
              have P1 := hid (fun W (hb : Below W9.heap.size W9 W) => Pop_none (B9.out.far hb).hp)
              have F1 := hid (fun W (hb : Below W9.heap.size W9 W) => RFirst_any (B9.out.far hb).rf HM4.out)
              have T1 := hid (fun W (hb : Below W9.heap.size W9 W) => RTake_none (w := W) (b := br) (-1) (by omega))
              rw [show firstF [] = -1 from rfl] at F1
              go_wp2_with (first | (go_at_call 10; refine (P1.out _ (by (repeat (first | exact Below.refl _ _ | refine RowKit.Below.past ?_ _ | refine RowKit.Below.alloc' ?_ _ | refine RowKit.Below.drew' ?_ | refine RowKit.Below.drewN' ?_ _)))).mono ?_; rintro _ _ ⟨rfl, y1, rfl⟩) | (go_at_call 12; refine (F1.out _ (by (repeat (first | exact Below.refl _ _ | refine RowKit.Below.past ?_ _ | refine RowKit.Below.alloc' ?_ _ | refine RowKit.Below.drew' ?_ | refine RowKit.Below.drewN' ?_ _)))).mono ?_; rintro _ _ ⟨rfl, y2, rfl⟩) | (go_at_call 11; refine (T1.out _ (by (repeat (first | exact Below.refl _ _ | refine RowKit.Below.past ?_ _ | refine RowKit.Below.alloc' ?_ _ | refine RowKit.Below.drew' ?_ | refine RowKit.Below.drewN' ?_ _)))).mono ?_; rintro _ _ ⟨rfl, y3, rfl⟩))
              go_meet
              case rel => exact ⟨rfl, [], hid ((B9.out.sm (List.Perm.refl _) HVB.out).far (by (repeat (first | exact Below.refl _ _ | refine RowKit.Below.past ?_ _ | refine RowKit.Below.alloc' ?_ _ | refine RowKit.Below.drew' ?_ | refine RowKit.Below.drewN' ?_ _))))⟩
            | cons z0 M0 =>
              obtain ⟨M, eM⟩ : ∃ M, M = z0 :: M0 := ⟨_, rfl⟩
              rw [← eM] at B9 HM4 HVB
              have h0 : 0 < M.length := by rw [eM]; simp
              have P1 := hid (bo_pop B9.out h0)
              clear h0 eM
              go_wp2_with fail
              refine P1.out.mono ?_
              rintro _ W5 ⟨x, L', rfl, hx, hp5, hB5⟩
              rcases first_in M with ⟨e, -⟩ | ⟨i, hi, e, hl⟩
              · rw [e] at hx; exact absurd hx.1 (by simp)
              have hmx : M[i] = x := least_one B9.out.hp.good.nd hl hx
              have F1 := hid (fun W (hb : Below W5.heap.size W5 W) => e ▸ RFirst_any (hB5.far hb).rf HM4.out)
              have T1 := hid (fun W (hb : Below W5.heap.size W5 W) => bo_take (hB5.far hb) HM4.out i x (by rw [List.getElem?_eq_getElem hi, hmx]))
              have hbrW : br < W5.heap.size := hB5.rf.lt
              have hbrW' : ∀ c, br < W5.heap.size + c := fun c => by omega
              have hpe := hp5.trans ((erase_perm M i hi).symm)
              rw [hmx] at hpe
              have HPE := hid (List.Perm.cons_inv hpe)
              clear hp5 hB5 e hl hmx hi hx P1 hpe d0 d1 d2 d3 hgl
              go_wp2_with (first | (go_at_call 12; refine (F1.out _ (by (repeat (first | exact Below.refl _ _ | refine RowKit.Below.past ?_ _ | refine RowKit.Below.alloc' ?_ _ | refine RowKit.Below.drew' ?_ | refine RowKit.Below.drewN' ?_ _)))).mono ?_; rintro _ _ ⟨rfl, y2, rfl⟩) | (go_at_call 11; refine (T1.out _ (by (repeat (first | exact Below.refl _ _ | refine RowKit.Below.past ?_ _ | refine RowKit.Below.alloc' ?_ _ | refine RowKit.Below.drew' ?_ | refine RowKit.Below.drewN' ?_ _)))).mono ?_; rintro _ W7 ⟨rfl, hB7, hk7⟩; have hcc := kept_cell hk7; have hW57 : W5.heap.size < W7.heap.size := (by have := hk7.size; simp only [World.size_past, World.size_alloc] at this; omega); have HB7 := hid hB7; clear hB7 hk7))
              go_meet
              case rel => exact ⟨rfl, M.eraseIdx i, hid ((HB7.out.sm HPE.out (fun y hy => HVB.out y (List.mem_of_mem_eraseIdx hy))).far (by (repeat (first | exact Below.refl _ _ | refine RowKit.Below.past ?_ _ | refine RowKit.Below.alloc' ?_ _ | refine RowKit.Below.drew' ?_ | refine RowKit.Below.drewN' ?_ _))))⟩
          · as_aux_lemma =>
            rcases has_in M d.i with ⟨hno, e⟩ | ⟨i, hi, e, hid', -⟩
            · have P1 := hid (fun W (hb : Below W9.heap.size W9 W) => Remove_none (B9.out.far hb).hp d.i HOK.out.2.1 hno)
              have F1 := hid (fun W (hb : Below W9.heap.size W9 W) => e ▸ RHas_any (B9.out.far hb).rf HM4.out d.i)
              have T1 := hid (fun W (hb : Below W9.heap.size W9 W) => RTake_none (w := W) (b := br) (-1) (by omega))
              clear hno e
              go_wp2_with (first | (go_at_call 13; refine (P1.out _ (by (repeat (first | exact Below.refl _ _ | refine RowKit.Below.past ?_ _ | refine RowKit.Below.alloc' ?_ _ | refine RowKit.Below.drew' ?_ | refine RowKit.Below.drewN' ?_ _)))).mono ?_; rintro _ _ ⟨rfl, y1, rfl⟩) | (go_at_call 14; refine (F1.out _ (by (repeat (first | exact Below.refl _ _ | refine RowKit.Below.past ?_ _ | refine RowKit.Below.alloc' ?_ _ | refine RowKit.Below.drew' ?_ | refine RowKit.Below.drewN' ?_ _)))).mono ?_; rintro _ _ ⟨rfl, y2, rfl⟩) | (go_at_call 11; refine (T1.out _ (by (repeat (first | exact Below.refl _ _ | refine RowKit.Below.past ?_ _ | refine RowKit.Below.alloc' ?_ _ | refine RowKit.Below.drew' ?_ | refine RowKit.Below.drewN' ?_ _)))).mono ?_; rintro _ _ ⟨rfl, y3, rfl⟩))
              go_meet
              case rel => exact ⟨rfl, M, hid ((B9.out.sm (List.Perm.refl _) HVB.out).far (by (repeat (first | exact Below.refl _ _ | refine RowKit.Below.past ?_ _ | refine RowKit.Below.alloc' ?_ _ | refine RowKit.Below.drew' ?_ | refine RowKit.Below.drewN' ?_ _))))⟩
            · obtain ⟨x, hmx⟩ : ∃ x, M[i] = x := ⟨_, rfl⟩
              rw [hmx] at hid'
              have P1 := hid (hid' ▸ bo_remove B9.out x (by rw [← hmx]; exact List.getElem_mem hi))
              go_wp2_with fail
              refine P1.out.mono ?_
              rintro _ W5 ⟨rfl, L', hp5, hB5⟩
              have F1 := hid (fun W (hb : Below W5.heap.size W5 W) => e ▸ RHas_any (hB5.far hb).rf HM4.out d.i)
              have T1 := hid (fun W (hb : Below W5.heap.size W5 W) => bo_take (hB5.far hb) HM4.out i x (by rw [List.getElem?_eq_getElem hi, hmx]))
              have hbrW : br < W5.heap.size := hB5.rf.lt
              have hbrW' : ∀ c, br < W5.heap.size + c := fun c => by omega
              obtain ⟨b0, b1, b2, b3⟩ := hB5.bc
              have hg5 := hB5.box.lt
              have hpe := hp5.trans ((erase_perm M i hi).symm)
              rw [hmx] at hpe
              have HPE := hid (List.Perm.cons_inv hpe)
              clear hp5 hB5 e hmx hi hid' P1 hpe d0 d1 d2 d3 hgl
              go_wp2_with (first | (go_at_call 14; refine (F1.out _ (by (repeat (first | exact Below.refl _ _ | refine RowKit.Below.past ?_ _ | refine RowKit.Below.alloc' ?_ _ | refine RowKit.Below.drew' ?_ | refine RowKit.Below.drewN' ?_ _)))).mono ?_; rintro _ _ ⟨rfl, y2, rfl⟩) | (go_at_call 11; refine (T1.out _ (by (repeat (first | exact Below.refl _ _ | refine RowKit.Below.past ?_ _ | refine RowKit.Below.alloc' ?_ _ | refine RowKit.Below.drew' ?_ | refine RowKit.Below.drewN' ?_ _)))).mono ?_; rintro _ W7 ⟨rfl, hB7, hk7⟩; have hcc := kept_cell hk7; have hW57 : W5.heap.size < W7.heap.size := (by have := hk7.size; simp only [World.size_past, World.size_alloc] at this; omega); have HB7 := hid hB7; clear hB7 hk7))
              go_meet
              case rel => exact ⟨rfl, M.eraseIdx i, hid ((HB7.out.sm HPE.out (fun y hy => HVB.out y (List.mem_of_mem_eraseIdx hy))).far (by (repeat (first | exact Below.refl _ _ | refine RowKit.Below.past ?_ _ | refine RowKit.Below.alloc' ?_ _ | refine RowKit.Below.drew' ?_ | refine RowKit.Below.drewN' ?_ _))))⟩
          · as_aux_lemma =>
            rcases has_in M d.i with ⟨hno, e⟩ | ⟨i, hi, e, hid', -⟩
            · have P1 := hid (fun W (hb : Below W9.heap.size W9 W) => Move_none (B9.out.far hb).hp d.i d.v HOK.out.2.1 hno)
              have F1 := hid (fun W (hb : Below W9.heap.size W9 W) => e ▸ RHas_any (B9.out.far hb).rf HM4.out d.i)
              clear hno e
              go_wp2_with (first | (go_at_call 15; refine (P1.out _ (by (repeat (first | exact Below.refl _ _ | refine RowKit.Below.past ?_ _ | refine RowKit.Below.alloc' ?_ _ | refine RowKit.Below.drew' ?_ | refine RowKit.Below.drewN' ?_ _)))).mono ?_; rintro _ _ ⟨rfl, y1, rfl⟩) | (go_at_call 14; refine (F1.out _ (by (repeat (first | exact Below.refl _ _ | refine RowKit.Below.past ?_ _ | refine RowKit.Below.alloc' ?_ _ | refine RowKit.Below.drew' ?_ | refine RowKit.Below.drewN' ?_ _)))).mono ?_; rintro _ _ ⟨rfl, y2, rfl⟩))
              go_meet
              case rel => exact ⟨rfl, M, hid ((B9.out.sm (List.Perm.refl _) HVB.out).far (by (repeat (first | exact Below.refl _ _ | refine RowKit.Below.past ?_ _ | refine RowKit.Below.alloc' ?_ _ | refine RowKit.Below.drew' ?_ | refine RowKit.Below.drewN' ?_ _))))⟩
            · obtain ⟨x, hmx⟩ : ∃ x, M[i] = x := ⟨_, rfl⟩
              rw [hmx] at hid'
              have hpe := (erase_perm M i hi).symm
              rw [hmx] at hpe
              have P1 := hid (hid' ▸ bo_move B9.out x (by rw [← hmx]; exact List.getElem_mem hi) d.v (M.eraseIdx i) hpe)
              go_wp2_with fail
              refine P1.out.mono ?_
              rintro _ W5 ⟨rfl, hB5⟩
              have hx : M[i]? = some x := by rw [List.getElem?_eq_getElem hi, hmx]
              have F1 := hid (fun W (hb : Below W5.heap.size W5 W) => e ▸ RHas_any (hB5.far hb).rf HM4.out d.i)
              obtain ⟨b0, b1, b2, b3⟩ := hB5.bc
              have hg5 := hB5.box.lt
              have HB5 := hid hB5
              have HSP := hid (show ((⟨d.v, d.i, x.x⟩ : It) :: M.eraseIdx i).Perm (M.set i ⟨d.v, x.id, x.x⟩) from by rw [← hid']; exact (set_perm (y := ⟨d.v, x.id, x.x⟩) hx hpe).symm)
              have HX := hid hx
              have hi0 : (0 : Int) ≤ i := by omega
              have hil : (i : Int) < M.length := by omega
              have hid2 := hid'
              clear hB5 e hmx hpe P1 d0 d1 d2 d3 hgl hx hid'
              go_wp2_with ((go_at_call 14; refine (F1.out _ (by (repeat (first | exact Below.refl _ _ | refine RowKit.Below.past ?_ _ | refine RowKit.Below.alloc' ?_ _ | refine RowKit.Below.drew' ?_ | refine RowKit.Below.drewN' ?_ _)))).mono ?_; rintro _ _ ⟨rfl, y2, rfl⟩))
              have hB6 := HB5.out.past y2
              obtain ⟨q, cq, r1, r2, r3, r4, r5, r6, r7⟩ := bo_put hB6 i x HX.out
              obtain ⟨e0, e1, e2, e3⟩ := hB6.bc
              have hg6 := hB6.box.lt
              obtain ⟨W6, eW6⟩ : ∃ W6, W6 = W5.past y2 := ⟨_, rfl⟩
              rw [← eW6] at r1 r2 r3 r4 r5 r7 e0 e1 e2 e3 hg6 ⊢
              have HSET := hid (r7 d.v)
              clear r7 hB6 eW6 b0 b1 b2 b3 hg5 F1
              go_region
              all_goals (
                go_wp2_with fail
                go_meet
                case rel => exact ⟨rfl, M.set i ⟨d.v, x.id, x.x⟩, hid ((HSET.out.sm HSP.out (fun y hy => by
                  rcases List.mem_or_eq_of_mem_set hy with hy | hy
                  · exact HVB.out y hy
                  · rw [hy]; exact HDV.out)).far (by (repeat (first | exact Below.refl _ _ | refine RowKit.Below.past ?_ _ | refine RowKit.Below.alloc' ?_ _ | refine RowKit.Below.drew' ?_ | refine RowKit.Below.drewN' ?_ _))))⟩)
          · as_aux_lemma =>
            cases M with
            | nil =>
              have P1 := hid (fun W (hb : Below W9.heap.size W9 W) => Peek_none (B9.out.far hb).hp)
              have F1 := hid (fun W (hb : Below W9.heap.size W9 W) => RFirst_any (B9.out.far hb).rf HM4.out)
              rw [show firstF [] = -1 from rfl] at F1
              go_wp2_with (first | (go_at_call 16; refine (P1.out _ (by (repeat (first | exact Below.refl _ _ | refine RowKit.Below.past ?_ _ | refine RowKit.Below.alloc' ?_ _ | refine RowKit.Below.drew' ?_ | refine RowKit.Below.drewN' ?_ _)))).mono ?_; rintro _ _ ⟨rfl, y1, rfl⟩) | (go_at_call 12; refine (F1.out _ (by (repeat (first | exact Below.refl _ _ | refine RowKit.Below.past ?_ _ | refine RowKit.Below.alloc' ?_ _ | refine RowKit.Below.drew' ?_ | refine RowKit.Below.drewN' ?_ _)))).mono ?_; rintro _ _ ⟨rfl, y2, rfl⟩))
              refine wp_region_past (by kernel_rfl) (by kernel_rfl) ?_
              repeat (go_big_quiet_step ((fail)))
              refine wpQuiet_nil ?_
              rintro _ ⟨_, rfl⟩
              rename_i xq
              go_wp2_with fail
              go_meet
              case rel => exact ⟨rfl, [], hid ((B9.out.sm (List.Perm.refl _) HVB.out).far (by (repeat (first | exact Below.refl _ _ | refine RowKit.Below.past ?_ _ | refine RowKit.Below.alloc' ?_ _ | refine RowKit.Below.drew' ?_ | refine RowKit.Below.drewN' ?_ _))))⟩
            | cons z0 M0 =>
              obtain ⟨M, eM⟩ : ∃ M, M = z0 :: M0 := ⟨_, rfl⟩
              rw [← eM] at B9 HM4 HVB
              have h0 : 0 < M.length := by rw [eM]; simp
              have P1 := hid (Peek_some B9.out.hp h0)
              clear h0 eM
              go_wp2_with fail
              refine P1.out.mono ?_
              rintro _ W5 ⟨x, hx, rfl, hb5⟩
              have hB5 := B9.out.far hb5
              rcases first_in M with ⟨e, -⟩ | ⟨i, hi, e, hl⟩
              · rw [e] at hx; exact absurd hx.1 (by simp)
              have hmx : M[i] = x := least_one B9.out.hp.good.nd hl hx
              have F1 := hid (fun W (hb : Below W5.heap.size W5 W) => e ▸ RFirst_any (hB5.far hb).rf HM4.out)
              obtain ⟨a, cp, -, r1, rs⟩ := hB5.rf.cells
              obtain ⟨q, rfl, s0, s1, s2⟩ := rs i hi
              rw [hmx] at s0 s1 s2
              have hbrW : br < W5.heap.size := hB5.rf.lt
              have hqW : q < W5.heap.size := World.block_lt_of_cell? W5 _ s0
              have hi0 : (0 : Int) ≤ i := by omega
              have hil : (i : Int) < M.length := by omega
              have HB5 := hid hB5
              clear hB5 e hl hmx hx P1 rs hb5 d0 d1 d2 d3 hgl
              go_wp2_with ((go_at_call 12; refine (F1.out _ (by (repeat (first | exact Below.refl _ _ | refine RowKit.Below.past ?_ _ | refine RowKit.Below.alloc' ?_ _ | refine RowKit.Below.drew' ?_ | refine RowKit.Below.drewN' ?_ _)))).mono ?_; rintro _ _ ⟨rfl, y2, rfl⟩))
              refine wp_region_past (by kernel_rfl) (by kernel_rfl) ?_
              repeat (go_big_quiet_step ((fail)))
              refine wpQuiet_nil ?_
              rintro _ ⟨_, rfl⟩
              rename_i xq
              go_wp2_with fail
              go_meet
              case rel => exact ⟨rfl, M, hid ((HB5.out.sm (List.Perm.refl _) HVB.out).far (by (repeat (first | exact Below.refl _ _ | refine RowKit.Below.past ?_ _ | refine RowKit.Below.alloc' ?_ _ | refine RowKit.Below.drew' ?_ | refine RowKit.Below.drewN' ?_ _))))⟩
          · as_aux_lemma =>
            obtain ⟨mm, em⟩ : ∃ mm, wrap64 ((IntKind.u64.wrap d.x).tmod 4) = mm := ⟨_, rfl⟩
            have hmm : 0 ≤ mm ∧ mm ≤ 3 := by
              have h1 : IntKind.u64.wrap d.x = d.x % 18446744073709551616 := by rw [IntKind.wrap_u64]
              rw [h1, Int.tmod_eq_emod_of_nonneg (by omega)] at em
              unfold wrap64 at em
              omega
            have P1 := hid (bo_due B9.out d.v mm hmm.1 (by omega))
            clear hmm
            go_wp2_with fail
            rw [em]
            refine P1.out.mono ?_
            rintro _ W5 ⟨rfl, L', q1, q2, q3, q4, -, q5⟩
            have HS5 := hid (show Sm w B b mb br mo L' W5 from ⟨q1, q2, q3, q4, B9.out.wB, fun y hy => HVB.out y (q5 y hy)⟩)
            clear q1 q2 q3 q4 q5 P1
            go_wp2_with fail
            go_meet
            case rel => exact ⟨rfl, L', HS5⟩
        case rest =>
          obtain ⟨rfl, M', hS'⟩ := hcut
          obtain ⟨a, cp, -, r1, -⟩ := hS'.out.rf.cells
          have hbrW := hS'.out.rf.lt
          have HL := hid (fun x : Past => bo_len (hS'.out.hp.far (wc.below_past x)))
          have hM5 := hS'.out.hp.good.len
          clear d0 d1 d2 d3 hgl h6
          go_wp2_with fail
          refine wp_region_past (by kernel_rfl) (by kernel_rfl) ?_
          repeat (go_big_quiet_step ((first | (go_at_call 18; first | with_reducible exact Calls.in_past ((HL.out _)) | with_reducible exact Calls.in_past2 ((HL.out _))) | (go_at_call 18; first | exact Calls.in_past ((HL.out _)) | exact Calls.in_past2 ((HL.out _))))))
          refine wpQuiet_nil ?_
          rintro _ ⟨_, rfl⟩
          rename_i xq
          go_wp2_with fail
          go_roundw
          case rel => exact ⟨k + 1, M', by go_num, by omega, hid (hS'.out.far (wc.below_past _))⟩
          case measure => simp [natC]; omega
      · obtain rfl : k = n := by omega
        have P1 := hid (due_any wr hS.out.hp hS.out.rf hS.out.bB 18446744073709551615 5000 (by omega) (by omega))
        have HLE := hid hS.out.hp.good.len
        go_wp2_with fail
        refine P1.out.mono ?_
        rintro _ W5 ⟨rfl, L', q1, q2, q3, q4, -, q6⟩
        have hnil : L' = [] := by
          cases L' with
          | nil => rfl
          | cons y L' =>
            have h1 := q4 (by have := HLE.out; omega) y (by simp)
            have h2 := hS.out.vb y (q6 y (by simp))
            omega
        subst hnil
        have HQ1 := hid q1
        have HB5 := hid (hS.out.bel.trans (q3.mono hS.out.wB))
        clear q1 q2 q3 q4 q6 P1
        go_wp2_with (go_at_call 18; refine (Len_any HQ1.out).mono ?_; rintro _ w9 ⟨rfl, h9⟩; rw [h9]; clear h9 w9)
        go_ret
        exact Gives.mk rfl HB5.out
theorem c_key_3 : Try.prog.cellsOf 3 = 1 := by kernel_rfl
theorem c_key_28 : Try.prog.cellsOf 28 = 1 := by kernel_rfl
theorem c_key : Try.prog.cellsOf 30 = 2 := by kernel_rfl
theorem rd_key {H : Type} {enc : TypeId × Value → H} {W : World} {cs : Array Value} (h : Rd enc Try.prog W 30 cs.toList) : ∃ x0 x1 : Int, cs = #[.int .u64 x0, .int .i64 x1] ∧ U64 x0 ∧ I64 x1 := by
  obtain ⟨c0, c1, e⟩ := cs_two (h.len_struct Try.underlying30 c_key)
  rw [e] at h
  obtain ⟨x0, e0, w0⟩ := Rd.int (h.field Try.underlying30 0 28 0 1 rfl c_key_28) Try.underlying28
  obtain ⟨x1, e1, w1⟩ := Rd.int (h.field Try.underlying30 1 3 1 1 rfl c_key_3) Try.underlying3
  simp at e0 e1
  subst e0 e1
  exact ⟨x0, x1, arr_of e, u64_of w0, i64_of w1⟩
theorem c_deed_u8 : Try.prog.cellsOf 5 = 1 := by kernel_rfl
theorem c_deed_i64 : Try.prog.cellsOf 3 = 1 := by kernel_rfl
theorem c_deed : Try.prog.cellsOf tDe = 4 := by kernel_rfl
theorem rd_deed {H : Type} {enc : TypeId × Value → H} {W : World} {cs : Array Value} (h : Rd enc Try.prog W tDe cs.toList) : ∃ x0 x1 x2 x3 : Int, cs = #[.int .u8 x0, .int .u64 x1, .int .i64 x2, .int .i64 x3] ∧ U8 x0 ∧ U64 x1 ∧ I64 x2 ∧ I64 x3 := by
  obtain ⟨c0, c1, c2, c3, e⟩ := cs_four (h.len_struct Try.underlying32 c_deed)
  rw [e] at h
  obtain ⟨x0, e0, w0⟩ := Rd.int (h.field Try.underlying32 0 5 0 1 rfl c_deed_u8) Try.underlying5
  have hk := h.field Try.underlying32 1 30 1 2 rfl c_key
  obtain ⟨x3, e3, w3⟩ := Rd.int (h.field Try.underlying32 2 3 3 1 rfl c_deed_i64) Try.underlying3
  simp at e0 e3 hk
  obtain ⟨x1, x2, ek, w1, w2⟩ := rd_key (cs := #[c1, c2]) hk
  simp at ek
  obtain ⟨e1, e2⟩ := ek
  subst e0 e1 e2 e3
  exact ⟨x0, x1, x2, x3, arr_of e, u8_of w0, w1, w2, i64_of w3⟩
theorem rd_de {H : Type} {enc : TypeId × Value → H} {W : World} : ∀ cs : List Value, Rd enc Try.prog W tDe cs → ∃ x, cs = deV x ∧ DeOk x := fun cs hcs => by
  have hcs' : Rd enc Try.prog W tDe (cs.toArray).toList := by simpa using hcs
  obtain ⟨x0, x1, x2, x3, e, h0, h1, h2, h3⟩ := rd_deed hcs'
  refine ⟨⟨x0, x1, x2, x3⟩, ?_, h0, h1, h2, h3⟩
  have : cs.toArray.toList = _ := congrArg Array.toList e
  simpa [deV] using this
theorem heapRuns_own : ownKnob Try.prog.godebug = none := by kernel_rfl
theorem heapRuns_laidOut : laidOutB Try.prog = true := by kernel_rfl
theorem heapRuns_types : ∀ t ∈ Try.f3.params.toList, Try.prog.readableRec t = true ∧ t < Try.prog.types.size := by
  rw [Try.params3]
  intro t ht
  simp only [List.mem_cons, List.not_mem_nil, or_false] at ht
  rcases ht with rfl | rfl
  · exact ⟨by kernel_rfl, of_decide_eq_true (by kernel_rfl)⟩
  · exact ⟨by kernel_rfl, of_decide_eq_true (by kernel_rfl)⟩
set_option maxRecDepth 100000 in
theorem heapRuns_lifted (os : Os) (started : os.Started) (H : Type) (enc : TypeId × Value → H) :
    ReturnsInHanded {} Try.checked os 3 .any (Rows.heapRunsSpec.pre6 enc Try.prog Try.f3 Rows.heapRunsRow.domain false) (Rows.heapRunsSpec.post enc Try.prog Try.f3 false true false false) := by
  refine returnsInHanded_of_change (C := Try.checked) heapRuns_own started (by kernel_rfl) Try.func3
    (ChangeSpec.witness6 (enc := enc) (C := Try.checked) false ⟨#[], #[.int .i64 0, .slice none 0 0], []⟩ 8 (by kernel_rfl) (by kernel_rfl) (by kernel_rfl) (by kernel_rfl)) ?_
  intro W base args ds gs before hval0 hW hcnd _
  have hval : ∀ (j : Nat) t v, Try.f3.params[j]? = some t → args[j]? = some v → Value.okWide Try.prog W .any base t v := hval0
  have hW' := hW
  obtain ⟨p, q, hA0, hV, hpq, hfz, hnd⟩ := hW
  have hA : DataW.TrodAll enc Try.prog W 0 (fun _ => true) true Try.f3.params.toList args.toList ds p := hA0
  rw [Try.params3] at hA hval
  obtain ⟨v0, vs0, d0, ds0, p0, q0, hargs, rfl, rfl, h0, r0⟩ := trodAll_cons hA
  obtain ⟨v1, vs1, d1, ds1, p1, q1, rfl, rfl, rfl, h1, r1⟩ := trodAll_cons r0
  obtain ⟨rfl, rfl, rfl⟩ := trodAll_nil r1
  obtain rfl : args = #[v0, v1] := by cases args; simp_all
  have k0 := hval 0 3 v0 rfl rfl
  have k1 := hval 1 22 v1 rfl rfl
  clear hA0 hval0 hval hcnd hfz hnd hpq hV hargs r1
  suffices hs : Calls Try.prog 3 #[v0, v1] W (Gives (.bool true) W) from hs.mono fun e W' ⟨he, x, hx⟩ => ⟨_, he, law_post heapRuns_laidOut hW' rfl rfl (by kernel_rfl) (by first | exact Try.underlying4 | rfl) heapRuns_types (hx ▸ W.below_past x)⟩
  clear hW'
  obtain ⟨x1, rfl, _, _, w1⟩ := open_int Try.underlying3 k0 h0
  obtain ⟨A, ca, l, rfl, ha, hK, hl⟩ := rd_tab deV_length (by omega) (rd_slice Try.underlying22 k1 h1) Try.underlying22 c_deed rd_de
  exact HeapRuns_any x1 A ca _ l rfl hl hK W ha
theorem heapRuns_holds : Rows.HeapRunsSaid :=
  OpenClaim.holds_of_wide 3 Try.f3 rfl rfl rfl rfl rfl rfl rfl ⟨rfl, rfl, rfl, rfl, rfl⟩ rfl rfl rfl rfl rfl (by kernel_rfl) Try.func3 (by kernel_rfl)
    (of_decide_eq_true (by kernel_rfl)) (by unfold Func.isWrapper; first | (rw [if_pos (by decide +kernel)]; kernel_rfl) | (rw [if_neg (by decide +kernel)]; exact ⟨rfl, rfl⟩))
    (fun os started H enc _ => heapRuns_lifted os started H enc)
end Go.Proofs.Ytcbdghjakdbedaa
