/-
  Layer 37: the document's first turns. No condition.
-/
import Derived.Test.YtjhjkchcjpijaaaRefS
import Derived.Deep.CutRange
namespace Go.Proofs.Ytjhjkchcjpijaaa
open Go Go.RowKit HpI
/-- What stands between two turns of the document's First. -/
structure RfI (w w2 wr : World) (g m : Nat) (P : List Int) (v : Value) (A0 : Option Addr) (c0 : Nat) (W : List Int) (k : Nat) (out : List Int) : Prop where
  lw : LeftW 37 .u64 w wr g m P
  ws : wr.ownsRow w.heap.size 3 1 (.slice A0 m c0) m (i64s W)
  wg : ∀ q, (Value.slice A0 m c0).ownBlock = some q → q < g
  gl : g < w2.heap.size
  sz : w2.heap.size ≤ wr.heap.size
  out : wr.ownsRow w2.heap.size 3 1 v k (i64s out)
section
variable {w w2 wr : World} {g m : Nat} {P : List Int} {v : Value} {A0 : Option Addr} {c0 : Nat} {W : List Int} {k : Nat} {out : List Int}
theorem RfI.past (h : RfI w w2 wr g m P v A0 c0 W k out) (x : Past) : RfI w w2 (wr.past x) g m P v A0 c0 W k out := ⟨h.lw.past x, own_past h.ws x, h.wg, h.gl, by have := h.sz; simp [go_sem]; omega, own_past h.out x⟩
theorem RfI.drew (h : RfI w w2 wr g m P v A0 c0 W k out) : RfI w w2 wr.drew g m P v A0 c0 W k out := ⟨h.lw.drew, h.ws.drew, h.wg, h.gl, h.sz, h.out.drew⟩
theorem RfI.push (h : RfI w w2 wr g m P v A0 c0 W k out) {w1 : World} {gn cap : Nat} {x : Int} (hg : wr.grownBy w1 v.ownBlock)
    (ho : w1.ownsRow w2.heap.size 3 1 (.slice (some ⟨gn, 0, none⟩) (k + 1) cap) (k + 1) (i64s out ++ [.int .i64 x])) : RfI w w2 w1 g m P (.slice (some ⟨gn, 0, none⟩) (k + 1) cap) A0 c0 W (k + 1) (out ++ [x]) := by
  have hv : ∀ q, v.ownBlock = some q → w2.heap.size ≤ q := fun q hq => (h.out.lt q hq).1
  have hlt := h.lw.lt
  have hgl := h.gl
  refine ⟨⟨h.lw.below.trans ⟨hg.os, hg.tape, hg.output, hg.size, fun q hq => hg.block q (by have := h.lw.below.size; omega) (fun e => by have := hv q e.symm; omega)⟩, h.lw.own.kept hg (.inr fun e => by have := hv g e.symm; omega)⟩, h.ws.kept hg ?_, h.wg, h.gl, Nat.le_trans h.sz hg.size, by rw [← i64s_snoc]; exact ho⟩
  cases e : (Value.slice A0 m c0).ownBlock with
  | none => exact .inl rfl
  | some q => exact .inr fun e2 => by have := hv q e2.symm; have := h.wg q e; omega
theorem RfI.set (h : RfI w w2 wr g m P v A0 c0 W k out) (j : Nat) (x : Int) : RfI w w2 (wr.setCell ⟨g, j, none⟩ (.int .u64 x)) g m (P.set j x) v A0 c0 W k out := by
  have hk := ((KS.refl (fun q => q = g) wr).setCell (b := g) rfl j (.int .u64 x)).block
  have hgl := h.gl
  exact ⟨h.lw.set j x, own_kept (X := fun q => q = g) h.ws hk (fun q hq e => by have := h.wg q hq; omega), h.wg, h.gl, by simpa using h.sz, own_kept (X := fun q => q = g) h.out hk (fun q hq e => by have := (h.out.lt q hq).1; omega)⟩
end
def lenV : Value → Nat
  | .slice _ n _ => n
  | _ => 0
set_option maxRecDepth 100000 in
set_option maxHeartbeats 4000000 in
theorem RFirst_any (A : Option Addr) (n ca : Nat) (l : List Int) (en : l.length = n) (hmx : n ≤ maxLen) (w : World) (hc : Cells w A (i64s l)) (t : Int) :
    Calls Try.prog 7 #[.slice A n ca, .int .i64 t] w (GivesOwn 3 1 (firstF l t).length (i64s (firstF l t)) w) := by
  obtain ⟨i0, hi, hz0, hz1, hz2⟩ := info_parts info_i64
  obtain ⟨u0, hu, uz0, uz1, uz2⟩ := info_parts info_u64
  have hBR := RBring_any A n ca l en w hc hmx
  obtain ⟨cn, ecn⟩ : ∃ cn, clampN t = cn := ⟨_, rfl⟩
  have hBT : bringF t 0 4096 = (cn : Int) := by rw [← ecn]; unfold bringF clampN; split <;> (try split) <;> omega
  have hcn : cn ≤ 4096 := by rw [← ecn]; unfold clampN; omega
  obtain ⟨m, em⟩ : ∃ m, (bringW l).length = m := ⟨_, rfl⟩
  have hm16 : m ≤ 16 := by rw [← em]; exact bringW_le l
  have hF : firstF l t = if m = 0 then [] else turnsF (bringW l) cn := by
    unfold firstF
    rw [ecn]
    have e1 : l = [] ↔ m = 0 := by rw [← em, bringW_length, ← List.length_eq_zero_iff]; omega
    by_cases h : m = 0
    · rw [if_pos h, if_pos (e1.2 h)]
    · rw [if_neg h, if_neg (fun e => h (e1.1 e))]
  obtain ⟨N, hN⟩ : ∃ N, (m = 0 ∧ N = 0) ∨ (0 < m ∧ N = cn) := by
    by_cases h : m = 0
    · exact ⟨0, .inl ⟨h, rfl⟩⟩
    · exact ⟨cn, .inr ⟨by omega, rfl⟩⟩
  have hF2 : firstF l t = turnsF (bringW l) N := by
    rw [hF]
    rcases hN with ⟨h, rfl⟩ | ⟨h, rfl⟩
    · rw [if_pos h]; simp [turnsF]
    · rw [if_neg (by omega)]
  rw [hF2, turns_length]
  rw [em] at hBR
  obtain ⟨W, eW⟩ : ∃ W, bringW l = W := ⟨_, rfl⟩
  rw [eW] at em hBR ⊢
  have HBR := hid hBR
  have HBT := hid (hBT ▸ fun w' => Bring_any t 0 4096 w')
  have EM := hid em
  clear hBR hc en hmx em hF hF2 ecn hBT eW
  go_enter Try.func7, Try.ntmps7
  go_upto_region 5 with (first | (go_at_call 14; refine HBR.out.mono ?_; rintro _ w1 ⟨A0, c0, rfl, hb1, ho1⟩; obtain ⟨x0, rfl⟩ := past_of hb1; have HO1 := hid ho1; clear hb1 ho1) | (go_at_call 15; refine (HBT.out _).mono ?_; rintro _ _ ⟨rfl, x1, rfl⟩) | (at_make; refine wpList_make_full _ rfl (.tmp 15) (.tmp 15) 36 rfl w.heap.size 37 u0 (.int .u64 0) 1 Try.underlying36 hu uz0 uz1 .i64 .i64 _ _ m rfl rfl rfl rfl ?_ ?_ ?_ ?_; (· rw [uz2]; omega); (· unfold maxLen; omega); (· simp [go_sem]); intro w2 hrow hg2))
  obtain ⟨g, hg⟩ : ∃ g, g = (w.past (x0.and x1)).heap.size := ⟨_, rfl⟩
  have hg' : w.heap.size + (x0.and x1).more = g := by rw [hg]; simp [go_sem]
  rw [hg']
  rw [← hg] at hrow
  have HI0 : Hid (RfI w w2 w2 g m (passF W 0) (.slice none 0 0) A0 c0 W 0 (turnsF W 0)) := hid (by
    have hs1 : (w.past x0).heap.size ≤ g := by rw [hg]; simp [go_sem, Past.and, Past.more]
    have hw1 := own_past HO1.out x1
    rw [World.past_past] at hw1
    refine ⟨⟨(RowKit.Below.past (Below.refl _ w) (x0.and x1)).grown hg2 (by simp [go_sem]) (fun _ h => by cases h), ?_⟩, hw1.kept hg2 (by
        cases e : (Value.slice A0 m c0).ownBlock with
        | none => exact .inl rfl
        | some q => exact .inr (by simp)), fun q hq => by have := (HO1.out.lt q hq).2; omega, (hrow.lt g rfl).2, Nat.le_refl _, World.ownsRow_nil _ _ _ _⟩
    simpa [passF, EM.out, toList_madeCells_one, Value.cells] using hrow)
  clear hrow hg2 hg hg' HBR HBT HO1
  go_loopw [7] (fun v wr => ∃ k : Nat, k ≤ N ∧ Hid (RfI w w2 wr g m (passF W k) v A0 c0 W k (turnsF W k))) (fun v _ => N - lenV v)
  case atStart => exact ⟨0, by omega, HI0⟩
  case round =>
    clear HI0
    obtain ⟨k, hk, HI⟩ := hrel
    obtain ⟨Av, cv, rfl⟩ := own_shape HI.out.out
    by_cases hlt : k < N
    · have hm0 : 0 < m := by omega
      have hNc : N = cn := by omega
      have hkc : k < cn := by omega
      clear hN
      obtain ⟨P, eP⟩ : ∃ P, passF W k = P := ⟨_, rfl⟩
      have HPL := hid (show P.length = m by rw [← eP, pass_length]; exact EM.out)
      have HU := hid (eP ▸ pass_u64 (w := W) k)
      have HPS := hid (show passF W (k + 1) = stepP W P by rw [← eP]; rfl)
      have HTS := hid (show turnsF W (k + 1) = turnsF W k ++ [(pickP P : Int)] by rw [turns_succ, turnF, eP])
      obtain ⟨T, eT⟩ : ∃ T, turnsF W k = T := ⟨_, rfl⟩
      have HI' := HI.out
      rw [eP, eT] at HI'
      rw [eT] at HTS
      have HI := hid HI'
      clear HI' eP eT
      go_wp2_with fail
      go_loopw [8, 9] (fun b i w5 => ∃ (j : Nat) (x : Past), b = .int .i64 (pickK P j) ∧ i = .int .i64 (j + 1 : Nat) ∧ j + 1 ≤ m ∧ w5 = wr.past x) (fun _ i _ => m - natC i)
      case atStart => exact ⟨0, ⟨#[], wr.drawn⟩, rfl, rfl, by omega, World.past_refl wr⟩
      case round =>
        obtain ⟨j, x, rfl, rfl, hj, rfl⟩ := hrel
        have hpk := (pick_in P j).1
        obtain ⟨b, eb⟩ : ∃ b, pickK P j = b := ⟨_, rfl⟩
        rw [eb] at hpk ⊢
        by_cases hlt2 : j + 1 < m
        · have c1 := HI.out.lw.cell (k := j + 1) hlt2
          have c2 := HI.out.lw.cell (k := b) (by omega)
          have hst : pickK P (j + 1) = if atL P (j + 1) < atL P b then j + 1 else b := by rw [pickK, eb]
          obtain ⟨p1, e1⟩ : ∃ p1, atL P (j + 1) = p1 := ⟨_, rfl⟩
          obtain ⟨p2, e2⟩ : ∃ p2, atL P b = p2 := ⟨_, rfl⟩
          rw [e1] at c1
          rw [e2] at c2
          rw [e1, e2] at hst
          have HST := hid hst
          clear hst e1 e2 eb
          by_cases hp : p1 < p2
          · go_wp2_with fail
            refine wp_region_past (by kernel_rfl) (by kernel_rfl) ?_
            repeat (go_big_quiet_step ((first | (go_at_call 9; first | with_reducible exact Calls.in_past (True) | with_reducible exact Calls.in_past2 (True)) | (go_at_call 9; first | exact Calls.in_past (True) | exact Calls.in_past2 (True)))))
            refine wpQuiet_nil ?_
            rintro _ ⟨_, rfl⟩
            go_wp2_with fail
            go_roundw
            case rel => exact ⟨j + 1, _, by rw [HST.out, if_pos hp], by go_num, by omega, rfl⟩
            case measure => simp [natC]; omega
          · go_wp2_with fail
            refine wp_region_past (by kernel_rfl) (by kernel_rfl) ?_
            repeat (go_big_quiet_step ((first | (go_at_call 9; first | with_reducible exact Calls.in_past (True) | with_reducible exact Calls.in_past2 (True)) | (go_at_call 9; first | exact Calls.in_past (True) | exact Calls.in_past2 (True)))))
            refine wpQuiet_nil ?_
            rintro _ ⟨_, rfl⟩
            go_wp2_with fail
            go_roundw
            case rel => exact ⟨j + 1, _, by rw [HST.out, if_neg (by omega)], by go_num, by omega, rfl⟩
            case measure => simp [natC]; omega
        · obtain rfl : m = j + 1 := by omega
          have hbP : pickP P = b := by unfold pickP; rw [HPL.out]; exact eb
          rw [hbP] at HTS
          have HPS2 : Hid (passF W (k + 1) = P.set b (addF (atL P b) (coreF (atL W b)))) := hid (by rw [HPS.out, stepP, hbP])
          clear eb hbP HPS
          have hI5 := HI.out.past x
          obtain ⟨w5, ew5⟩ : ∃ w5, w5 = wr.past x := ⟨_, rfl⟩
          rw [← ew5] at hI5 ⊢
          have HI5 := hid hI5
          have hB5 : w2.heap.size ≤ w5.heap.size := HI5.out.sz
          clear hI5 ew5 HI
          go_wp2_with (at_builtin; refine wpList_pushB rfl (.tmp 42) (.tmp 44) 22 rfl 3 i0 (.int .i64 0) 1 8 Try.underlying22 hi hz0 hz1 hz2 rfl (by decide) w2.heap.size hB5 (.slice Av k cv) k (i64s T) rfl HI5.out.out _ #[.int .i64 b] rfl rfl rfl (by simp [Value.oneCell']) (by omega) (by unfold maxLen; omega) ?_; intro w6 gn cap ho1 hg1 _; have HI6 := hid (HI5.out.push hg1 ho1); clear ho1 hg1)
          have c1 := HI6.out.lw.cell (k := b) (by omega)
          obtain ⟨gw, cw, ewv, -⟩ := own_succ HI6.out.ws (by omega)
          injection ewv with eA en ec
          clear en
          subst eA; subst ec
          have c2 : w6.cell? ⟨gw, b, none⟩ = some (.int .i64 (atL W b)) := by
            rw [HI6.out.ws.cellAt b (by omega)]
            simp [i64s, atL, show b < W.length by rw [EM.out]; omega]
          have HA := hid (fun w' => RAdd_any (atL P b) (coreF (atL W b)) (HU.out b) (by have := core_in (atL W b); unfold U64; omega) w')
          obtain ⟨y, ey⟩ : ∃ y, addF (atL P b) (coreF (atL W b)) = y := ⟨_, rfl⟩
          rw [ey] at HPS2 HA
          refine wp_region_last (C := fun w' => ∃ x : Past, w' = w6.past x) 16 [14] (by kernel_rfl) (by kernel_rfl) (by kernel_rfl) rfl (by kernel_rfl) (.inr fun _ _ d _ _ h => by cases d <;> exact h) (past_of ⟨rfl, rfl, rfl, Nat.le_refl _, fun _ _ => rfl⟩) ?_
          simp only [List.take_succ_cons, List.take_zero]
          repeat (go_big_quiet_step ((first | (go_at_call 17; first | with_reducible exact Calls.in_past (RCore_any _ _) | with_reducible exact Calls.in_past2 (RCore_any _ _)) | (go_at_call 16; first | with_reducible exact Calls.in_past (HA.out _) | with_reducible exact Calls.in_past2 (HA.out _)) | (go_at_call 17; first | exact Calls.in_past (RCore_any _ _) | exact Calls.in_past2 (RCore_any _ _)) | (go_at_call 16; first | exact Calls.in_past (HA.out _) | exact Calls.in_past2 (HA.out _)))))
          refine wpQuiet_nil ?_
          rintro _ ⟨xq, rfl⟩
          have c3 := below_cell (w6.below_past xq) (Nat.le_refl _) _ _ c1
          have f3 := (HI6.out.past xq).lw.frozen b
          refine wpOp_step rfl (fun K hK => ?_)
          go_simp
          refine hK _ _ ?_
          clear hK K
          go_wp2_with fail
          refine ⟨?_, ?measure⟩
          (repeat apply Exists.intro)
          refine ⟨?rel, rfl⟩
          case rel => exact ⟨k + 1, by omega, hid (by rw [HPS2.out, HTS.out]; exact (HI6.out.past xq).set b y)⟩
          case measure => simp [lenV]; omega
    · obtain rfl : k = N := by omega
      have hcs : m = 0 ∨ (0 < m ∧ ¬ k < cn) := by omega
      have HI' := HI
      clear hN hlt
      rcases hcs with rfl | ⟨h1, h2⟩
      · by_cases hz : k < cn
        · go_wp2_with fail
          go_ret
          exact ⟨_, _, rfl, HI.out.lw.below, own_base HI.out.out (by have := HI.out.lw.lt; have := HI.out.gl; omega)⟩
        · go_wp2_with fail
          go_ret
          exact ⟨_, _, rfl, HI.out.lw.below, own_base HI.out.out (by have := HI.out.lw.lt; have := HI.out.gl; omega)⟩
      · go_wp2_with fail
        go_ret
        exact ⟨_, _, rfl, HI.out.lw.below, own_base HI.out.out (by have := HI.out.lw.lt; have := HI.out.gl; omega)⟩
end Go.Proofs.Ytjhjkchcjpijaaa
