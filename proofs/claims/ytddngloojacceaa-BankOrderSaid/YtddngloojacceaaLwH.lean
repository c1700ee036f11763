/-
  Layer 44's statements: all there is. No condition but that the bank may be.
-/
import Derived.Test.YtddngloojacceaaLwC
import Derived.Test.YtddngloojacceaaPlC
namespace Go.Proofs.Ytddngloojacceaa
open Go Go.RowKit
theorem iota_succ (q : Nat) : iota (q + 1) = iota q ++ [(q : Int)] := by simp [iota, List.range_succ]
theorem freeA_ok {x : Bk} {k nh : Nat} (ok : x.Ok k nh) : ∀ q, q ≤ nh → FreeOk (freeA x x.F.2.2 (iota q)) k (1 + q)
  | 0, _ => ⟨ok.ef, fun j hj => by have := ok.fv j hj; simp [iota, freeA]; omega⟩
  | q + 1, h => by
    rw [iota_succ, freeA_snoc, Int.toNat_natCast]
    have := (freeA_ok ok q (by omega)).plus (ok.hl q (by omega)) (ok.hv q (by omega))
    rw [Nat.add_assoc] at this
    exact this
set_option maxRecDepth 100000 in
set_option maxHeartbeats 4000000 in
theorem total_any (x : Bk) (k nh : Nat) (ok : x.Ok k nh) (w : World) (hx : x.In w) :
    Calls Try.prog 20 #[.agg x.cs] w (GivesOwn 3 1 k (i64s (totalF x)) w) := by
  obtain ⟨i0, hi, hz0, hz1, hz2⟩ := info_parts info_i64
  obtain ⟨w1, ew1⟩ : ∃ w1, w1 = w.alloc (.cells x.cs 25) := ⟨_, rfl⟩
  have hb1 : Below w.heap.size w w1 := by rw [ew1]; exact (Below.refl _ w).alloc (Nat.le_refl _) _
  have hrec : Rec w1 w.heap.size 25 x.cs := by rw [ew1]; exact Rec.new w _ _
  have hlw : w.heap.size < w1.heap.size := Rec.lt hrec
  have r0 := Rec.cell hrec 0
  have r1 := Rec.cell hrec 1
  have hk1 := ok.k1
  have hk4 := ok.k4
  have h8 := ok.h8
  have hcs : x.cs = #[.slice x.F.1 k x.F.2.1, .slice x.AH nh x.cH, .slice x.AM nh x.cM] := by unfold Bk.cs; rw [ok.ef, ok.eh, ok.em]
  have hX := hx.below hb1
  obtain ⟨bF, oF, eF, -⟩ := i64_at hX.f (k := 0) (by rw [ok.ef]; omega)
  have hXF := hX.f
  rw [eF] at hXF hcs
  obtain ⟨AH, eAH⟩ : ∃ z, x.AH = z := ⟨_, rfl⟩
  rw [eAH] at hcs
  rw [hcs] at r0 r1
  simp at r0 r1
  have HN := hid (news_of hXF 3)
  have HIL := hid (show (i64s x.F.2.2).length = k by rw [i64s_length, ok.ef])
  have EAH := hid eAH
  have EW1 := hid ew1
  have HREC := hid hrec
  have HB1 := hid hb1
  have HX := hid hX
  have OK := hid ok
  have HCS := hid hcs
  rw [hcs] at EW1 ⊢
  clear ew1 hb1 hrec hx ok hcs eAH hXF hX eF
  go_enter Try.func20, Try.ntmps20
  go_upto_region 1 with (fail)
  rw [← EW1.out]
  go_upto_region 2 with (at_builtin; refine wpList_append_own_at _ rfl (.tmp 7) (.tmp 9) 22 rfl w1.heap.size 3 i0 (.int .i64 0) 1 8 Try.underlying22 hi hz0 hz1 hz2 rfl (by decide) _ 0 [] rfl (World.ownsRow_lit (base := w1.heap.size) (size := 1) w1 #[] 0 (Nat.le_refl _) (by unfold maxLen; omega) rfl) ⟨bF, oF, none⟩ k x.F.2.1 (i64s x.F.2.2) (by rfl) (by rw [HIL.out]; simp) HN.out (i64s_one x.F.2.2) (by unfold maxLen; omega) (by omega) (by simp) ?_; intro v' w2 hown' hgrow hq7 hq8; clear hq7 hq8)
  simp only [Nat.zero_add, List.nil_append] at hown'
  obtain ⟨g, c, rfl, -⟩ := own_succ hown' (by omega)
  have hb2 := ((Below.refl w1.heap.size w1).alloc (Nat.le_refl _) (.cells #[] 3)).grown hgrow (by simp) (fun q hq => by have e : some w1.heap.size = some q := hq; injection e with e; omega)
  have r1' : w2.cell? ⟨w.heap.size, 1, none⟩ = some (.slice AH nh x.cH) := (hb2.cell (lt_of_cell r1)).trans r1
  have HR0 : Hid (RowW w1 w2 g k c (freeA x x.F.2.2 (iota 0))) := hid ⟨hb2, hown'⟩
  clear hown' hgrow hb2 r0 r1 hlw HN HIL EW1
  go_wp2_with fail
  clear r1'
  go_loopw [14] (fun i wr => ∃ q : Nat, i = .int .i64 q ∧ q ≤ nh ∧ Hid (RowW w1 wr g k c (freeA x x.F.2.2 (iota q)))) (fun i _ => nh - (intOf i).toNat)
  case atStart => exact ⟨0, rfl, by omega, HR0⟩
  case round =>
    clear HR0
    obtain ⟨q, rfl, hq, HR⟩ := hrel
    obtain ⟨wo, rfl⟩ : ∃ wo : World, wo = wr := ⟨_, rfl⟩
    by_cases hlt : q < nh
    · have hin := HX.out.below HR.out.below
      obtain ⟨bh, oh, Rh, ch, eh, q0, k0⟩ := HX.out.h.at (i := q) (by rw [OK.out.eh]; exact hlt)
      have q1 := (HR.out.below.cell (lt_of_cell q0)).trans q0
      have K0 := hid k0
      rw [EAH.out] at eh
      subst eh
      rw [show (rAt x.H q).2.2.length = k from OK.out.hl q hlt] at q1
      have HFO := hid (freeA_ok OK.out q (by omega))
      have HSU : Hid (freeA x x.F.2.2 (iota (q + 1)) = plusF (freeA x x.F.2.2 (iota q)) (hasR x q) 1) := hid (by rw [iota_succ, freeA_snoc, Int.toNat_natCast])
      obtain ⟨fr, efr⟩ : ∃ l, freeA x x.F.2.2 (iota q) = l := ⟨_, rfl⟩
      rw [efr] at HR HFO HSU
      have HR1 : Hid (RowW w1 wo g k c (plusK fr (hasR x q) 1 0)) := hid (by rw [plusK_zero]; exact HR.out)
      clear hin k0 q0 efr HR
      go_wp2_with fail
      clear q1
      go_loopw [20] (fun p wr => ∃ t : Nat, p = .int .i64 t ∧ t ≤ k ∧ Hid (RowW w1 wr g k c (plusK fr (hasR x q) 1 t))) (fun p _ => k - (intOf p).toNat)
      case atStart => exact ⟨0, rfl, by omega, HR1⟩
      case round =>
        clear HR1
        obtain ⟨t, rfl, ht, HR⟩ := hrel
        by_cases hlk : t < k
        · have hin := HX.out.below HR.out.below
          obtain ⟨b1, o1, rfl, hc0⟩ := i64_at K0.out (k := t) (by rw [show (rAt x.H q).2.2.length = k from OK.out.hl q hlt]; exact hlk)
          have hc1 : wr.cell? ⟨b1, o1 + t, none⟩ = some (.int .i64 (atL (hasR x q) t)) := (HR.out.below.cell (lt_of_cell hc0)).trans hc0
          have cc := HR.out.cell (k := t) hlk
          have fc := HR.out.frozen t
          have lc := HR.out.lt.2
          rw [plusK_at (by rw [HFO.out.1]; exact hlk), if_neg (Nat.lt_irrefl _)] at cc
          have hst := plusK_set (a := fr) (b := hasR x q) (s := 1) (k := t) (by rw [HFO.out.1]; exact hlk)
          rw [Int.one_mul] at hst
          have a1 := HFO.out.2 t hlk
          have a2 := OK.out.hv q hlt t hlk
          obtain ⟨u, eu⟩ : ∃ u, atL fr t = u := ⟨_, rfl⟩
          obtain ⟨v, ev⟩ : ∃ v, atL (hasR x q) t = v := ⟨_, rfl⟩
          rw [eu] at cc a1 hst
          rw [ev] at hc1 a2 hst
          have hwr : IntKind.i64.wrap (u + v) = u + v := by rw [IntKind.wrap_i64]; omega
          have HN := hid (HR.out.drew.set t (u + v))
          rw [hst] at HN
          clear eu ev hst hin hc0
          go_wp2_with fail
          go_region
          all_goals
            go_wp2_with fail
            go_roundw
            case rel => exact ⟨t + 1, by go_num, by omega, HN⟩
            case measure => simp [intOf]; omega
        · obtain rfl : k = t := by omega
          have HE : Hid (RowW w1 wr g k c (freeA x x.F.2.2 (iota (q + 1)))) := hid (by rw [HSU.out, ← plusK_all, HFO.out.1]; exact HR.out)
          go_wp2_with fail
          go_roundw
          case rel => exact ⟨q + 1, by go_num, by omega, HE⟩
          case measure => simp [intOf]; omega
    · obtain rfl : nh = q := by omega
      have HT : Hid (freeA x x.F.2.2 (iota nh) = totalF x) := hid (by unfold totalF; rw [OK.out.eh])
      have HR2 := HR.out
      rw [HT.out] at HR2
      have HRR := hid HR2
      clear HR2 HR
      go_wp2_with fail
      go_ret
      exact ⟨_, _, rfl, HB1.out.trans (HRR.out.below.mono HB1.out.size), own_base HRR.out.own HB1.out.size⟩
end Go.Proofs.Ytddngloojacceaa
