/-
  Layer 37: what each would have, and how far apart the two are. No condition.
-/
import Derived.Test.YtjhjkchcjpijaaaShares
namespace Go.Proofs.Ytjhjkchcjpijaaa
open Go Go.RowKit HpI
/-- The first k of F; the rest is nought. -/
def fillL (F : List Int) (m k : Nat) : List Int := (List.range m).map fun i => if i < k then atL F i else 0
theorem fill_length (F : List Int) (m k : Nat) : (fillL F m k).length = m := by simp [fillL]
theorem fill_zero (F : List Int) (m : Nat) : fillL F m 0 = List.replicate m 0 := by
  apply List.ext_getElem?
  intro i
  simp only [fillL, List.getElem?_map, List.getElem?_replicate]
  by_cases h : i < m <;> simp [h]
theorem fill_set (F : List Int) {m k : Nat} (h : k < m) : (fillL F m k).set k (atL F k) = fillL F m (k + 1) := by
  apply List.ext_getElem?
  intro i
  rw [List.getElem?_set, fill_length]
  by_cases hi : k = i
  · subst hi
    rw [if_pos rfl, if_pos h]
    simp [fillL, h]
  · rw [if_neg hi]
    by_cases h2 : i < m
    · by_cases h3 : i < k
      · simp [fillL, h2, h3, show i < k + 1 by omega]
      · simp [fillL, h2, h3, show ¬ i < k + 1 by omega]
    · simp [fillL, h2]
theorem fill_all {F : List Int} {m : Nat} (h : F.length = m) : fillL F m m = F := by
  apply List.ext_getElem?
  intro i
  by_cases h2 : i < m
  · simp [fillL, h2, atL, show i < F.length by omega]
  · simp [fillL, h2, List.getElem?_eq_none (show F.length ≤ i by omega)]
def sumT (l : List Int) : Nat → Int
  | 0 => 0
  | k + 1 => sumT l k + atL l k
def idealF (l : List Int) (t : Int) : List Int := (bringW l).map fun x => (clampN t : Int) * x / sumT (bringW l) (bringW l).length
theorem ideal_length (l : List Int) (t : Int) : (idealF l t).length = (bringW l).length := by simp [idealF]
theorem bringW_at {l : List Int} {k : Nat} (h : k < (bringW l).length) : 1 ≤ atL (bringW l) k ∧ atL (bringW l) k ≤ 4096 := by
  have : ∃ x, (bringW l)[k]? = some x ∧ 1 ≤ x ∧ x ≤ 4096 := by
    simp only [bringW, List.getElem?_map]
    rw [bringW_length] at h
    rw [List.getElem?_eq_getElem (by simp; omega)]
    exact ⟨_, rfl, bring_in _ 1 4096 (by omega)⟩
  obtain ⟨x, e, h1⟩ := this
  simp [atL, e, h1]
theorem sumT_in {l : List Int} : ∀ k, k ≤ (bringW l).length → (k : Int) ≤ sumT (bringW l) k ∧ sumT (bringW l) k ≤ k * 4096
  | 0, _ => by simp [sumT]
  | k + 1, h => by
    have h1 := sumT_in (l := l) k (by omega)
    have h2 := bringW_at (l := l) (k := k) (by omega)
    simp only [sumT]
    omega
theorem clampN_case (t : Int) : ∃ cn, clampN t = cn ∧ cn ≤ 4096 ∧ ((t < 0 ∧ (0 : Int) = cn) ∨ (0 ≤ t ∧ 4096 < t ∧ (4096 : Int) = cn) ∨ (0 ≤ t ∧ t ≤ 4096 ∧ t = cn)) := ⟨_, rfl, by unfold clampN; omega, by unfold clampN; omega⟩
theorem mul_le_4096 {a b : Int} (ha : 0 ≤ a ∧ a ≤ 4096) (hb : 0 ≤ b ∧ b ≤ 4096) : 0 ≤ a * b ∧ a * b ≤ 16777216 := by
  refine ⟨Int.mul_nonneg ha.1 hb.1, ?_⟩
  have := Int.mul_le_mul ha.2 hb.2 hb.1 (by omega)
  omega
set_option maxRecDepth 100000 in
set_option maxHeartbeats 4000000 in
theorem Ideal_any (A : Option Addr) (n ca : Nat) (l : List Int) (en : l.length = n) (hca : n ≤ ca) (hmx : n ≤ maxLen) (w : World) (hc : Cells w A (i64s l)) (t : Int) :
    Calls Try.prog 31 #[.slice A n ca, .int .i64 t] w (GivesOwn 3 1 (idealF l t).length (i64s (idealF l t)) w) := by
  obtain ⟨i0, hi, hz0, hz1, hz2⟩ := info_parts info_i64
  have hBR := sbring_any A n ca l en hca w hc hmx
  obtain ⟨cn, ecn, hcn, hcase⟩ := clampN_case t
  obtain ⟨m, em⟩ : ∃ m, (bringW l).length = m := ⟨_, rfl⟩
  have hm16 : m ≤ 16 := by rw [← em]; exact bringW_le l
  have HIN := hid (fun k (h : k < m) => bringW_at (l := l) (k := k) (by omega))
  have HSM := hid (fun k (h : k ≤ m) => sumT_in (l := l) k (by omega))
  have hFL := ideal_length l t
  rw [em] at hFL hBR
  have HAT := hid (show ∀ k, k < m → atL (idealF l t) k = (cn : Int) * atL (bringW l) k / sumT (bringW l) m from fun k hk => by
    have : k < (bringW l).length := by omega
    simp [idealF, atL, ecn, em, List.getElem?_eq_getElem this])
  rw [hFL]
  obtain ⟨F, eF⟩ : ∃ F, idealF l t = F := ⟨_, rfl⟩
  rw [eF] at hFL HAT ⊢
  obtain ⟨W, eW⟩ : ∃ W, bringW l = W := ⟨_, rfl⟩
  rw [eW] at em hBR HIN HSM HAT
  have HBR := hid hBR
  have EM := hid em
  have HFL := hid hFL
  clear hBR hc en hmx em eF eW hFL ecn hca
  obtain ⟨S, eS⟩ : ∃ S, sumT W m = S := ⟨_, rfl⟩
  rw [eS] at HAT
  have HS := hid eS
  clear eS
  rcases hcase with ⟨d1, hz⟩ | ⟨d1, d2, hz⟩ | ⟨d1, d2, hz⟩
  all_goals (
    go_enter Try.func31, Try.ntmps31
    go_upto_region 5 with (go_at_call 19; refine HBR.out.mono ?_; rintro _ w1 ⟨A0, c0, rfl, hb1, ho1⟩; obtain ⟨x0, rfl⟩ := past_of hb1; have HO1 := hid ho1; clear hb1 ho1)
    go_loopw [6, 8, 19] (fun s _ i wr => ∃ (k : Nat), i = .int .i64 k ∧ k ≤ m ∧ s = .int .i64 (sumT W k) ∧ wr = w.past x0) (fun _ _ i _ => m - natC i)
    case atStart => exact ⟨0, rfl, by omega, rfl, rfl⟩
    case round =>
      obtain ⟨k, rfl, hk, rfl, rfl⟩ := hrel
      by_cases hlt : k < m
      · obtain ⟨gw, cw, ewv, -⟩ := own_succ HO1.out (by omega)
        injection ewv with eA e1 ec
        clear e1
        subst eA; subst ec
        have c2 : (w.past x0).cell? ⟨gw, k, none⟩ = some (.int .i64 (atL W k)) := by
          rw [HO1.out.cellAt k (by omega)]
          simp [i64s, atL, show k < W.length by rw [EM.out]; omega]
        have hx := HIN.out k hlt
        have hs1 := HSM.out k hk
        have hs2 := HSM.out (k + 1) (by omega)
        have hst : sumT W (k + 1) = sumT W k + atL W k := rfl
        have HST := hid hst
        rw [hst] at hs2
        obtain ⟨x, ex⟩ : ∃ x, atL W k = x := ⟨_, rfl⟩
        obtain ⟨s, es⟩ : ∃ s, sumT W k = s := ⟨_, rfl⟩
        rw [ex] at c2 hx HST hs2
        rw [es] at hs1 hs2 HST ⊢
        clear ex hst es
        go_wp2_with fail
        go_roundw
        case rel => exact ⟨k + 1, by go_num, by omega, by rw [HST.out], by first | rfl | trivial⟩
        case measure => simp [natC]; omega
      · obtain rfl : k = m := by omega
        have hs1 := HSM.out k hk
        rw [HS.out] at hs1 ⊢
        clear HSM HS
        go_upto_region 11 with (at_make; refine wpList_make_full _ rfl (.tmp 28) (.tmp 28) 22 rfl w.heap.size 3 i0 (.int .i64 0) 1 Try.underlying22 hi hz0 hz1 .i64 .i64 _ _ k rfl rfl rfl rfl ?_ ?_ ?_ ?_; (· rw [hz2]; omega); (· unfold maxLen; omega); (· simp [go_sem]); intro w2 hrow hg2)
        obtain ⟨g, hg⟩ : ∃ g, g = (w.past x0).heap.size := ⟨_, rfl⟩
        have hg' : w.heap.size + x0.more = g := by rw [hg]; simp [go_sem]
        rw [hg']
        rw [← hg] at hrow
        have HW0 : Hid (LeftW 3 .i64 w w2 g k (fillL F k 0) ∧ w2.ownsRow w.heap.size 3 1 (.slice A0 k c0) k (i64s W) ∧ ∀ q, (Value.slice A0 k c0).ownBlock = some q → q < g) := hid (by
          refine ⟨⟨(RowKit.Below.past (Below.refl _ w) x0).grown hg2 (by simp [go_sem]) (fun _ h => by cases h), ?_⟩, HO1.out.kept hg2 (by
            cases e : (Value.slice A0 k c0).ownBlock with
            | none => exact .inl rfl
            | some q => exact .inr (by simp)), fun q hq => by have := (HO1.out.lt q hq).2; omega⟩
          rw [fill_zero]
          simpa [toList_madeCells_one, Value.cells] using hrow)
        clear hrow hg2 hg hg' HO1
        go_loopw [10, 11, 32] (fun _ _ i wr => ∃ j : Nat, i = .int .i64 j ∧ j ≤ k ∧ Hid (LeftW 3 .i64 w wr g k (fillL F k j) ∧ wr.ownsRow w.heap.size 3 1 (.slice A0 k c0) k (i64s W) ∧ ∀ q, (Value.slice A0 k c0).ownBlock = some q → q < g)) (fun _ _ i _ => k - natC i)
        case atStart => exact ⟨0, rfl, by omega, HW0⟩
        case round =>
          clear HW0
          obtain ⟨j, rfl, hj, HW⟩ := hrel
          by_cases hlt2 : j < k
          · obtain ⟨gw, cw, ewv, -⟩ := own_succ HW.out.2.1 (by omega)
            injection ewv with eA e1 ec
            clear e1
            subst eA; subst ec
            have c2 : wr.cell? ⟨gw, j, none⟩ = some (.int .i64 (atL W j)) := by
              rw [HW.out.2.1.cellAt j (by omega)]
              simp [i64s, atL, show j < W.length by rw [EM.out]; omega]
            have c3 := HW.out.1.cell (k := j) hlt2
            have f3 := HW.out.1.frozen j
            have hx := HIN.out j hlt2
            have hst := HAT.out j hlt2
            have hfs := fill_set F hlt2
            obtain ⟨x, ex⟩ : ∃ x, atL W j = x := ⟨_, rfl⟩
            rw [ex] at c2 hx hst
            have hmul := mul_le_4096 (a := (cn : Int)) (b := x) (by omega) (by omega)
            have hS0 : ¬ S = 0 := by omega
            have hw1 : IntKind.i64.wrap ((cn : Int) * x) = (cn : Int) * x := by rw [IntKind.wrap_i64]; omega
            have hq1 : Int.tdiv ((cn : Int) * x) S = (cn : Int) * x / S := Int.tdiv_eq_ediv_of_nonneg hmul.1
            have hq2 : 0 ≤ (cn : Int) * x / S ∧ (cn : Int) * x / S ≤ 16777216 := ⟨Int.ediv_nonneg hmul.1 (by omega), Int.le_trans (Int.ediv_le_self _ hmul.1) hmul.2⟩
            have hw2 : IntKind.i64.wrap ((cn : Int) * x / S) = (cn : Int) * x / S := by rw [IntKind.wrap_i64]; omega
            obtain ⟨q, eq⟩ : ∃ q, (cn : Int) * x / S = q := ⟨_, rfl⟩
            rw [eq] at hst hq1 hw2
            rw [hst] at hfs
            have HN : Hid (LeftW 3 .i64 w (wr.setCell ⟨g, j, none⟩ (.int .i64 q)) g k (fillL F k (j + 1)) ∧ (wr.setCell ⟨g, j, none⟩ (.int .i64 q)).ownsRow w.heap.size 3 1 (.slice (some ⟨gw, 0, none⟩) k c0) k (i64s W) ∧ ∀ q, (Value.slice (some ⟨gw, 0, none⟩) k c0).ownBlock = some q → q < g) := hid
              ⟨hfs ▸ HW.out.1.set j q, own_kept (X := fun q => q = g) HW.out.2.1 ((KS.refl (fun q => q = g) wr).setCell (b := g) rfl j _).block (fun q hq e => by have := HW.out.2.2 q hq; omega), HW.out.2.2⟩
            clear ex eq hfs hst hmul hq2
            go_wp2_with fail
            go_roundw
            case rel => exact ⟨j + 1, by go_num, by omega, HN⟩
            case measure => simp [natC]; omega
          · obtain rfl : j = k := by omega
            have HW1 := hid (fill_all HFL.out ▸ HW.out.1)
            go_wp2_with fail
            go_ret
            exact ⟨_, _, rfl, HW1.out.below, HW1.out.own⟩)
end Go.Proofs.Ytjhjkchcjpijaaa
