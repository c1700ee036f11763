/-
  Layer 37: how often each has its turn. No condition.
-/
import Derived.Test.YtjhjkchcjpijaaaFirst
namespace Go.Proofs.Ytjhjkchcjpijaaa
open Go Go.RowKit HpI
/-- A row of ints of the call's own. -/
structure LeftW (e : TypeId) (K : IntKind) (w wr : World) (g m : Nat) (L : List Int) : Prop where
  below : Below w.heap.size w wr
  own : wr.ownsRow w.heap.size e 1 (.slice (some ⟨g, 0, none⟩) m m) m (L.map (Value.int K))
section
variable {e : TypeId} {K : IntKind} {w wr : World} {g m : Nat} {L : List Int}
theorem LeftW.past (h : LeftW e K w wr g m L) (x : Past) : LeftW e K w (wr.past x) g m L := ⟨RowKit.Below.past h.below x, own_past h.own x⟩
theorem LeftW.alloc (h : LeftW e K w wr g m L) (o : Obj) : LeftW e K w (wr.alloc o) g m L := ⟨RowKit.Below.alloc' h.below o, h.own.alloc o⟩
theorem LeftW.drew (h : LeftW e K w wr g m L) : LeftW e K w wr.drew g m L := ⟨h.below.drew, h.own.drew⟩
theorem LeftW.len (h : LeftW e K w wr g m L) : L.length = m := by have := h.own.1; simpa using this
theorem LeftW.lt (h : LeftW e K w wr g m L) : w.heap.size ≤ g ∧ g < wr.heap.size := h.own.lt g rfl
theorem LeftW.cell (h : LeftW e K w wr g m L) {k : Nat} (hk : k < m) : wr.cell? ⟨g, k, none⟩ = some (.int K (atL L k)) := by
  rw [h.own.cellAt k (by omega)]
  have := h.len
  simp [atL, show k < L.length by omega]
theorem LeftW.frozen (h : LeftW e K w wr g m L) (k : Nat) : wr.frozen? ⟨g, k, none⟩ = false := h.own.frozenAt k
theorem LeftW.set (h : LeftW e K w wr g m L) (k : Nat) (x : Int) : LeftW e K w (wr.setCell ⟨g, k, none⟩ (.int K x)) g m (L.set k x) := by
  refine ⟨h.below.setCell (p := ⟨g, k, none⟩) h.lt.1 _, ?_⟩
  have := (h.own.stored k (.int K x)).1
  have e : (L.set k x).map (Value.int K) = (L.map (Value.int K)).set k (.int K x) := by simp [List.map_set]
  rw [e]
  exact this
end
/-- How often each of m has its turn. -/
def cntL (m : Nat) (ts : List Int) : List Int := (List.range m).map fun (j : Nat) => ((ts.count (j : Int) : Nat) : Int)
theorem cntL_length (m : Nat) (ts : List Int) : (cntL m ts).length = m := by simp [cntL]
theorem cntL_nil (m : Nat) : cntL m [] = List.replicate m 0 := by
  apply List.ext_getElem?
  intro i
  simp only [cntL, List.getElem?_map, List.getElem?_replicate]
  by_cases h : i < m
  · simp [h]
  · simp [h]
theorem cntL_at {m : Nat} (ts : List Int) {j : Nat} (h : j < m) : atL (cntL m ts) j = ((ts.count (j : Int) : Nat) : Int) := by simp [atL, cntL, h]
theorem cntL_snoc {m : Nat} (ts : List Int) {j : Nat} (h : j < m) : (cntL m ts).set j (atL (cntL m ts) j + 1) = cntL m (ts ++ [(j : Int)]) := by
  apply List.ext_getElem?
  intro i
  rw [List.getElem?_set, cntL_length, cntL_at ts h]
  by_cases hi : j = i
  · subst hi
    rw [if_pos rfl, if_pos h]
    simp [cntL, h, List.count_append]
  · rw [if_neg hi]
    by_cases h2 : i < m
    · have hne : ¬ ((j : Int) = (i : Int)) := by omega
      simp [cntL, List.count_append, h2, hne]
    · simp [cntL, h2]
theorem cntL_le (m : Nat) (ts : List Int) (j : Nat) : 0 ≤ atL (cntL m ts) j ∧ atL (cntL m ts) j ≤ ts.length := by
  by_cases h : j < m
  · rw [cntL_at ts h]
    have := List.count_le_length (a := (j : Int)) (l := ts)
    omega
  · simp only [atL, cntL, List.getElem?_map]
    rw [List.getElem?_eq_none (by simp; omega)]
    simp
theorem firstF_length (l : List Int) (t : Int) : (firstF l t).length ≤ 4096 := by
  unfold firstF
  split
  · simp
  · rw [turns_length]; unfold clampN; omega
theorem firstF_at {l : List Int} {t : Int} {k : Nat} (h : k < (firstF l t).length) : ∃ j : Nat, j < (bringW l).length ∧ (firstF l t)[k]? = some (j : Int) := by
  unfold firstF at h ⊢
  split at h
  · simp at h
  · rename_i hl
    rw [if_neg hl]
    rw [turns_length] at h
    refine ⟨turnF (bringW l) k, turn_lt ?_ k, by simp [turnsF, h]⟩
    rw [bringW_length]
    have : l.length ≠ 0 := fun e => hl (List.length_eq_zero_iff.1 e)
    omega
def sharesF (l : List Int) (t : Int) : List Int := cntL (bringW l).length (firstF l t)
theorem take_snoc' {l : List Int} {k : Nat} {x : Int} (h : l[k]? = some x) : l.take (k + 1) = l.take k ++ [x] := by
  rw [List.take_add_one, h]; rfl
set_option maxRecDepth 100000 in
set_option maxHeartbeats 4000000 in
theorem Shares_any (A : Option Addr) (n ca : Nat) (l : List Int) (en : l.length = n) (hca : n ≤ ca) (hmx : n ≤ maxLen) (w : World) (hc : Cells w A (i64s l)) (t : Int) :
    Calls Try.prog 10 #[.slice A n ca, .int .i64 t] w (GivesOwn 3 1 (sharesF l t).length (i64s (sharesF l t)) w) := by
  obtain ⟨i0, hi, hz0, hz1, hz2⟩ := info_parts info_i64
  have hBR := sbring_any A n ca l en hca w hc hmx
  obtain ⟨m, em⟩ : ∃ m, (bringW l).length = m := ⟨_, rfl⟩
  have hm16 : m ≤ 16 := by rw [← em]; exact bringW_le l
  rw [em] at hBR
  have hFL := firstF_length l t
  have HFA := hid (fun k (h : k < (firstF l t).length) => em ▸ firstF_at h)
  obtain ⟨ts, ets⟩ : ∃ ts, firstF l t = ts := ⟨_, rfl⟩
  have hRES : sharesF l t = cntL m ts := by unfold sharesF; rw [em, ets]
  rw [hRES, cntL_length]
  have hF0 : ∀ w', Cells w' A (i64s l) → Calls Try.prog 9 #[.slice A n ca, .int .i64 t] w' (GivesOwn 3 1 ts.length (i64s ts) w') := fun w' h => by
    have := First_any A n ca l en hca hmx w' h t
    rwa [ets] at this
  obtain ⟨nt, ent⟩ : ∃ nt, ts.length = nt := ⟨_, rfl⟩
  rw [ets, ent] at hFL
  rw [ets, ent] at HFA
  rw [ent] at hF0
  have HBR := hid hBR
  have HF := hid hF0
  have HC := hid hc
  have ENT := hid ent
  clear hBR hF0 hc en hca hmx em ets hRES ent
  go_enter Try.func10, Try.ntmps10
  go_upto_region 2 with (first | (go_at_call 19; refine HBR.out.mono ?_; rintro _ w1 ⟨A0, c0, rfl, hb1, ho1⟩; obtain ⟨x0, rfl⟩ := past_of hb1; have HO1 := hid ho1; clear hb1 ho1) | (at_make; refine wpList_make_full _ rfl (.tmp 10) (.tmp 10) 22 rfl w.heap.size 3 i0 (.int .i64 0) 1 Try.underlying22 hi hz0 hz1 .i64 .i64 _ _ m rfl rfl rfl rfl ?_ ?_ ?_ ?_; (· rw [hz2]; omega); (· unfold maxLen; omega); (· simp [go_sem]); intro w2 hrow hg2))
  obtain ⟨g, hg⟩ : ∃ g, g = (w.past x0).heap.size := ⟨_, rfl⟩
  have hg' : w.heap.size + x0.more = g := by rw [hg]; simp [go_sem]
  rw [hg']
  rw [← hg] at hrow
  have HW0 : Hid (LeftW 3 .i64 w w2 g m (List.replicate m 0)) := hid (by
    refine ⟨(RowKit.Below.past (Below.refl _ w) x0).grown hg2 (by simp [go_sem]) (fun _ h => by cases h), ?_⟩
    simpa [toList_madeCells_one, Value.cells] using hrow)
  clear hrow hg2 hg hg' HBR HO1
  have HF2 := hid (HF.out w2 (HC.out.below HW0.out.below))
  clear HF HC
  go_upto_region 3 with (go_at_call 9; refine HF2.out.mono ?_; rintro _ w3 ⟨A1, c1, rfl, hb1, ho1⟩; obtain ⟨x1, rfl⟩ := past_of hb1; have HO1 := hid ho1; clear hb1 ho1)
  obtain ⟨w3, ew3⟩ : ∃ w3, w3 = w2.past x1 := ⟨_, rfl⟩
  have HW1 : Hid (LeftW 3 .i64 w w3 g m (cntL m (ts.take 0))) := hid (by rw [ew3, List.take_zero, cntL_nil]; exact HW0.out.past x1)
  have hgl : g < w2.heap.size := HW0.out.lt.2
  rw [← ew3] at HO1 ⊢
  clear ew3
  go_loopw [7, 16] (fun _ i wr => ∃ k : Nat, i = .int .i64 k ∧ k ≤ nt ∧ Hid (LeftW 3 .i64 w wr g m (cntL m (ts.take k))) ∧ Hid (wr.ownsRow w2.heap.size 3 1 (.slice A1 nt c1) nt (i64s ts))) (fun _ i _ => nt - natC i)
  case atStart => exact ⟨0, rfl, by omega, HW1, HO1⟩
  case round =>
    clear HW1 HO1
    obtain ⟨k, rfl, hk, HW, HO⟩ := hrel
    by_cases hlt : k < nt
    · obtain ⟨j, hj, ej⟩ := HFA.out k hlt
      obtain ⟨b2, cp, e2, hb2⟩ := own_succ HO.out (by omega)
      injection e2 with eA en ec
      subst eA; subst ec
      have hcx : wr.cell? ⟨b2, k, none⟩ = some (.int .i64 j) := by
        rw [HO.out.cellAt k (by have := ENT.out; omega)]
        simp [i64s, ej]
      have hcj := HW.out.cell (k := j) hj
      have hfj := HW.out.frozen j
      have hlg := HW.out.lt.2
      have hcn := cntL_le m (ts.take k) j
      have htk : (ts.take k).length ≤ 4096 := by rw [List.length_take]; omega
      obtain ⟨y, ey⟩ : ∃ y, atL (cntL m (ts.take k)) j = y := ⟨_, rfl⟩
      rw [ey] at hcj hcn
      have HN : Hid (LeftW 3 .i64 w (wr.setCell ⟨g, j, none⟩ (.int .i64 (y + 1))) g m (cntL m (ts.take (k + 1)))) := hid (by
        rw [take_snoc' ej, ← cntL_snoc _ hj, ey]; exact HW.out.set j _)
      have HO' : Hid ((wr.setCell ⟨g, j, none⟩ (.int .i64 (y + 1))).ownsRow w2.heap.size 3 1 (.slice (some ⟨b2, 0, none⟩) nt c1) nt (i64s ts)) := hid (own_kept (X := fun q => q = g) HO.out ((KS.refl (fun q => q = g) wr).setCell (b := g) rfl j _).block (fun q hq => by have := (HO.out.lt q hq).1; omega))
      clear ey ej en
      go_wp2_with fail
      go_roundw
      case rel => exact ⟨k + 1, by go_num, by omega, HN, HO'⟩
      case measure => simp [natC]; omega
    · obtain rfl : k = nt := by omega
      have hW := HW.out
      rw [List.take_of_length_le (by rw [ENT.out]; exact Nat.le_refl _)] at hW
      have HW' := hid hW
      clear hW
      go_wp2_with fail
      go_ret
      exact ⟨_, _, rfl, HW'.out.below, HW'.out.own⟩
end Go.Proofs.Ytjhjkchcjpijaaa
