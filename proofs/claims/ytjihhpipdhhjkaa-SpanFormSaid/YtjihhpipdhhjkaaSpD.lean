/-
  Layer 33: rows of pieces, one behind the other. No condition.
-/
import Derived.Test.YtjihhpipdhhjkaaSpC
import Derived.Test.YtjihhpipdhhjkaaZerosN
import Derived.Test.YtjihhpipdhhjkaaAppB
namespace Go.Proofs.Ytjihhpipdhhjkaa
open Go.RowKit
/-! Rows of pieces, one behind the other. -/
theorem info_pc : (Try.prog.info? 64).map (fun i => (i.zero, i.size, i.bytes)) = some (some (.agg #[.int .i64 0, .int .i64 0]), 2, 16) := by kernel_rfl
def GrowP (w : World) (e : Ending) (w' : World) : Prop := ∃ A c, e = .returned (.slice A 0 c) ∧ Below w.heap.size w w' ∧ w'.ownsRow w.heap.size 64 2 (.slice A 0 c) 0 []
set_option maxHeartbeats 1000000 in
theorem grow_any (m : Nat) (hm : m ≤ 10000000) (w : World) :
    Calls Try.prog 38 #[.slice none 0 0, .int .i64 (m : Int)] w (GrowP w) := by
  obtain ⟨i0, hi, hz0, hz1, hz2⟩ := info_parts info_pc
  rcases Nat.eq_zero_or_pos m with h0 | h0
  · subst h0
    go_enter Try.func38, Try.ntmps38
    go_wp2
    go_ret
    exact ⟨none, 0, rfl, Below.refl _ w, World.ownsRow_nil _ _ _ _⟩
  · have hmne : m ≠ 0 := by omega
    go_enter Try.func38, Try.ntmps38
    go_wp2_with (refine wpList_nil_zeros rfl (.tmp 20) (.tmp 21) 59 3 rfl w.heap.size 64 i0 (.agg #[.int .i64 0, .int .i64 0]) .i64 2 16 Try.underlying59 Try.underlying3 hi hz0 hz1 hz2 rfl (by decide) m hmne ?_ ?_ ?_ ?_ ?_ ?_; (· rfl); (· rfl); (· unfold maxLen; omega); (· omega); (· exact Nat.le_refl _); intro w1 g cap hown hgrow; have HO := hid hown; have HG := hid hgrow; clear hown hgrow)
    go_ret
    refine ⟨some ⟨g, 0, none⟩, cap, rfl, (Below.refl _ w).grown HG.out (Nat.le_refl _) (fun _ h => by cases h), ?_⟩
    have := own_cut HO.out (m := 0) (by omega)
    simpa using this
structure Rw where
  A : Option Addr
  c : Nat
  l : List (Int × Int)
def rwV (r : Rw) : Value := .slice r.A r.l.length r.c
def rw_ (rs : List Rw) (k : Nat) : Rw := rs[k]?.getD ⟨none, 0, []⟩
def catR (rs : List Rw) (k : Nat) : List (Int × Int) := (rs.take k).flatMap (·.l)
theorem catR_succ {rs : List Rw} {k : Nat} (hk : k < rs.length) : catR rs (k + 1) = catR rs k ++ (rw_ rs k).l := by
  unfold catR rw_
  rw [List.take_succ_eq_append_getElem hk, List.flatMap_append]
  congr 1
  simp [hk]
theorem catR_len {rs : List Rw} (h : ∀ r ∈ rs, r.l.length ≤ 1000000) : ∀ k, (catR rs k).length ≤ k * 1000000
  | 0 => by simp [catR]
  | k + 1 => by
    have ih := catR_len h k
    by_cases hk : k < rs.length
    · rw [catR_succ hk, List.length_append]
      have := h (rw_ rs k) (by unfold rw_; rw [List.getElem?_eq_getElem hk]; exact List.getElem_mem _)
      omega
    · have e : catR rs (k + 1) = catR rs k := by
        unfold catR
        rw [List.take_of_length_le (show rs.length ≤ k + 1 by omega), List.take_of_length_le (show rs.length ≤ k by omega)]
      rw [e]; exact Nat.le_trans ih (Nat.mul_le_mul_right _ (Nat.le_succ k))
theorem pcs_one (l : List (Int × Int)) : ∀ u ∈ tab pcV l, u.oneCell' = true := by
  intro u hu
  simp only [tab, List.mem_flatMap] at hu
  obtain ⟨x, _, hx⟩ := hu
  simp only [pcV, List.mem_cons, List.not_mem_nil, or_false] at hx
  rcases hx with rfl | rfl <;> simp [Value.oneCell']
theorem tab_append (l m : List (Int × Int)) : tab pcV l ++ tab pcV m = tab pcV (l ++ m) := by simp [tab]
set_option maxRecDepth 100000 in
set_option maxHeartbeats 8000000 in
/-- Rows, one behind the other. -/
theorem concat_any (R : Option Addr) (cr m : Nat) (rs : List Rw) (em : rs.length = m) (hm : m ≤ 4) (hl : ∀ r ∈ rs, r.l.length ≤ 1000000) (w : World)
    (hR : Cells w R (rs.map rwV)) (hr : ∀ r ∈ rs, Cells w r.A (tab pcV r.l)) :
    Calls Try.prog 28 #[.slice R m cr] w (GivesOwn 64 2 (catR rs m).length (tab pcV (catR rs m)) w) := by
  obtain ⟨i0, hi, hz0, hz1, hz2⟩ := info_parts info_pc
  have HI := hid hi
  have HR := hid hR
  have HRS := hid hr
  have EM := hid em
  have HC := hid (catR_len hl)
  have HLK := hid (fun k (hk : k < m) => hl (rw_ rs k) (by unfold rw_; rw [List.getElem?_eq_getElem (by rw [em]; exact hk)]; exact List.getElem_mem _))
  have HRK := hid (fun k (hk : k < m) => hr (rw_ rs k) (by unfold rw_; rw [List.getElem?_eq_getElem (by rw [em]; exact hk)]; exact List.getElem_mem _))
  have HCK := hid (fun k (hk : k < m) => (show ∃ b o : Nat, R = some ⟨b, o, none⟩ ∧ w.cell? ⟨b, o + k, none⟩ = some (rwV (rw_ rs k)) by
    obtain ⟨b, o, e, h⟩ := hR.at (k := k) (by rw [List.length_map, em]; exact hk)
    refine ⟨b, o, e, ?_⟩
    rw [h]
    simp [rw_, show k < rs.length by rw [em]; exact hk]))
  have HGR := hid (fun W => grow_any (catR rs m).length (by have := catR_len hl m; omega) W)
  clear hi hR hr em hl
  go_enter Try.func28, Try.ntmps28
  go_wp2_with fail
  go_loopw [3, 5, 11] (fun t _ i wr => ∃ k : Nat, i = .int .i64 (k : Int) ∧ t = .int .i64 ((catR rs k).length : Int) ∧ k ≤ m ∧ w = wr) (fun _ _ i _ => m - natI i)
  case atStart => exact ⟨0, rfl, by simp [catR], Nat.zero_le _, rfl⟩
  case round =>
    obtain ⟨k, rfl, rfl, hk, rfl⟩ := hrel
    by_cases hlt : k < m
    · obtain ⟨b, o, rfl, ck⟩ := HCK.out k hlt
      have h1 := HC.out k
      have h2 := HLK.out k hlt
      have HS := hid (show (catR rs (k + 1)).length = (catR rs k).length + (rw_ rs k).l.length by rw [catR_succ (by rw [EM.out]; exact hlt), List.length_append])
      obtain ⟨s, es⟩ : ∃ s, (catR rs k).length = s := ⟨_, rfl⟩
      obtain ⟨A, c, l, er⟩ : ∃ A c l, rw_ rs k = ⟨A, c, l⟩ := ⟨_, _, _, rfl⟩
      rw [es] at h1 HS ⊢
      rw [er] at ck h2 HS
      simp only [rwV] at ck
      simp only at h2 HS
      obtain ⟨n, en⟩ : ∃ n, l.length = n := ⟨_, rfl⟩
      rw [en] at ck h2 HS
      clear es er en
      go_wp2_with fail
      go_roundw
      case rel => exact ⟨k + 1, by go_num, by rw [HS.out]; go_num, by omega, by trivial⟩
      case measure => simp [natI]; omega
    · obtain rfl : k = m := by omega
      obtain ⟨tot, et⟩ : ∃ t, (catR rs k).length = t := ⟨_, rfl⟩
      rw [et] at HGR ⊢
      have ET := hid et
      clear et
      go_upto_region 10 with (go_at_call 38; refine (HGR.out _).mono ?_; rintro _ w2 ⟨A0, c0, rfl, hb2, ho2⟩; have HB2 := hid hb2; have HO2 := hid ho2; clear hb2 ho2)
      go_wp2_with fail
      go_loopw [6, 8, 27] (fun v _ i wr => ∃ (j : Nat) (A : Option Addr) (c : Nat), i = .int .i64 (j : Int) ∧ v = .slice A (catR rs j).length c ∧ j ≤ k ∧ Hid (wr.ownsRow w.heap.size 64 2 (.slice A (catR rs j).length c) (catR rs j).length (tab pcV (catR rs j))) ∧ Hid (Below w.heap.size w wr)) (fun _ _ i _ => k - natI i)
      case atStart => exact ⟨0, A0, c0, rfl, by simp [catR], Nat.zero_le _, hid (by simpa [catR, tab] using HO2.out), HB2⟩
      case round =>
        clear HB2 HO2
        obtain ⟨j, A1, d1, rfl, rfl, hj, HO, HB⟩ := hrel
        by_cases hlt2 : j < k
        · obtain ⟨b, o, rfl, ck0⟩ := HCK.out j hlt2
          have ck := below_cell HB.out (Nat.le_refl _) _ _ ck0
          have h1 := HC.out j
          have h2 := HLK.out j hlt2
          have hcl := (HRK.out j hlt2).below HB.out
          have HS := hid (show catR rs (j + 1) = catR rs j ++ (rw_ rs j).l from catR_succ (by rw [EM.out]; exact hlt2))
          obtain ⟨L, eL⟩ : ∃ L, catR rs j = L := ⟨_, rfl⟩
          obtain ⟨A, c, l, er⟩ : ∃ A c l, rw_ rs j = ⟨A, c, l⟩ := ⟨_, _, _, rfl⟩
          rw [eL] at h1 HS HO ⊢
          rw [er] at ck h2 HS hcl
          simp only [rwV] at ck
          simp only at h2 HS hcl
          have HCL := hid hcl
          obtain ⟨n, en⟩ : ∃ n, l.length = n := ⟨_, rfl⟩
          obtain ⟨s, es⟩ : ∃ s, L.length = s := ⟨_, rfl⟩
          rw [en] at ck h2
          rw [es] at h1 HO ⊢
          have EN := hid en
          have ES := hid es
          have hwr := HB.out.size
          clear eL er en es ck0 hcl
          go_wp2_with (at_builtin; refine wpList_appB rfl (.tmp 31) (.tmp 32) 59 rfl 64 i0 (.agg #[.int .i64 0, .int .i64 0]) 2 16 Try.underlying59 HI.out hz0 hz1 hz2 rfl (by decide) w.heap.size ?_ (.slice A1 s d1) s (tab pcV L) ?_ HO.out A n c (tab pcV l) ?_ ?_ HCL.out (pcs_one l) ?_ ?_ ?_; (· exact hwr); (· rfl); (· rfl); (· rw [tab_length pcV_length, EN.out]); (· unfold maxLen; omega); (· omega); intro w3 A3 c3 ho3 hg3 _; have HO3 := hid ho3; have HB3 := hid (HB.out.grown hg3 hwr (fun k hk => (HO.out.lt k hk).1)); clear ho3 hg3)
          go_roundw
          case rel =>
            have e2 : (catR rs (j + 1)).length = s + n := by rw [HS.out, List.length_append, ES.out, EN.out]
            refine ⟨j + 1, A3, c3, by go_num, by rw [e2], by omega, hid ?_, HB3⟩
            rw [e2, HS.out, ← tab_append]
            exact HO3.out
          case measure => simp [natI]; omega
        · obtain rfl : j = k := by omega
          rw [ET.out] at HO ⊢
          go_wp2_with fail
          go_ret
          exact ⟨A1, d1, by rw [ET.out]; rfl, HB.out, by rw [ET.out]; exact HO.out⟩

end Go.Proofs.Ytjihhpipdhhjkaa
