/-
  Layer 33: rows of pieces of strings, one behind the other. No condition.
-/
import Derived.Test.YtjihhpipdhhjkaaSpD
import Derived.Test.YtjihhpipdhhjkaaSpCS
namespace Go.Proofs.Ytjihhpipdhhjkaa
open Go.RowKit
/-! Rows of pieces, one behind the other. -/
theorem info_pcS : (Try.prog.info? 72).map (fun i => (i.zero, i.size, i.bytes)) = some (some (.agg #[.string ⟨#[]⟩, .string ⟨#[]⟩]), 2, 32) := by kernel_rfl
def GrowPS (w : World) (e : Ending) (w' : World) : Prop := ∃ A c, e = .returned (.slice A 0 c) ∧ Below w.heap.size w w' ∧ w'.ownsRow w.heap.size 72 2 (.slice A 0 c) 0 []
set_option maxHeartbeats 1000000 in
theorem growS_any (m : Nat) (hm : m ≤ 10000000) (w : World) :
    Calls Try.prog 43 #[.slice none 0 0, .int .i64 (m : Int)] w (GrowPS w) := by
  obtain ⟨i0, hi, hz0, hz1, hz2⟩ := info_parts info_pcS
  rcases Nat.eq_zero_or_pos m with h0 | h0
  · subst h0
    go_enter Try.func43, Try.ntmps43
    go_wp2
    go_ret
    exact ⟨none, 0, rfl, Below.refl _ w, World.ownsRow_nil _ _ _ _⟩
  · have hmne : m ≠ 0 := by omega
    go_enter Try.func43, Try.ntmps43
    go_wp2_with (refine wpList_nil_zeros rfl (.tmp 20) (.tmp 21) 67 3 rfl w.heap.size 72 i0 (.agg #[.string ⟨#[]⟩, .string ⟨#[]⟩]) .i64 2 32 Try.underlying67 Try.underlying3 hi hz0 hz1 hz2 rfl (by decide) m hmne ?_ ?_ ?_ ?_ ?_ ?_; (· rfl); (· rfl); (· unfold maxLen; omega); (· omega); (· exact Nat.le_refl _); intro w1 g cap hown hgrow; have HO := hid hown; have HG := hid hgrow; clear hown hgrow)
    go_ret
    refine ⟨some ⟨g, 0, none⟩, cap, rfl, (Below.refl _ w).grown HG.out (Nat.le_refl _) (fun _ h => by cases h), ?_⟩
    have := own_cut HO.out (m := 0) (by omega)
    simpa using this
structure RwS where
  A : Option Addr
  c : Nat
  l : List (ByteArray × ByteArray)
def rwVS (r : RwS) : Value := .slice r.A r.l.length r.c
def rwS_ (rs : List RwS) (k : Nat) : RwS := rs[k]?.getD ⟨none, 0, []⟩
def catRS (rs : List RwS) (k : Nat) : List (ByteArray × ByteArray) := (rs.take k).flatMap (·.l)
theorem catRS_succ {rs : List RwS} {k : Nat} (hk : k < rs.length) : catRS rs (k + 1) = catRS rs k ++ (rwS_ rs k).l := by
  unfold catRS rwS_
  rw [List.take_succ_eq_append_getElem hk, List.flatMap_append]
  congr 1
  simp [hk]
theorem catRS_len {rs : List RwS} (h : ∀ r ∈ rs, r.l.length ≤ 1000000) : ∀ k, (catRS rs k).length ≤ k * 1000000
  | 0 => by simp [catRS]
  | k + 1 => by
    have ih := catRS_len h k
    by_cases hk : k < rs.length
    · rw [catRS_succ hk, List.length_append]
      have := h (rwS_ rs k) (by unfold rwS_; rw [List.getElem?_eq_getElem hk]; exact List.getElem_mem _)
      omega
    · have e : catRS rs (k + 1) = catRS rs k := by
        unfold catRS
        rw [List.take_of_length_le (show rs.length ≤ k + 1 by omega), List.take_of_length_le (show rs.length ≤ k by omega)]
      rw [e]; exact Nat.le_trans ih (Nat.mul_le_mul_right _ (Nat.le_succ k))
theorem pcsS_one (l : List (ByteArray × ByteArray)) : ∀ u ∈ tab pcVS l, u.oneCell' = true := by
  intro u hu
  simp only [tab, List.mem_flatMap] at hu
  obtain ⟨x, _, hx⟩ := hu
  simp only [pcVS, List.mem_cons, List.not_mem_nil, or_false] at hx
  rcases hx with rfl | rfl <;> simp [Value.oneCell']
theorem tabS_append (l m : List (ByteArray × ByteArray)) : tab pcVS l ++ tab pcVS m = tab pcVS (l ++ m) := by simp [tab]
set_option maxRecDepth 100000 in
set_option maxHeartbeats 8000000 in
/-- Rows, one behind the other. -/
theorem concatS_any (R : Option Addr) (cr m : Nat) (rs : List RwS) (em : rs.length = m) (hm : m ≤ 4) (hl : ∀ r ∈ rs, r.l.length ≤ 1000000) (w : World)
    (hR : Cells w R (rs.map rwVS)) (hr : ∀ r ∈ rs, Cells w r.A (tab pcVS r.l)) :
    Calls Try.prog 33 #[.slice R m cr] w (GivesOwn 72 2 (catRS rs m).length (tab pcVS (catRS rs m)) w) := by
  obtain ⟨i0, hi, hz0, hz1, hz2⟩ := info_parts info_pcS
  have HI := hid hi
  have HR := hid hR
  have HRS := hid hr
  have EM := hid em
  have HC := hid (catRS_len hl)
  have HLK := hid (fun k (hk : k < m) => hl (rwS_ rs k) (by unfold rwS_; rw [List.getElem?_eq_getElem (by rw [em]; exact hk)]; exact List.getElem_mem _))
  have HRK := hid (fun k (hk : k < m) => hr (rwS_ rs k) (by unfold rwS_; rw [List.getElem?_eq_getElem (by rw [em]; exact hk)]; exact List.getElem_mem _))
  have HCK := hid (fun k (hk : k < m) => (show ∃ b o : Nat, R = some ⟨b, o, none⟩ ∧ w.cell? ⟨b, o + k, none⟩ = some (rwVS (rwS_ rs k)) by
    obtain ⟨b, o, e, h⟩ := hR.at (k := k) (by rw [List.length_map, em]; exact hk)
    refine ⟨b, o, e, ?_⟩
    rw [h]
    simp [rwS_, show k < rs.length by rw [em]; exact hk]))
  have HGR := hid (fun W => growS_any (catRS rs m).length (by have := catRS_len hl m; omega) W)
  clear hi hR hr em hl
  go_enter Try.func33, Try.ntmps33
  go_wp2_with fail
  go_loopw [3, 5, 11] (fun t _ i wr => ∃ k : Nat, i = .int .i64 (k : Int) ∧ t = .int .i64 ((catRS rs k).length : Int) ∧ k ≤ m ∧ w = wr) (fun _ _ i _ => m - natI i)
  case atStart => exact ⟨0, rfl, by simp [catRS], Nat.zero_le _, rfl⟩
  case round =>
    obtain ⟨k, rfl, rfl, hk, rfl⟩ := hrel
    by_cases hlt : k < m
    · obtain ⟨b, o, rfl, ck⟩ := HCK.out k hlt
      have h1 := HC.out k
      have h2 := HLK.out k hlt
      have HS := hid (show (catRS rs (k + 1)).length = (catRS rs k).length + (rwS_ rs k).l.length by rw [catRS_succ (by rw [EM.out]; exact hlt), List.length_append])
      obtain ⟨s, es⟩ : ∃ s, (catRS rs k).length = s := ⟨_, rfl⟩
      obtain ⟨A, c, l, er⟩ : ∃ A c l, rwS_ rs k = ⟨A, c, l⟩ := ⟨_, _, _, rfl⟩
      rw [es] at h1 HS ⊢
      rw [er] at ck h2 HS
      simp only [rwVS] at ck
      simp only at h2 HS
      obtain ⟨n, en⟩ : ∃ n, l.length = n := ⟨_, rfl⟩
      rw [en] at ck h2 HS
      clear es er en
      go_wp2_with fail
      go_roundw
      case rel => exact ⟨k + 1, by go_num, by rw [HS.out]; go_num, by omega, by trivial⟩
      case measure => simp [natI]; omega
    · obtain rfl : k = m := by omega
      obtain ⟨tot, et⟩ : ∃ t, (catRS rs k).length = t := ⟨_, rfl⟩
      rw [et] at HGR ⊢
      have ET := hid et
      clear et
      go_upto_region 10 with (go_at_call 43; refine (HGR.out _).mono ?_; rintro _ w2 ⟨A0, c0, rfl, hb2, ho2⟩; have HB2 := hid hb2; have HO2 := hid ho2; clear hb2 ho2)
      go_wp2_with fail
      go_loopw [6, 8, 27] (fun v _ i wr => ∃ (j : Nat) (A : Option Addr) (c : Nat), i = .int .i64 (j : Int) ∧ v = .slice A (catRS rs j).length c ∧ j ≤ k ∧ Hid (wr.ownsRow w.heap.size 72 2 (.slice A (catRS rs j).length c) (catRS rs j).length (tab pcVS (catRS rs j))) ∧ Hid (Below w.heap.size w wr)) (fun _ _ i _ => k - natI i)
      case atStart => exact ⟨0, A0, c0, rfl, by simp [catRS], Nat.zero_le _, hid (by simpa [catRS, tab] using HO2.out), HB2⟩
      case round =>
        clear HB2 HO2
        obtain ⟨j, A1, d1, rfl, rfl, hj, HO, HB⟩ := hrel
        by_cases hlt2 : j < k
        · obtain ⟨b, o, rfl, ck0⟩ := HCK.out j hlt2
          have ck := below_cell HB.out (Nat.le_refl _) _ _ ck0
          have h1 := HC.out j
          have h2 := HLK.out j hlt2
          have hcl := (HRK.out j hlt2).below HB.out
          have HS := hid (show catRS rs (j + 1) = catRS rs j ++ (rwS_ rs j).l from catRS_succ (by rw [EM.out]; exact hlt2))
          obtain ⟨L, eL⟩ : ∃ L, catRS rs j = L := ⟨_, rfl⟩
          obtain ⟨A, c, l, er⟩ : ∃ A c l, rwS_ rs j = ⟨A, c, l⟩ := ⟨_, _, _, rfl⟩
          rw [eL] at h1 HS HO ⊢
          rw [er] at ck h2 HS hcl
          simp only [rwVS] at ck
          simp only at h2 HS hcl
          have HCL := hid hcl
          obtain ⟨n, en⟩ : ∃ n, l.length = n := ⟨_, rfl⟩
          obtain ⟨s, es⟩ : ∃ s, L.length = s := ⟨_, rfl⟩
          rw [en] at ck h2
          rw [es] at h1 HO ⊢
          have EN := hid en
          have ES := hid es
          have hwr := HB.out.size
          clear eL er en es ck0 hcl
          go_wp2_with (at_builtin; refine wpList_appB rfl (.tmp 31) (.tmp 32) 67 rfl 72 i0 (.agg #[.string ⟨#[]⟩, .string ⟨#[]⟩]) 2 32 Try.underlying67 HI.out hz0 hz1 hz2 rfl (by decide) w.heap.size ?_ (.slice A1 s d1) s (tab pcVS L) ?_ HO.out A n c (tab pcVS l) ?_ ?_ HCL.out (pcsS_one l) ?_ ?_ ?_; (· exact hwr); (· rfl); (· rfl); (· rw [tab_length pcVS_length, EN.out]); (· unfold maxLen; omega); (· omega); intro w3 A3 c3 ho3 hg3 _; have HO3 := hid ho3; have HB3 := hid (HB.out.grown hg3 hwr (fun k hk => (HO.out.lt k hk).1)); clear ho3 hg3)
          go_roundw
          case rel =>
            have e2 : (catRS rs (j + 1)).length = s + n := by rw [HS.out, List.length_append, ES.out, EN.out]
            refine ⟨j + 1, A3, c3, by go_num, by rw [e2], by omega, hid ?_, HB3⟩
            rw [e2, HS.out, ← tabS_append]
            exact HO3.out
          case measure => simp [natI]; omega
        · obtain rfl : j = k := by omega
          rw [ET.out] at HO ⊢
          go_wp2_with fail
          go_ret
          exact ⟨A1, d1, by rw [ET.out]; rfl, HB.out, by rw [ET.out]; exact HO.out⟩

end Go.Proofs.Ytjihhpipdhhjkaa
