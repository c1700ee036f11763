/-
  Layer 33: the document's spans, and its first gap. No condition but that ends are from -200 up to 200.
-/
import Derived.Test.YtjihhpipdhhjkaaSpR
import Derived.Test.YtjihhpipdhhjkaaPushB
namespace Go.Proofs.Ytjihhpipdhhjkaa
open Go.RowKit
theorem info_sp : (Try.prog.info? 39).map (fun i => (i.zero, i.size, i.bytes)) = some (some (.agg #[.int .i64 0, .int .i64 0]), 2, 16) := by kernel_rfl
theorem pairI_pcV : pairI = pcV := rfl
set_option maxRecDepth 100000 in
set_option maxHeartbeats 4000000 in
theorem RAll_any {w : World} {d : Nat} {f : Int → Bool} (h : RfAt w d f) :
    Calls Try.prog 16 #[.pointer (some ⟨d, 0, none⟩)] w (GivesOwn 39 2 (refK (fun j => f ((j : Int) - 200)) 400).length (tab pcV (refK (fun j => f ((j : Int) - 200)) 400)) w) := by
  obtain ⟨i0, hi, hz0, hz1, hz2⟩ := info_parts info_sp
  have HI := hid hi
  have HH := hid h
  have HHS := hid (fun (W : World) (hW : Below w.heap.size w W) (x : Int) (hx : -1000 ≤ x ∧ x ≤ 1000) => RHas_any (h.far hW) x ⟨by omega, by omega⟩)
  obtain ⟨F, eF⟩ : ∃ F : Nat → Bool, (fun j : Nat => f ((j : Int) - 200)) = F := ⟨_, rfl⟩
  have HF := hid (fun j : Nat => (show F j = f ((j : Int) - 200) by rw [← eF]))
  rw [eF]
  clear h hi eF
  go_enter Try.func16, Try.ntmps16
  go_wp2_with fail
  go_loopw [3, 4] (fun o i wr => ∃ (k : Nat) (A : Option Addr) (c : Nat), i = .int .i64 ((k : Int) - 200) ∧ k ≤ 400 ∧ o = .slice A (refK F k).length c ∧ Hid (wr.ownsRow w.heap.size 39 2 (.slice A (refK F k).length c) (refK F k).length (tab pcV (refK F k))) ∧ Hid (Below w.heap.size w wr)) (fun _ i _ => (200 - intZ i).toNat)
  case atStart => exact ⟨0, none, 0, rfl, by omega, rfl, hid (World.ownsRow_nil _ _ _ _), hid (Below.refl _ _)⟩
  case round =>
    obtain ⟨k, A, c, rfl, hk, rfl, HO, HB⟩ := hrel
    have hBw := HB.out.size
    by_cases hlt : k < 400
    · have HX := hid (HHS.out wr HB.out ((k : Int) - 200) (by omega))
      have HS := hid (show refK F (k + 1) = (if F k = true then (if (decide (0 < k) && F (k - 1)) = true then setLast (refK F k) ((k : Int) - 200 + 1) else refK F k ++ [((k : Int) - 200, (k : Int) - 200 + 1)]) else refK F k) from rfl)
      have hFk := HF.out k
      have hFp := HF.out (k - 1)
      obtain ⟨z, ez⟩ : ∃ z, F k = z := ⟨_, rfl⟩
      rw [← hFk, ez] at HX
      rw [ez] at HS
      have hsp := refK_spec F k
      have hln := hsp.2.2.2.2.2
      have HL4 := hid hsp.2.2.2.1
      have HMS := hid (show ((k + 1 : Nat) : Int) - 200 = ((k : Int) - 200) + 1 by omega)
      obtain ⟨L, eL⟩ : ∃ L, refK F k = L := ⟨_, rfl⟩
      rw [eL] at HS HO hln HL4 ⊢
      obtain ⟨y, ey⟩ : ∃ y, (k : Int) - 200 = y := ⟨_, rfl⟩
      have hy1 : -200 ≤ y := by omega
      have hy2 : y < 200 := by omega
      have HX1 := hid (HHS.out wr HB.out (y - 1) (by omega))
      have EY := hid ey
      rw [ey] at HX HS HL4 HMS ⊢
      clear hFk ez hsp eL ey
      cases z with
      | false =>
        have HS2 := hid (show refK F (k + 1) = L from HS.out)
        clear HS
        go_wp2_with (go_at_call 19; refine HX.out.mono ?_; rintro _ w7 ⟨rfl, h7⟩; rw [h7]; clear h7 w7)
        go_roundw
        case rel => exact ⟨k + 1, A, c, by rw [HMS.out], by omega, by rw [HS2.out], by rw [HS2.out]; exact HO, HB⟩
        case measure => simp [intZ]; omega
      | true =>
        have HS2 := hid (show refK F (k + 1) = (if (decide (0 < k) && F (k - 1)) = true then setLast L (y + 1) else L ++ [(y, y + 1)]) from HS.out)
        clear HS
        by_cases hlast : (decide (0 < k) && F (k - 1)) = true
        · have HS3 := hid (show refK F (k + 1) = setLast L (y + 1) by rw [HS2.out, if_pos hlast])
          rw [Bool.and_eq_true, decide_eq_true_eq] at hlast
          obtain ⟨ini, a, ei⟩ := HL4.out hlast.1 hlast.2
          have hp : f (y - 1) = true := by rw [← hlast.2, hFp]; congr 1; have := EY.out; omega
          rw [hp] at HX1
          have hgt : decide (-200 < y) = true := by have := EY.out; simp; omega
          obtain ⟨n, en⟩ : ∃ n, L.length = n + 1 := ⟨ini.length, by rw [ei]; simp⟩
          have HSL := hid (show setLast L (y + 1) = L.set n (a, y + 1) by unfold setLast pc; rw [en, ei]; simp [show ini.length = n by rw [ei] at en; simpa using en])
          have hin : ini.length = n := by
            have e2 := en
            rw [ei] at e2
            simpa using e2
          have hgn : L[n]? = some (a, y) := by
            rw [ei, ← hin]
            simp
          obtain ⟨g, cap, eA, _⟩ := own_succ HO.out (by omega)
          injection eA with eA _ eC
          subst eA; subst eC
          have hst := HO.out.stored (n * 2 + 1) (.int .i64 (y + 1))
          rw [tab_set1 (f := pcV) (c := 2) (y := (a, y + 1)) pcV_length (by omega) hgn (by omega) rfl] at hst
          have HN := hid (show (wr.setCell ⟨g, n * 2 + 1, none⟩ (.int .i64 (y + 1))).ownsRow w.heap.size 39 2 (.slice (some ⟨g, 0, none⟩) (n + 1) c) (n + 1) (tab pcV (refK F (k + 1))) by
            rw [HS3.out, HSL.out, ← en]; exact hst.1)
          have HLN := hid (show (refK F (k + 1)).length = n + 1 by rw [HS3.out, HSL.out, List.length_set, en])
          have HBN := hid (HB.out.setCell (p := ⟨g, n * 2 + 1, none⟩) (HO.out.lt g rfl).1 (.int .i64 (y + 1)))
          have c1 := own_cell (f := pcV) pcV_length HO.out hgn (show 1 < 2 by omega)
          have f1 := HO.out.frozenAt (n * 2 + 1)
          have l1 := (HO.out.lt g rfl).2
          simp [pcV] at c1
          rw [en] at hln ⊢
          have hnn : ((n + 1 : Nat) : Int) - 1 = (n : Int) := by omega
          clear HS2 HS3 HL4 ei hlast hp hst hgn HSL en hFp HO HB hBw
          go_wp2_with (go_at_call 19; first | ((with_reducible refine HX.out.mono ?_); rintro _ w7 ⟨rfl, h7⟩; rw [h7]; clear h7 w7) | ((with_reducible refine HX1.out.mono ?_); rintro _ w7 ⟨rfl, h7⟩; rw [h7]; clear h7 w7))
          go_roundw
          case rel => exact ⟨k + 1, some ⟨g, 0, none⟩, c, by rw [HMS.out], by omega, by rw [HLN.out], by rw [HLN.out]; exact HN, HBN⟩
          case measure => simp [intZ]; omega
        · have HS3 := hid (show refK F (k + 1) = L ++ [(y, y + 1)] by rw [HS2.out, if_neg hlast])
          obtain ⟨n, en⟩ : ∃ n, L.length = n := ⟨_, rfl⟩
          rw [en] at HO hln ⊢
          have HLN := hid (show (refK F (k + 1)).length = n + 1 by rw [HS3.out, List.length_append, en]; rfl)
          have HTB := hid (show tab pcV L ++ [.int .i64 y, .int .i64 (y + 1)] = tab pcV (refK F (k + 1)) by rw [HS3.out, ← tab_append]; rfl)
          have hcase : (-200 < y ∧ f (y - 1) = false) ∨ ¬ (-200 < y) := by
            by_cases h0 : 0 < k
            · refine .inl ⟨by have := EY.out; omega, ?_⟩
              have h1 : F (k - 1) = false := by
                cases g : F (k - 1) with
                | false => rfl
                | true => exact (hlast (by rw [g, decide_eq_true h0]; rfl)).elim
              rw [← h1, hFp]; congr 1; have := EY.out; omega
            · exact .inr (by have := EY.out; omega)
          clear HS2 HS3 HL4 hlast hFp en
          rcases hcase with ⟨hgt, hp⟩ | hgt
          · rw [hp] at HX1
            have hgt2 : decide (-200 < y) = true := by simpa using hgt
            clear hp
            go_wp2_with (first | (go_at_call 19; first | ((with_reducible refine HX.out.mono ?_); rintro _ w7 ⟨rfl, h7⟩; rw [h7]; clear h7 w7) | ((with_reducible refine HX1.out.mono ?_); rintro _ w7 ⟨rfl, h7⟩; rw [h7]; clear h7 w7)) | (at_builtin; refine wpList_pushB rfl (.tmp 29) (.tmp 34) 42 rfl 39 i0 (.agg #[.int .i64 0, .int .i64 0]) 2 16 Try.underlying42 HI.out hz0 hz1 hz2 rfl (by decide) w.heap.size ?_ (.slice A n c) n (tab pcV L) ?_ HO.out _ #[.int .i64 y, .int .i64 (y + 1)] ?_ rfl rfl ?_ ?_ ?_ ?_; (· exact hBw); (· rfl); (· simp [go_sem]); (· simp [Value.oneCell']); (· omega); (· unfold maxLen; omega); intro w3 g3 c3 ho3 hg3 _; have HO3 := hid ho3; have HB3 := hid (HB.out.grown hg3 hBw (fun k h => (HO.out.lt k h).1)); clear ho3 hg3))
            go_roundw
            case rel => exact ⟨k + 1, some ⟨g3, 0, none⟩, c3, by rw [HMS.out], by omega, by rw [HLN.out], by rw [HLN.out, ← HTB.out]; exact HO3, HB3⟩
            case measure => simp [intZ]; omega
          · have hgt2 : decide (-200 < y) = false := by simpa using hgt
            clear HX1
            go_wp2_with (first | (go_at_call 19; (with_reducible refine HX.out.mono ?_); rintro _ w7 ⟨rfl, h7⟩; rw [h7]; clear h7 w7) | (at_builtin; refine wpList_pushB rfl (.tmp 29) (.tmp 34) 42 rfl 39 i0 (.agg #[.int .i64 0, .int .i64 0]) 2 16 Try.underlying42 HI.out hz0 hz1 hz2 rfl (by decide) w.heap.size ?_ (.slice A n c) n (tab pcV L) ?_ HO.out _ #[.int .i64 y, .int .i64 (y + 1)] ?_ rfl rfl ?_ ?_ ?_ ?_; (· exact hBw); (· rfl); (· simp [go_sem]); (· simp [Value.oneCell']); (· omega); (· unfold maxLen; omega); intro w3 g3 c3 ho3 hg3 _; have HO3 := hid ho3; have HB3 := hid (HB.out.grown hg3 hBw (fun k h => (HO.out.lt k h).1)); clear ho3 hg3))
            go_roundw
            case rel => exact ⟨k + 1, some ⟨g3, 0, none⟩, c3, by rw [HMS.out], by omega, by rw [HLN.out], by rw [HLN.out, ← HTB.out]; exact HO3, HB3⟩
            case measure => simp [intZ]; omega
    · obtain rfl : k = 400 := by omega
      go_wp2_with fail
      go_ret
      exact ⟨A, c, rfl, HB.out, HO.out⟩
end Go.Proofs.Ytjihhpipdhhjkaa
