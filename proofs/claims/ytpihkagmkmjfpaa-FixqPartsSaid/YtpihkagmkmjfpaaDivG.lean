/-
  The document's MulDiv and MulMod: what they come to is what the program's do. No condition.
-/
import Derived.Test.YtpihkagmkmjfpaaDivF
import Derived.Test.YtpihkagmkmjfpaaNear
namespace Go.Proofs.Ytpihkagmkmjfpaa
open Go.RowKit
theorem md_val {a b c : Int} (ha : U64 a) (hb : U64 b) (hc : U64 c) (h0 : c ≠ 0) :
    mdF a b c = (if a * b / c < 18446744073709551616 then a * b / c else 18446744073709551615) ∧ mdE a b c = (if a * b / c < 18446744073709551616 then 0 else 2) ∧ mmF a b c = a * b % c ∧ mmE c = 0 := by
  have hc0 : 0 < c := by have := hc.1; omega
  have x := hilo a b
  have lw := lo_word a b
  have hb0 : (c == 0) = false := by simp [h0]
  have key : c ≤ hiF a b ↔ ¬ a * b / c < 18446744073709551616 := by
    rw [Int.not_lt, Int.le_ediv_iff_mul_le hc0]
    have := lw.1; have := lw.2
    omega
  have e : hiF a b * 18446744073709551616 + loF a b = a * b := by omega
  unfold mdF mdE mmF mmE quoF remF
  rw [hb0, e]
  by_cases h : c ≤ hiF a b
  · have hn := key.1 h
    simp [h, hn]
  · have hlt : a * b / c < 18446744073709551616 := by
      by_cases e : a * b / c < 18446744073709551616
      · exact e
      · exact absurd (key.2 e) h
    simp [h, hlt]
theorem mm_word {a b c : Int} (ha : U64 a) (hb : U64 b) (hc : U64 c) (h0 : c ≠ 0) : 0 ≤ a * b % c ∧ a * b % c < c := ⟨Int.emod_nonneg _ h0, Int.emod_lt_of_pos _ (by have := hc.1; omega)⟩
theorem times_len0 (a b : Int) : 0 < (timesD (numD a) (numD b)).length := by
  have : timesD (numD a) (numD b) = sumD (timesK (numD a) (numD b) 3) (rowD (numD a) (atD (numD b) 3) 3) := rfl
  rw [this]
  simp only [sumD, sumK, List.length_map, List.length_range]
  omega
set_option maxHeartbeats 4000000 in
theorem RMulDiv_any (a b c : Int) (ha : U64 a) (hb : U64 b) (hc : U64 c) (w : World) :
    Calls Try.prog 20 #[.int .u64 a, .int .u64 b, .int .u64 c] w (Gives (.tuple #[.int .u64 (mdF a b c), .int .i64 (mdE a b c)]) w) := by
  have Ha := hid ha
  have Hb := hid hb
  have Hc := hid hc
  rcases beq_cases c 0 with h | h
  · clear ha hb hc
    go_enter Try.func20, Try.ntmps20
    go_wp2_with (fail)
    go_ret2
    exact Gives.refl (by simp [mdF, mdE, h])
  · have hm := hid (md_val ha hb hc (by simpa using h))
    have hv := hid (show 0 < val (numD c) by rw [num_val hc]; have := hc.1; simp at h; omega)
    have lt := len_times a b
    obtain ⟨t, et⟩ : ∃ t, t = timesD (numD a) (numD b) := ⟨_, rfl⟩
    have vt := hid (show val t = a * b by rw [et]; exact digs_times a b ha hb)
    have l0 : 0 < t.length := by rw [et]; exact times_len0 a b
    have dt := hid (show Digs t by rw [et]; exact times_digs _ _)
    rw [← et] at lt
    have ET := hid et
    clear et
    clear ha hb hc
    go_enter Try.func20, Try.ntmps20
    go_wp2_with fail
    refine (number_any a Ha.out _).mono ?_
    rintro _ w1 ⟨A, ca, rfl, hb1, ho1⟩
    go_wp2_with fail
    refine (number_any b Hb.out _).mono ?_
    rintro _ w2 ⟨B, cb, rfl, hb2, ho2⟩
    go_wp2_with fail
    refine (Times_ref A B ca cb (numD a) (numD b) _ (by simp [numD]) (by simp [numD]) (num_digs Ha.out) (num_digs Hb.out) ((Cells.of_own ho1).below hb2) (Cells.of_own ho2)).mono ?_
    rintro _ w3 ⟨C, cc, rfl, hb3, ho3⟩
    rw [← ET.out] at ho3 ⊢
    go_wp2_with fail
    refine (number_any c Hc.out _).mono ?_
    rintro _ w4 ⟨D, cd, rfl, hb4, ho4⟩
    go_wp2_with fail
    refine (Divide_any C D cc cd t (numD c) t.length rfl _ l0 lt (by simp [numD]) dt.out (num_digs Hc.out) ((Cells.of_own ho3).below hb4) (Cells.of_own ho4) hv.out).mono ?_
    rintro _ w5 ⟨O, R, co, cr, out, rest, rfl, hb5, hco, hcr, hlo, hlr, hdo, hdr, hvo, hvr⟩
    rw [vt.out, num_val Hc.out] at hvo
    have hf := fits_val hdo
    rw [hvo, ← hm.out.1, ← hm.out.2.1] at hf
    have HF := hid hf
    have B5 := hid (below_trans' (below_trans' (below_trans' (below_trans' hb1 hb2) hb3) hb4) hb5)
    have HC := hid hco
    have HLO := hid (show out.length ≤ 1000000 by omega)
    clear hf hvo hvr hb1 hb2 hb3 hb4 hb5 ho1 ho2 ho3 ho4 hlo l0 lt hco hcr hdr
    go_wp2_with fail
    refine (Fits_any O co out _ HLO.out hdo HC.out).mono ?_
    rintro _ _ ⟨rfl, _, rfl⟩
    go_wp2
    go_ret2
    refine Gives.mk (by rw [HF.out.1, HF.out.2]; rfl) ?_
    exact RowKit.Below.past B5.out _
set_option maxHeartbeats 4000000 in
theorem RMulMod_any (a b c : Int) (ha : U64 a) (hb : U64 b) (hc : U64 c) (w : World) :
    Calls Try.prog 22 #[.int .u64 a, .int .u64 b, .int .u64 c] w (Gives (.tuple #[.int .u64 (mmF a b c), .int .i64 (mmE c)]) w) := by
  have Ha := hid ha
  have Hb := hid hb
  have Hc := hid hc
  rcases beq_cases c 0 with h | h
  · clear ha hb hc
    go_enter Try.func22, Try.ntmps22
    go_wp2_with (fail)
    go_ret2
    exact Gives.refl (by simp [mmF, mmE, h])
  · have hm := hid (md_val ha hb hc (by simpa using h))
    have hw := hid (mm_word ha hb hc (by simpa using h))
    have hv := hid (show 0 < val (numD c) by rw [num_val hc]; have := hc.1; simp at h; omega)
    have lt := len_times a b
    obtain ⟨t, et⟩ : ∃ t, t = timesD (numD a) (numD b) := ⟨_, rfl⟩
    have vt := hid (show val t = a * b by rw [et]; exact digs_times a b ha hb)
    have l0 : 0 < t.length := by rw [et]; exact times_len0 a b
    have dt := hid (show Digs t by rw [et]; exact times_digs _ _)
    rw [← et] at lt
    have ET := hid et
    clear et
    clear ha hb hc
    go_enter Try.func22, Try.ntmps22
    go_wp2_with fail
    refine (number_any a Ha.out _).mono ?_
    rintro _ w1 ⟨A, ca, rfl, hb1, ho1⟩
    go_wp2_with fail
    refine (number_any b Hb.out _).mono ?_
    rintro _ w2 ⟨B, cb, rfl, hb2, ho2⟩
    go_wp2_with fail
    refine (Times_ref A B ca cb (numD a) (numD b) _ (by simp [numD]) (by simp [numD]) (num_digs Ha.out) (num_digs Hb.out) ((Cells.of_own ho1).below hb2) (Cells.of_own ho2)).mono ?_
    rintro _ w3 ⟨C, cc, rfl, hb3, ho3⟩
    rw [← ET.out] at ho3 ⊢
    go_wp2_with fail
    refine (number_any c Hc.out _).mono ?_
    rintro _ w4 ⟨D, cd, rfl, hb4, ho4⟩
    go_wp2_with fail
    refine (Divide_any C D cc cd t (numD c) t.length rfl _ l0 lt (by simp [numD]) dt.out (num_digs Hc.out) ((Cells.of_own ho3).below hb4) (Cells.of_own ho4) hv.out).mono ?_
    rintro _ w5 ⟨O, R, co, cr, out, rest, rfl, hb5, hco, hcr, hlo, hlr, hdo, hdr, hvo, hvr⟩
    rw [vt.out, num_val Hc.out] at hvr
    have hf := fits_val hdr
    have hlt : a * b % c < 18446744073709551616 := by have := hw.out.2; have := Hc.out.2; omega
    rw [hvr, if_pos hlt, if_pos hlt, ← hm.out.2.2.1, ← hm.out.2.2.2] at hf
    have HF := hid hf
    have B5 := hid (below_trans' (below_trans' (below_trans' (below_trans' hb1 hb2) hb3) hb4) hb5)
    have HC := hid hcr
    have HLO := hid (show rest.length ≤ 1000000 by omega)
    clear hf hlt hvo hvr hb1 hb2 hb3 hb4 hb5 ho1 ho2 ho3 ho4 hlo l0 lt hco hcr hdo
    go_wp2_with fail
    refine (Fits_any R cr rest _ HLO.out hdr HC.out).mono ?_
    rintro _ _ ⟨rfl, _, rfl⟩
    go_wp2
    go_ret2
    refine Gives.mk (by rw [HF.out.1, HF.out.2]; rfl) ?_
    exact RowKit.Below.past B5.out _
end Go.Proofs.Ytpihkagmkmjfpaa
