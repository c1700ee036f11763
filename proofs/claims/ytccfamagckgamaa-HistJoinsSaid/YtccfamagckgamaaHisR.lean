/-
  Layer 34: the document's: what came as a list; all that is told of it. No condition.
-/
import Derived.Test.YtccfamagckgamaaLawBelow
import Derived.Test.YtccfamagckgamaaDigD
namespace Go.Proofs.Ytccfamagckgamaa
open Go.RowKit
theorem take_one (L : List Cm) {k : Nat} (hk : k < L.length) : L.take (k + 1) = L.take k ++ [cm L k] := by
  rw [List.take_add_one]
  simp [cm, hk]
theorem cnt_append (a b : List Cm) : cntF (a ++ b) = cntF a + cntF b := by simp [cntF]
theorem ok_take {L : List Cm} (h : OkL L) (k : Nat) : OkL (L.take k) := by
  have h1 : ∀ x ∈ L.drop k, U64 x.1 ∧ 1 ≤ x.2 := fun x hx => h.each x (List.mem_of_mem_drop hx)
  have h2 := cnt_nonneg h1
  have h3 : cntF L = cntF (L.take k) + cntF (L.drop k) := by rw [← cnt_append, List.take_append_drop]
  exact ⟨fun x hx => h.each x (List.mem_of_mem_take hx), by have := h.most; omega⟩
theorem cm_in {L : List Cm} (h : OkL L) {k : Nat} (hk : k < L.length) : U64 (cm L k).1 ∧ 1 ≤ (cm L k).2 := by
  have : cm L k ∈ L := by unfold cm; rw [List.getElem?_eq_getElem hk]; exact List.getElem_mem hk
  exact h.each _ this
/-- The object reads as this list. -/
def RefR (w : World) (bw : Nat) (L : List Cm) : Prop := ∃ (A : Option Addr) (c : Nat), w.cell? ⟨bw, 0, none⟩ = some (.slice A L.length c) ∧ Cells w A (tab cmV L)
theorem RefR.below {w w' : World} {bw : Nat} {L : List Cm} (h : RefR w bw L) (hb : Below w.heap.size w w') : RefR w' bw L := by
  obtain ⟨A, c, h1, h2⟩ := h
  exact ⟨A, c, below_cell hb (Nat.le_refl _) _ _ h1, h2.below hb⟩
theorem RCount_any (bw : Nat) (L : List Cm) (hL : OkL L) (w : World) (h : RefR w bw L) :
    Calls Try.prog 15 #[.pointer (some ⟨bw, 0, none⟩)] w (Gives (.int .i64 (cntF L)) w) := by
  obtain ⟨A, c, q, hc⟩ := h
  obtain ⟨n, en⟩ : ∃ n, L.length = n := ⟨_, rfl⟩
  rw [en] at q
  have EN := hid en
  have HC := hid hc
  have HL := hid hL
  have hbig := cnt_nonneg hL.each
  have hbig2 := hL.most
  clear en hc hL
  go_enter Try.func15, Try.ntmps15
  go_wp2
  go_loopw [3, 4] (fun s i wr => ∃ (k : Nat), i = .int .i64 k ∧ k ≤ n ∧ wr = w ∧ s = .int .i64 (cntF (L.take k))) (fun _ i _ => n - numOf i)
  case atStart => exact ⟨0, rfl, by omega, rfl, rfl⟩
  case round =>
    obtain ⟨k, rfl, hk, rfl, rfl⟩ := hrel
    by_cases hlt : k < n
    · obtain ⟨b1, o1, rfl, c0, c1⟩ := cm_at HC.out (show k < L.length by rw [EN.out]; exact hlt)
      have HT := hid (take_one L (k := k) (by rw [EN.out]; exact hlt))
      have ok := ok_take HL.out (k + 1)
      have k0 := cnt_nonneg ok.each
      have k1 := ok.most
      rw [HT.out, cnt_snoc] at k0 k1
      have e1 : IntKind.i64.wrap (cntF (L.take k) + (cm L k).2) = cntF (L.take k) + (cm L k).2 := by rw [IntKind.wrap_i64]; omega
      have e2 : IntKind.i64.wrap ((k : Int) + 1) = (k : Int) + 1 := by rw [IntKind.wrap_i64]; have := EN.out; omega
      clear ok k0 k1 hbig hbig2
      go_wp2
      go_roundw
      case rel => exact ⟨k + 1, by go_num, by omega, trivial, by rw [HT.out, cnt_snoc]⟩
      case measure => simp [numOf]; omega
    · obtain rfl : k = n := by omega
      have e : L.take k = L := List.take_of_length_le (by rw [EN.out]; omega)
      rw [e]
      clear hbig hbig2
      go_wp2
      go_ret
      exact Gives.refl rfl
theorem RPlace_any (n : Int) (hn : U64 n) (w : World) : Calls Try.prog 13 #[.int .u64 n] w (Gives (.int .i64 (placeF n)) w) := by
  unfold U64 at hn
  obtain ⟨x, rfl⟩ := Int.eq_ofNat_of_zero_le hn.1
  have h64 : placeF x ≤ 64 := place_le (show U64 x from hn)
  obtain ⟨p, hp⟩ : ∃ p, placeF (x : Int) = p := ⟨_, rfl⟩
  have hp2 : 0 + Lib.bitLen x = p := by rw [← hp]; unfold placeF; simp
  rw [hp] at h64
  rw [hp]
  have HP := hid hp2
  clear hp hp2
  go_enter Try.func13, Try.ntmps13
  go_wp2
  go_loopw [0, 3] (fun y c wr => ∃ (x k : Nat), y = .int .u64 x ∧ c = .int .i64 k ∧ wr = w ∧ x < 18446744073709551616 ∧ Hid (k + Lib.bitLen x = p)) (fun y _ _ => numOf y)
  case atStart => exact ⟨x, 0, rfl, rfl, rfl, by omega, HP⟩
  case round =>
    obtain ⟨x, k, rfl, rfl, rfl, hx, HK⟩ := hrel
    clear HP
    by_cases hz : x = 0
    · subst hz
      have h0 : k = p := by have := HK.out; rw [show Lib.bitLen 0 = 0 from rfl] at this; omega
      subst h0
      go_wp2
      go_ret
      exact Gives.refl rfl
    · have hh := Lib.bitLen_half x hz (by omega)
      have HH := hid hh
      have hk64 : k ≤ 64 := by have := HK.out; omega
      have hpos : (0 : Int) < x := by omega
      have e2 : IntKind.i64.wrap ((k : Int) + 1) = (k : Int) + 1 := by rw [IntKind.wrap_i64]; omega
      clear hh
      go_wp2
      go_roundw
      case rel => exact ⟨x / 2, k + 1, by rw [show ((x : Int) / 2) = ((x / 2 : Nat) : Int) by omega], by go_num, trivial, by omega, hid (by have := HK.out; rw [HH.out] at this; omega)⟩
      case measure => simp [numOf]; omega
theorem RAt_any (bw : Nat) (L : List Cm) (hL : OkL L) (p : Nat) (w : World) (h : RefR w bw L) :
    Calls Try.prog 27 #[.pointer (some ⟨bw, 0, none⟩), .int .i64 p] w (Gives (.int .i64 (atF L p)) w) := by
  obtain ⟨A, c, q, hc⟩ := h
  obtain ⟨n, en⟩ : ∃ n, L.length = n := ⟨_, rfl⟩
  rw [en] at q
  have EN := hid en
  have HC := hid hc
  have HL := hid hL
  have hbig := cnt_nonneg hL.each
  have hbig2 := hL.most
  have Q := hid q
  clear en hc hL
  go_enter Try.func27, Try.ntmps27
  go_wp2
  clear q
  go_loopw [5, 6] (fun s i wr => ∃ (k : Nat) (x : Past), i = .int .i64 k ∧ k ≤ n ∧ wr = w.past x ∧ s = .int .i64 (atF (L.take k) p)) (fun _ i _ => n - numOf i)
  case atStart => exact ⟨0, _, rfl, by omega, World.past_refl w, rfl⟩
  case round =>
    obtain ⟨k, x, rfl, hk, rfl, rfl⟩ := hrel
    have q := Q.out
    by_cases hlt : k < n
    · obtain ⟨b1, o1, eA, c0, c1⟩ := cm_at HC.out (show k < L.length by rw [EN.out]; exact hlt)
      have HT := hid (take_one L (k := k) (by rw [EN.out]; exact hlt))
      have ok := ok_take HL.out (k + 1)
      have k0 := at_range ok.each p
      have k1 := ok.most
      have HX := cm_in HL.out (k := k) (by rw [EN.out]; exact hlt)
      have hp := fun w => RPlace_any (cm L k).1 HX.1 w
      have HP := hid hp
      have e2 : IntKind.i64.wrap ((k : Int) + 1) = (k : Int) + 1 := by rw [IntKind.wrap_i64]; have := EN.out; omega
      rw [HT.out, at_snoc] at k0
      rw [HT.out] at k1
      obtain ⟨z, ez⟩ : ∃ z, placeF (cm L k).1 = z := ⟨_, rfl⟩
      rw [ez] at HP k0
      have EZ := hid ez
      subst eA
      clear hp ez ok hbig hbig2 HX
      by_cases hz : z = p
      · rw [if_pos hz] at k0
        have e1 : IntKind.i64.wrap (atF (L.take k) p + (cm L k).2) = atF (L.take k) p + (cm L k).2 := by rw [IntKind.wrap_i64]; omega
        subst hz
        clear k0 k1
        go_wp2_with (go_at_call 13; refine (HP.out _).mono ?_; rintro _ _ ⟨rfl, _, rfl⟩)
        go_roundw
        case rel => exact ⟨k + 1, _, by go_num, by omega, rfl, by rw [HT.out, at_snoc, EZ.out, if_pos rfl]⟩
        case measure => simp [numOf]; omega
      · have hz' : ((z : Int) == (p : Int)) = false := by simp; omega
        clear k0 k1
        go_wp2_with (go_at_call 13; refine (HP.out _).mono ?_; rintro _ _ ⟨rfl, _, rfl⟩)
        go_roundw
        case rel => exact ⟨k + 1, _, by go_num, by omega, rfl, by rw [HT.out, at_snoc, EZ.out, if_neg hz]⟩
        case measure => simp [numOf]; omega
    · obtain rfl : k = n := by omega
      have e : L.take k = L := List.take_of_length_le (by rw [EN.out]; omega)
      rw [e]
      clear hbig hbig2
      go_wp2
      go_ret
      exact Gives.mk rfl (World.below_past _ _)
theorem RMost_any (bw : Nat) (L : List Cm) (hL : OkL L) (w : World) (h : RefR w bw L) :
    Calls Try.prog 26 #[.pointer (some ⟨bw, 0, none⟩)] w (Gives (.int .u64 (mostF L)) w) := by
  obtain ⟨A, c, q, hc⟩ := h
  obtain ⟨n, en⟩ : ∃ n, L.length = n := ⟨_, rfl⟩
  rw [en] at q
  have hn : (n : Int) ≤ 1099511627776 := by have := cnt_nonneg hL.each; have := hL.most; omega
  have EN := hid en
  have HC := hid hc
  clear en hc hL
  go_enter Try.func26, Try.ntmps26
  go_wp2
  go_loopw [3, 4] (fun s i wr => ∃ (k : Nat), i = .int .i64 k ∧ k ≤ n ∧ wr = w ∧ s = .int .u64 (mostF (L.take k))) (fun _ i _ => n - numOf i)
  case atStart => exact ⟨0, rfl, by omega, rfl, rfl⟩
  case round =>
    obtain ⟨k, rfl, hk, rfl, rfl⟩ := hrel
    by_cases hlt : k < n
    · obtain ⟨b1, o1, rfl, c0, c1⟩ := cm_at HC.out (show k < L.length by rw [EN.out]; exact hlt)
      have HT := hid (take_one L (k := k) (by rw [EN.out]; exact hlt))
      have e2 : IntKind.i64.wrap ((k : Int) + 1) = (k : Int) + 1 := by rw [IntKind.wrap_i64]; omega
      clear hn
      by_cases hgt : mostF (L.take k) < (cm L k).1
      · go_wp2
        go_roundw
        case rel => exact ⟨k + 1, by go_num, by omega, trivial, by rw [HT.out, most_snoc, Int.max_eq_right (by omega)]⟩
        case measure => simp [numOf]; omega
      · go_wp2
        go_roundw
        case rel => exact ⟨k + 1, by go_num, by omega, trivial, by rw [HT.out, most_snoc, Int.max_eq_left (by omega)]⟩
        case measure => simp [numOf]; omega
    · obtain rfl : k = n := by omega
      have e : L.take k = L := List.take_of_length_le (by rw [EN.out]; omega)
      rw [e]
      clear hn
      go_wp2
      go_ret
      exact Gives.refl rfl
theorem RSum_any (bw : Nat) (L : List Cm) (hL : OkL L) (w : World) (h : RefR w bw L) :
    Calls Try.prog 25 #[.pointer (some ⟨bw, 0, none⟩)] w (Gives (.int .u64 (totF L)) w) := by
  obtain ⟨A, c, q, hc⟩ := h
  obtain ⟨n, en⟩ : ∃ n, L.length = n := ⟨_, rfl⟩
  rw [en] at q
  have hn : (n : Int) ≤ 1099511627776 := by have := cnt_nonneg hL.each; have := hL.most; omega
  have EN := hid en
  have HC := hid hc
  have HL := hid hL
  have Q := hid q
  clear en hc hL
  go_enter Try.func25, Try.ntmps25
  go_wp2
  clear q
  go_loopw [3, 4] (fun s i wr => ∃ (k : Nat) (x : Past), i = .int .i64 k ∧ k ≤ n ∧ wr = w.past x ∧ s = .int .u64 (totF (L.take k))) (fun _ i _ => n - numOf i)
  case atStart => exact ⟨0, _, rfl, by omega, World.past_refl w, rfl⟩
  case round =>
    obtain ⟨k, x, rfl, hk, rfl, rfl⟩ := hrel
    have q := Q.out
    by_cases hlt : k < n
    · obtain ⟨b1, o1, eA, c0, c1⟩ := cm_at HC.out (show k < L.length by rw [EN.out]; exact hlt)
      subst eA
      have HT := hid (take_one L (k := k) (by rw [EN.out]; exact hlt))
      have HX := cm_in HL.out (k := k) (by rw [EN.out]; exact hlt)
      have ok := ok_take HL.out (k + 1)
      have k0 := cnt_nonneg (ok_take HL.out k).each
      have k1 := ok.most
      rw [HT.out, cnt_snoc] at k1
      have hu : U64 (cm L k).2 := by unfold U64; omega
      have e3 : IntKind.u64.wrap (cm L k).2 = (cm L k).2 := by rw [IntKind.wrap_u64]; unfold U64 at hu; omega
      have HM := hid (fun w => RMul_any (cm L k).1 (cm L k).2 HX.1 hu w)
      have HMW : U64 (mulF (cm L k).1 (cm L k).2) := by unfold mulF loF top64; split <;> (unfold U64; omega)
      have HA := hid (fun w => RAdd_any (totF (L.take k)) (mulF (cm L k).1 (cm L k).2) (sum_u64 _) HMW w)
      have e2 : IntKind.i64.wrap ((k : Int) + 1) = (k : Int) + 1 := by rw [IntKind.wrap_i64]; omega
      clear ok k0 k1 hu hn HX HMW
      go_wp2_with fail
      refine wp_region_past (by kernel_rfl) (by kernel_rfl) ?_
      repeat (go_big_quiet_step ((first | (go_at_call 32; first | with_reducible exact Calls.in_past (HM.out _) | with_reducible exact Calls.in_past2 (HM.out _)) | (go_at_call 32; first | exact Calls.in_past (HM.out _) | exact Calls.in_past2 (HM.out _)))))
      refine wpQuiet_nil ?_
      rintro _ ⟨_, rfl⟩
      go_wp2_with (go_at_call 33; refine (HA.out _).mono ?_; rintro _ _ ⟨rfl, _, rfl⟩)
      go_roundw
      case rel => exact ⟨k + 1, _, by go_num, by omega, rfl, by rw [HT.out, sum_snoc]⟩
      case measure => simp [numOf]; omega
    · obtain rfl : k = n := by omega
      have e : L.take k = L := List.take_of_length_le (by rw [EN.out]; omega)
      rw [e]
      clear hn
      go_wp2
      go_ret
      exact Gives.mk rfl (World.below_past _ _)
theorem top_step (k : Nat) (hk : k < 64) : IntKind.u64.wrap (IntKind.u64.wrap (((2 : Int) ^ k - 1) * 2) + 1) = (2 : Int) ^ (k + 1) - 1 := by
  have key : ∀ k : Fin 64, IntKind.u64.wrap (IntKind.u64.wrap (((2 : Int) ^ k.val - 1) * 2) + 1) = (2 : Int) ^ (k.val + 1) - 1 := by decide +kernel
  exact key ⟨k, hk⟩
theorem top_any (p : Nat) (hp : p ≤ 64) (w : World) : Calls Try.prog 31 #[.int .i64 p] w (Gives (.int .u64 ((2 : Int) ^ p - 1)) w) := by
  go_enter Try.func31, Try.ntmps31
  go_wp2
  go_loopw [3, 4] (fun s i wr => ∃ (k : Nat) (y : Int), i = .int .i64 k ∧ k ≤ p ∧ wr = w ∧ s = .int .u64 y ∧ Hid ((2 : Int) ^ k - 1 = y)) (fun _ i _ => p - numOf i)
  case atStart => exact ⟨0, 0, rfl, by omega, rfl, rfl, hid (by simp)⟩
  case round =>
    obtain ⟨k, y, rfl, hk, rfl, rfl, HY⟩ := hrel
    by_cases hlt : k < p
    · have hs := top_step k (by omega)
      rw [HY.out] at hs
      have e2 : IntKind.i64.wrap ((k : Int) + 1) = (k : Int) + 1 := by rw [IntKind.wrap_i64]; omega
      generalize ez : (2 : Int) ^ (k + 1) - 1 = z at hs
      have EZ := hid ez
      clear ez
      go_wp2
      go_roundw
      case rel => exact ⟨k + 1, z, by go_num, by omega, trivial, by first | rfl | rw [hs], EZ⟩
      case measure => simp [numOf]; omega
    · obtain rfl : k = p := by omega
      go_wp2
      go_ret
      exact Gives.refl (by rw [HY.out]; rfl)
end Go.Proofs.Ytccfamagckgamaa
