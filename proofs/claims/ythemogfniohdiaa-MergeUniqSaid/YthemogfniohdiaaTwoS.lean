/-
  Layer 32: two lists of strings, brought into one: the iterator's contract. No condition.
-/
import Derived.Test.YthemogfniohdiaaTwoI
namespace Go.Proofs.Ythemogfniohdiaa
open Go.RowKit Go.Shelf
attribute [local go_sem] Oper.semAt_some
def strs (l : List ByteArray) : List Value := l.map Value.string
theorem strs_length (l : List ByteArray) : (strs l).length = l.length := by simp [strs]
theorem strs_snoc (l : List ByteArray) (x : ByteArray) : strs l ++ [.string x] = strs (l ++ [x]) := by simp [strs]
def atS (l : List ByteArray) (i : Nat) : ByteArray := l[i]?.getD ⟨#[]⟩
theorem str_at {w : World} {A : Option Addr} {l : List ByteArray} (h : Cells w A (strs l)) {k : Nat} (hk : k < l.length) : ∃ b off : Nat, A = some ⟨b, off, none⟩ ∧ w.cell? ⟨b, off + k, none⟩ = some (.string (atS l k)) := by
  obtain ⟨b, off, e, hc⟩ := h.at (k := k) (by simpa [strs] using hk)
  refine ⟨b, off, e, ?_⟩
  rw [hc]
  simp [strs, atS, List.getElem?_eq_getElem hk]
/-! At this type. -/
def ltS (a b : ByteArray) : Bool := Op.bytesLess a.toList b.toList
theorem nanS_any (a : ByteArray) (w : World) : Calls Try.prog 30 #[.string a] w (fun e w' => e = .returned (.bool false) ∧ w' = w) := by
  go_enter Try.func30, Try.ntmps30
  go_wp2
  go_ret
  exact ⟨by simp, rfl⟩
set_option maxHeartbeats 1000000 in
theorem lessS_any (a b : ByteArray) (w : World) : Calls Try.prog 27 #[.string a, .string b] w (fun e w' => e = .returned (.bool (ltS a b)) ∧ w' = w) := by
  rcases Bool.eq_false_or_eq_true (ltS a b) with h | h
  all_goals
    have h' : Op.bytesLess a.toList b.toList = _ := h
    go_enter Try.func27, Try.ntmps27
    go_wp2_with (go_at_call 30; refine (nanS_any _ _).mono ?_; rintro _ _ ⟨rfl, rfl⟩)
    go_ret
    exact ⟨by rw [h]; first | rfl | simp [h'], rfl⟩
set_option maxRecDepth 100000 in
set_option maxHeartbeats 4000000 in
theorem two1S_in (n : Nat) (hn : 1 ≤ n) (l : Nat) (w0 : World) (Ba Bb : Nat) (A B : Option Addr) (ca cb na nb : Nat) (a b : List ByteArray) (ea : a.length = na) (eb : b.length = nb)
    (hBa : w0.cell? ⟨Ba, 0, none⟩ = some (.slice A na ca)) (hBb : w0.cell? ⟨Bb, 0, none⟩ = some (.slice B nb cb)) (ha : Cells w0 A (strs a)) (hb : Cells w0 B (strs b)) (hla : na ≤ 100000) (hlb : nb ≤ 100000) (J Jx : List ByteArray → World → Prop)
    (hY : ∀ pre x W, J pre W → pre.length < na + nb → YieldAt Fence.wide (n - 1) Try.prog l #[.string x] W fun e W' =>
      (e = .returned (.bool true) ∧ J (pre ++ [x]) W' ∧ Below w0.heap.size W W') ∨ (e = .returned (.bool false) ∧ Jx (pre ++ [x]) W'))
    (W : World) (hW : Below w0.heap.size w0 W) (h0 : J [] W) :
    CallsIn Fence.wide n Try.prog 26 #[.func (.yield l) #[] #[], .pointer (some ⟨Ba, 0, none⟩), .pointer (some ⟨Bb, 0, none⟩)] W fun e W' => (∃ v, e = .returned v) ∧
      ((∃ ys, ys = mergeF ltS a b ∧ J ys W') ∨ (∃ pre, pre <+: mergeF ltS a b ∧ Jx pre W')) := by
  have HW := hid hW
  have EA := hid ea
  have EB := hid eb
  have HBA := hid (fun W' (h : Below w0.heap.size w0 W') => below_cell h (Nat.le_refl _) _ _ hBa)
  have HBB := hid (fun W' (h : Below w0.heap.size w0 W') => below_cell h (Nat.le_refl _) _ _ hBb)
  have HA := hid ha
  have HB := hid hb
  have cba := HBA.out W hW
  have cbb := HBB.out W hW
  clear ea eb hBa hBb ha hb hW
  refine callsIn_of_wp Try.func26 rfl trivial ?_ rfl
  simp only [Try.ntmps26, List.size_toArray, List.length_cons, List.length_nil, Nat.reduceAdd, Nat.reduceSub, Array.replicate_succ, Array.replicate_zero, List.push_toArray, List.append_toArray, List.nil_append, List.cons_append]
  gi_wp2
  clear cba cbb
  gi_loopw [4, 9] (fun kv iv wr => ∃ (i k : Nat) (pre : List ByteArray), kv = .int .i64 k ∧ iv = .int .i64 i ∧ i ≤ na ∧ k ≤ nb ∧ J pre wr ∧ Hid (Below w0.heap.size w0 wr) ∧ Hid (mergeF ltS a b = pre ++ mergeF ltS (a.drop i) (b.drop k)) ∧ Hid (pre.length = i + k))
    (fun _ iv _ => na - (intOf iv).toNat)
  case atStart => exact ⟨0, 0, [], rfl, rfl, by omega, by omega, h0, HW, hid (by simp), hid rfl⟩
  case round =>
    clear h0 HW
    obtain ⟨i, k, pre, rfl, rfl, hi, hk, hJ, HBel, HM, HL⟩ := hrel
    by_cases hlt : i < na
    · have haW := HA.out.below HBel.out
      obtain ⟨b1, o1, rfl, hcx⟩ := str_at haW (show i < a.length by rw [EA.out]; exact hlt)
      have hax : a.drop i = atS a i :: a.drop (i + 1) := drop_cons (by simp [atS, show i < a.length by rw [EA.out]; exact hlt])
      obtain ⟨x, ex⟩ : ∃ x, atS a i = x := ⟨_, rfl⟩
      rw [ex] at hcx hax
      rw [hax] at HM
      have HAX := hid hax
      clear haW ex hax
      gi_wp2
      gi_loopw [4] (fun kv wr => ∃ (k : Nat) (pre : List ByteArray), kv = .int .i64 k ∧ k ≤ nb ∧ J pre wr ∧ Hid (Below w0.heap.size w0 wr) ∧ Hid (mergeF ltS a b = pre ++ mergeF ltS (x :: a.drop (i + 1)) (b.drop k)) ∧ Hid (pre.length = i + k))
        (fun kv _ => nb - (intOf kv).toNat)
      case atStart => exact ⟨k, pre, rfl, hk, hJ, HBel, HM, HL⟩
      case round =>
        clear hJ HBel HM HL hk hcx
        obtain ⟨k, pre, rfl, hk, hJ, HBel, HM, HL⟩ := hrel
        have cbb := HBB.out wr HBel.out
        obtain ⟨fx, tx, asx, bdx, hyx, hRx⟩ := hY pre x wr hJ (by rw [HL.out]; omega)
        by_cases hkb : k < nb
        · have hbW := HB.out.below HBel.out
          obtain ⟨b2, o2, rfl, hcy⟩ := str_at hbW (show k < b.length by rw [EB.out]; exact hkb)
          have hby : b.drop k = atS b k :: b.drop (k + 1) := drop_cons (by simp [atS, show k < b.length by rw [EB.out]; exact hkb])
          obtain ⟨y, ey⟩ : ∃ y, atS b k = y := ⟨_, rfl⟩
          rw [ey] at hcy hby
          rw [hby] at HM
          have HBY := hid hby
          have hless := lessS_any y x
          clear hbW ey hby
          rcases Bool.eq_false_or_eq_true (ltS y x) with hl | hl
          · have hm := HM.out
            rw [merge_hi _ _ hl] at hm
            rw [hl] at hless
            have HLS := hid hless
            have HM2 := hid (show mergeF ltS a b = (pre ++ [y]) ++ mergeF ltS (x :: a.drop (i + 1)) (b.drop (k + 1)) by
              rw [HM.out, merge_hi _ _ hl]; simp)
            obtain ⟨fy, ty, asy, bdy, hyy, hRy⟩ := hY pre y wr hJ (by rw [HL.out]; omega)
            clear hm hless HM hyx hRx
            gi_wp2_with (refine ⟨trivial, ?_⟩; gi_at_call 27; refine (callsIn_wide.2 (HLS.out _)).mono ?_; rintro e w' ⟨rfl, rfl⟩)
            clear hyy
            refine hRy.mono ?_
            rintro e W3 (⟨rfl, hJ3, hk3⟩ | ⟨rfl, hJx3⟩)
            · gi_wp2
              go_roundw
              case rel => exact ⟨k + 1, pre ++ [y], by go_num, by omega, hJ3, hid (HBel.out.trans hk3), HM2, hid (by rw [List.length_append, HL.out]; simp; omega)⟩
              case measure => simp [intOf]; omega
            · gi_wp2
              refine bodyPost_ret (results_none rfl _ _ _) rfl ?_
              exact ⟨⟨_, rfl⟩, .inr ⟨pre ++ [y], ⟨_, HM2.out.symm⟩, hJx3⟩⟩
          · rw [hl] at hless
            have HLS := hid hless
            have HM2 := hid (show mergeF ltS a b = (pre ++ [x]) ++ mergeF ltS (a.drop (i + 1)) (b.drop k) by
              rw [HM.out, merge_lo _ _ hl, HBY.out]; simp)
            clear hless HM
            gi_wp2_with (refine ⟨trivial, ?_⟩; gi_at_call 27; refine (callsIn_wide.2 (HLS.out _)).mono ?_; rintro e w' ⟨rfl, rfl⟩)
            clear hyx
            refine hRx.mono ?_
            rintro e W3 (⟨rfl, hJ3, hk3⟩ | ⟨rfl, hJx3⟩)
            · gi_wp2
              go_roundw
              case rel => exact ⟨i + 1, k, pre ++ [x], rfl, by go_num, by omega, by omega, hJ3, hid (HBel.out.trans hk3), HM2, hid (by rw [List.length_append, HL.out]; simp; omega)⟩
              case measure => simp [intOf]; omega
            · gi_wp2
              refine bodyPost_ret (results_none rfl _ _ _) rfl ?_
              exact ⟨⟨_, rfl⟩, .inr ⟨pre ++ [x], ⟨_, HM2.out.symm⟩, hJx3⟩⟩
        · obtain rfl : k = nb := by omega
          have hbn : b.drop k = [] := by rw [← EB.out]; exact List.drop_length
          rw [hbn] at HM
          have HM2 := hid (show mergeF ltS a b = (pre ++ [x]) ++ mergeF ltS (a.drop (i + 1)) (b.drop k) by
            rw [HM.out, merge_one, hbn]; simp)
          clear hbn HM
          gi_wp2
          refine ⟨trivial, ?_⟩
          gi_wp2
          clear hyx
          refine hRx.mono ?_
          rintro e W3 (⟨rfl, hJ3, hk3⟩ | ⟨rfl, hJx3⟩)
          · gi_wp2
            go_roundw
            case rel => exact ⟨i + 1, k, pre ++ [x], rfl, by go_num, by omega, by omega, hJ3, hid (HBel.out.trans hk3), HM2, hid (by rw [List.length_append, HL.out]; simp; omega)⟩
            case measure => simp [intOf]; omega
          · gi_wp2
            refine bodyPost_ret (results_none rfl _ _ _) rfl ?_
            exact ⟨⟨_, rfl⟩, .inr ⟨pre ++ [x], ⟨_, HM2.out.symm⟩, hJx3⟩⟩
    · obtain rfl : i = na := by omega
      have han : a.drop i = [] := by rw [← EA.out]; exact List.drop_length
      rw [han, merge_zero] at HM
      have cbb := HBB.out wr HBel.out
      clear han
      gi_wp2
      clear cbb
      gi_loopw [4] (fun kv wr => ∃ (k : Nat) (pre : List ByteArray), kv = .int .i64 k ∧ k ≤ nb ∧ J pre wr ∧ Hid (Below w0.heap.size w0 wr) ∧ Hid (mergeF ltS a b = pre ++ b.drop k) ∧ Hid (pre.length = i + k))
        (fun kv _ => nb - (intOf kv).toNat)
      case atStart => exact ⟨k, pre, rfl, hk, hJ, HBel, HM, HL⟩
      case round =>
        clear hJ HBel HM HL hk
        obtain ⟨k, pre, rfl, hk, hJ, HBel, HM, HL⟩ := hrel
        have cbb := HBB.out wr HBel.out
        by_cases hkb : k < nb
        · have hbW := HB.out.below HBel.out
          obtain ⟨b2, o2, rfl, hcy⟩ := str_at hbW (show k < b.length by rw [EB.out]; exact hkb)
          have hby : b.drop k = atS b k :: b.drop (k + 1) := drop_cons (by simp [atS, show k < b.length by rw [EB.out]; exact hkb])
          obtain ⟨y, ey⟩ : ∃ y, atS b k = y := ⟨_, rfl⟩
          rw [ey] at hcy hby
          have HM2 := hid (show mergeF ltS a b = (pre ++ [y]) ++ b.drop (k + 1) by rw [HM.out, hby]; simp)
          obtain ⟨fy, ty, asy, bdy, hyy, hRy⟩ := hY pre y wr hJ (by rw [HL.out]; omega)
          clear hbW ey hby HM
          gi_wp2
          clear hyy
          refine hRy.mono ?_
          rintro e W3 (⟨rfl, hJ3, hk3⟩ | ⟨rfl, hJx3⟩)
          · gi_wp2
            go_roundw
            case rel => exact ⟨k + 1, pre ++ [y], by go_num, by omega, hJ3, hid (HBel.out.trans hk3), HM2, hid (by rw [List.length_append, HL.out]; simp; omega)⟩
            case measure => simp [intOf]; omega
          · gi_wp2
            refine bodyPost_ret (results_none rfl _ _ _) rfl ?_
            exact ⟨⟨_, rfl⟩, .inr ⟨pre ++ [y], ⟨_, HM2.out.symm⟩, hJx3⟩⟩
        · obtain rfl : k = nb := by omega
          have hbn : b.drop k = [] := by rw [← EB.out]; exact List.drop_length
          have HM2 := hid (show mergeF ltS a b = pre by rw [HM.out, hbn]; simp)
          clear hbn
          gi_wp2
          go_end0
          exact ⟨⟨_, rfl⟩, .inl ⟨pre, HM2.out.symm, hJ⟩⟩
end Go.Proofs.Ythemogfniohdiaa
