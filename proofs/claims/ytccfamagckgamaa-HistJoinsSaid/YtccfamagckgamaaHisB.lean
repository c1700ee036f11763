/-
  Layer 34: a number that so many aren't above. No condition.
-/
import Derived.Test.YtccfamagckgamaaHisA
namespace Go.Proofs.Ytccfamagckgamaa
open Go.RowKit
def numOf : Value → Nat | .int _ z => z.toNat | _ => 0
def prefF (L : List Cm) : Nat → Int
  | 0 => 0
  | k + 1 => prefF L k + atF L k
def findK (L : List Cm) (need : Int) : Nat → Option Nat
  | 0 => none
  | k + 1 => match findK L need k with
    | some j => some j
    | none => if need ≤ prefF L (k + 1) then some k else none
def needF (L : List Cm) (part parts : Int) : Int := (cntF L * part + parts - 1) / parts
def badF (L : List Cm) (part parts : Int) : Prop := cntF L = 0 ∨ parts < 1 ∨ 1048576 < parts ∨ part < 0 ∨ parts < part
instance (L : List Cm) (part parts : Int) : Decidable (badF L part parts) := by unfold badF; infer_instance
def belowF (L : List Cm) (part parts : Int) : Int × Bool :=
  if badF L part parts then (0, false) else match findK L (needF L part parts) 65 with
    | some k => ((2 : Int) ^ k - 1, true)
    | none => (0, false)
theorem index_run (arr : List Value) (k : Nat) (hk : k < 65) (x : Int) (h : arr[k]? = some (.int .i64 x)) (w : World) : (Instr.index 52 (.agg arr.toArray) (.int .i64 k)).run Try.prog w = .ok (.int .i64 x) w := by
  have h1 : (k : Int) < 65 := by omega
  simp [Instr.index, part, run_underlying Try.underlying52, asIntOf, go_sem, h1, h]
  omega
theorem pref_range {L : List Cm} (h : ∀ x ∈ L, U64 x.1 ∧ 1 ≤ x.2) : ∀ k, 0 ≤ prefF L k ∧ prefF L k ≤ k * cntF L := by
  intro k
  induction k with
  | zero => simp [prefF]
  | succ k ih =>
    have := at_range h k
    rw [prefF, Int.natCast_add, Int.add_mul]
    omega
theorem findK_some {L : List Cm} {need : Int} {j : Nat} : ∀ {k m : Nat}, findK L need k = some j → k ≤ m → findK L need m = some j := by
  intro k m h hkm
  induction m with
  | zero =>
    obtain rfl : k = 0 := by omega
    exact h
  | succ m ih =>
    by_cases e : k = m + 1
    · subst e; exact h
    · rw [findK, ih (by omega)]
theorem shl_one (k : Nat) (hk : k ≤ 64) : IntKind.u64.wrap (IntKind.u64.wrap ((2 : Int) ^ k) - 1) = (2 : Int) ^ k - 1 := by
  have key : ∀ k : Fin 65, IntKind.u64.wrap (IntKind.u64.wrap ((2 : Int) ^ k.val) - 1) = (2 : Int) ^ k.val - 1 := by decide +kernel
  exact key ⟨k, by omega⟩
set_option maxRecDepth 20000 in
set_option maxHeartbeats 1000000 in
theorem Below_any (b : Nat) (L : List Cm) (hL : OkL L) (part parts : Int) (hp : I64 part) (hps : I64 parts) (w : World) (h : HisAt w b L) :
    Calls Try.prog 9 #[.pointer (some ⟨b, 0, none⟩), .int .i64 part, .int .i64 parts] w (Gives (.tuple #[.int .u64 (belowF L part parts).1, .bool (belowF L part parts).2]) w) := by
  have c0 := cnt_nonneg hL.each
  have c1 := hL.most
  have HC := hid (Count_any b L w h)
  by_cases hbad : badF L part parts
  · have hr : belowF L part parts = (0, false) := by unfold belowF; rw [if_pos hbad]
    rw [hr]
    unfold badF at hbad
    clear h hr hL hp hps
    by_cases g0 : cntF L = 0
    · go_enter Try.func9, Try.ntmps9
      go_wp2_with (go_at_call 17; refine HC.out.mono ?_; rintro _ _ ⟨rfl, x1, rfl⟩)
      go_ret2
      exact Gives.mk rfl (World.below_past _ _)
    · by_cases g1 : parts < 1
      · go_enter Try.func9, Try.ntmps9
        go_wp2_with (go_at_call 17; refine HC.out.mono ?_; rintro _ _ ⟨rfl, x1, rfl⟩)
        go_ret2
        exact Gives.mk rfl (World.below_past _ _)
      · by_cases g2 : 1048576 < parts
        · go_enter Try.func9, Try.ntmps9
          go_wp2_with (go_at_call 17; refine HC.out.mono ?_; rintro _ _ ⟨rfl, x1, rfl⟩)
          go_ret2
          exact Gives.mk rfl (World.below_past _ _)
        · by_cases g3 : part < 0
          · go_enter Try.func9, Try.ntmps9
            go_wp2_with (go_at_call 17; refine HC.out.mono ?_; rintro _ _ ⟨rfl, x1, rfl⟩)
            go_ret2
            exact Gives.mk rfl (World.below_past _ _)
          · have g4 : parts < part := by omega
            go_enter Try.func9, Try.ntmps9
            go_wp2_with (go_at_call 17; refine HC.out.mono ?_; rintro _ _ ⟨rfl, x1, rfl⟩)
            go_ret2
            exact Gives.mk rfl (World.below_past _ _)
  · obtain ⟨r, er⟩ : ∃ r, belowF L part parts = r := ⟨_, rfl⟩
    have hr : r = match findK L (needF L part parts) 65 with
      | some k => ((2 : Int) ^ k - 1, true)
      | none => (0, false) := by rw [← er]; unfold belowF; rw [if_neg hbad]
    rw [er]
    unfold badF at hbad
    have g0 : ¬ cntF L = 0 := fun c => hbad (.inl c)
    have g0' : (cntF L == 0) = false := by simpa using g0
    have g1 : ¬ parts < 1 := fun c => hbad (.inr (.inl c))
    have g2 : ¬ 1048576 < parts := fun c => hbad (.inr (.inr (.inl c)))
    have g3 : ¬ part < 0 := fun c => hbad (.inr (.inr (.inr (.inl c))))
    have g4 : ¬ parts < part := fun c => hbad (.inr (.inr (.inr (.inr c))))
    have b1 : 0 ≤ cntF L * part := Int.mul_nonneg (by omega) (by omega)
    have b2 : cntF L * part ≤ 1099511627776 * 1048576 := by
      have h1 := Int.mul_le_mul_of_nonneg_right c1 (show 0 ≤ part by omega)
      have h2 := Int.mul_le_mul_of_nonneg_left (show part ≤ 1048576 by omega) (show (0 : Int) ≤ 1099511627776 by omega)
      omega
    have e1 : IntKind.i64.wrap (cntF L * part) = cntF L * part := by rw [IntKind.wrap_i64]; omega
    have e2 : IntKind.i64.wrap (cntF L * part + parts) = cntF L * part + parts := by rw [IntKind.wrap_i64]; omega
    have e3 : IntKind.i64.wrap (cntF L * part + parts - 1) = cntF L * part + parts - 1 := by rw [IntKind.wrap_i64]; omega
    obtain ⟨need, hnd⟩ : ∃ need, needF L part parts = need := ⟨_, rfl⟩
    have b3 : 0 ≤ need ∧ need ≤ cntF L * part + parts := by
      rw [← hnd]; unfold needF
      refine ⟨Int.ediv_nonneg (by omega) (by omega), ?_⟩
      have := Int.ediv_le_self parts (show 0 ≤ cntF L * part + parts - 1 by omega)
      omega
    have e4 : wrap64 ((cntF L * part + parts - 1).tdiv parts) = need := by
      rw [Int.tdiv_eq_ediv_of_nonneg (by omega), show (cntF L * part + parts - 1) / parts = need from hnd]
      unfold wrap64
      omega
    rw [hnd] at hr
    have q := h.cnt
    have hpos : ¬ parts = 0 := by omega
    have HRR := hid hr
    have hrow : ∀ x, (w.past x).rangeAt b 0 (cts L) := fun x j v hj => by
      have hlt : j < 65 := by rw [← cts_length L]; exact (List.getElem?_eq_some_iff.1 hj).1
      have := HisAt.ct (Rec.past h x) hlt
      simp [cts, hlt] at hj
      rw [Nat.zero_add, this, hj]
    have HROW := hid hrow
    have HL := hid hL
    clear h hr hL hp hps hbad hnd b1 b2 b3 hrow
    go_enter Try.func9, Try.ntmps9
    go_wp2_with (first | (go_at_call 17; refine HC.out.mono ?_; rintro _ _ ⟨rfl, x1, rfl⟩) | (refine wpList_load_mid rfl 52 _ rfl b 0 rfl (cts L) _ (HROW.out _) Try.underlying52 rfl (by rw [cts_length]; kernel_rfl) ?_))
    clear e1 e2 e3 e4 q g0 g0' g1 g2 g3 g4 hpos HROW HC
    obtain ⟨arr, earr⟩ : ∃ arr, cts L = arr := ⟨_, rfl⟩
    have HARR := hid (fun k (hk : k < 65) => (by rw [← earr]; simp [cts, hk] : arr[k]? = some (.int .i64 (atF L k))))
    have hal : arr.length = 65 := by rw [← earr]; exact cts_length L
    rw [earr]
    clear earr
    go_loopw [9, 47] (fun n i wr => ∃ (k : Nat), i = .int .i64 k ∧ n = .int .i64 (prefF L k) ∧ k ≤ 65 ∧ wr = w.past x1 ∧ Hid (findK L need k = none)) (fun _ i _ => 65 - numOf i)
    case atStart => exact ⟨0, rfl, rfl, by omega, rfl, hid rfl⟩
    case round =>
      obtain ⟨k, rfl, rfl, hk, rfl, HF⟩ := hrel
      by_cases hlt : k < 65
      · have hix := index_run arr k hlt _ (HARR.out k hlt)
        have h1 := pref_range HL.out.each k
        have h2 := pref_range HL.out.each (k + 1)
        have h3 : ((k + 1 : Nat) : Int) * cntF L ≤ 65 * 1099511627776 := by
          have h4 := Int.mul_le_mul_of_nonneg_left c1 (show 0 ≤ ((k + 1 : Nat) : Int) by omega)
          have h5 := Int.mul_le_mul_of_nonneg_right (show ((k + 1 : Nat) : Int) ≤ 65 by omega) (show (0 : Int) ≤ 1099511627776 by omega)
          omega
        have hpe : prefF L (k + 1) = prefF L k + atF L k := rfl
        have w5 : IntKind.i64.wrap (prefF L k + atF L k) = prefF L (k + 1) := by rw [IntKind.wrap_i64, hpe]; rw [hpe] at h2; omega
        by_cases hn : need ≤ prefF L (k + 1)
        · have hf : findK L need 65 = some k := findK_some (k := k + 1) (by rw [findK, HF.out, if_pos hn]) (by omega)
          have hRR : r = ((2 : Int) ^ k - 1, true) := by rw [HRR.out, hf]
          have HR2 := hid hRR
          have HSH := hid (shl_one k (by omega))
          clear hf hRR HRR h1 h2 h3 hpe HARR HF HL c0 c1
          go_wp2
          go_ret2
          refine Gives.mk ?_ (World.below_past _ _)
          show Value.tuple #[.int .u64 (IntKind.u64.wrap (IntKind.u64.wrap ((2 : Int) ^ k) - 1)), .bool true] = _
          rw [HSH.out, HR2.out]
        · have hf : findK L need (k + 1) = none := by rw [findK, HF.out, if_neg hn]
          have HF2 := hid hf
          clear hf HRR h1 h2 h3 hpe HARR HF HL c0 c1
          go_wp2
          go_roundw
          case rel => exact ⟨k + 1, by go_num, rfl, by omega, trivial, HF2⟩
          case measure => simp [numOf]; omega
      · obtain rfl : k = 65 := by omega
        have hRR : r = (0, false) := by rw [HRR.out, HF.out]
        have HR2 := hid hRR
        clear hRR HRR HARR HF HL c0 c1
        go_wp2
        go_ret2
        exact Gives.mk (by rw [HR2.out]; rfl) (World.below_past _ _)
end Go.Proofs.Ytccfamagckgamaa
