/-
  Layer 32: the first ones of two lists of ints, brought into one. No condition.
-/
import Derived.Test.YthemogfniohdiaaTwoI
import Derived.Test.YthemogfniohdiaaBoxA
import Derived.Test.YthemogfniohdiaaFixq
namespace Go.Proofs.Ythemogfniohdiaa
open Go.RowKit Go.Shelf
attribute [local go_sem] Oper.semAt_some
theorem info_i64 : (Try.prog.info? 3).map (fun i => (i.zero, i.size, i.bytes)) = some (some (.int .i64 0), 1, 8) := by kernel_rfl
theorem two_stops (n : Nat) (hn : 1 ≤ n) (w0 w : World) (Ba Bb : Nat) (A B : Option Addr) (ca cb na nb : Nat) (a b : List Int) (ea : a.length = na) (eb : b.length = nb)
    (hBa : w0.cell? ⟨Ba, 0, none⟩ = some (.slice A na ca)) (hBb : w0.cell? ⟨Bb, 0, none⟩ = some (.slice B nb cb)) (ha : Cells w0 A (i64s a)) (hb : Cells w0 B (i64s b)) (hla : na ≤ 100000) (hlb : nb ≤ 100000) (hw : Below w0.heap.size w0 w) :
    SeqStopsK Fence.wide n Try.prog 20 #[.pointer (some ⟨Ba, 0, none⟩), .pointer (some ⟨Bb, 0, none⟩)] (fun x : Int => #[Value.int .i64 x]) (Below w0.heap.size) (fun ys => ys = mergeF ltI a b) (fun pre => pre <+: mergeF ltI a b) (na + nb) w := fun l J Jx W hW _ _ hY h0 =>
  two1_in n hn l w0 Ba Bb A B ca cb na nb a b ea eb hBa hBb ha hb hla hlb J Jx hY W (hw.trans (hW.mono hw.size)) h0
def takeF {α : Type} (xs : List α) (n : Int) : List α := if n < 1 then [] else xs.take n.toNat
set_option maxRecDepth 100000 in
set_option maxHeartbeats 4000000 in
theorem First_two (w0 w : World) (Ba Bb : Nat) (A B : Option Addr) (ca cb na nb : Nat) (a b : List Int) (ea : a.length = na) (eb : b.length = nb)
    (hBa : w0.cell? ⟨Ba, 0, none⟩ = some (.slice A na ca)) (hBb : w0.cell? ⟨Bb, 0, none⟩ = some (.slice B nb cb)) (ha : Cells w0 A (i64s a)) (hb : Cells w0 B (i64s b)) (hla : na ≤ 100000) (hlb : nb ≤ 100000) (hw : Below w0.heap.size w0 w) (k : Int) :
    Calls Try.prog 11 #[.func (.func 20) #[] #[.pointer (some ⟨Ba, 0, none⟩), .pointer (some ⟨Bb, 0, none⟩)], .int .i64 k] w (GivesOwn 3 1 (takeF (mergeF ltI a b) k).length (i64s (takeF (mergeF ltI a b) k)) w) := by
  by_cases hk : k < 1
  · have hf : takeF (mergeF ltI a b) k = [] := by simp [takeF, hk]
    rw [hf]
    clear hf
    refine (callsIn_wide (n := 5)).1 ?_
    refine callsIn_of_wp_marks Try.func11 rfl trivial ?_ rfl
    simp only [Try.ntmps11, List.size_toArray, List.length_cons, List.length_nil, Nat.reduceAdd, Nat.reduceSub, Array.replicate_succ, Array.replicate_zero, List.push_toArray, List.append_toArray, List.nil_append, List.cons_append]
    gi_wp2
    refine ⟨_, results_tmp rfl _ _ _, none, 0, rfl, ?_, World.ownsRow_nil _ _ _ _⟩
    exact ((Below.refl _ w).alloc (Nat.le_refl _) _).alloc (by simp) _
  · obtain ⟨i0, hi, hz0, hz1, hz2⟩ := info_parts info_i64
    refine (callsIn_wide (n := 5)).1 ?_
    refine callsIn_of_wp_marks Try.func11 rfl trivial ?_ rfl
    simp only [Try.ntmps11, List.size_toArray, List.length_cons, List.length_nil, Nat.reduceAdd, Nat.reduceSub, Array.replicate_succ, Array.replicate_zero, List.push_toArray, List.append_toArray, List.nil_append, List.cons_append]
    gi_wp2
    have bN := Boxed.new w 3 (.int .i64 k)
    have bO := Boxed.new (w.alloc (.cells #[.int .i64 k] 3)) 22 (.slice none 0 0)
    rw [World.size_alloc] at bO
    have hB0 : Below w.heap.size w ((w.alloc (.cells #[.int .i64 k] 3)).alloc (.cells #[.slice none 0 0] 22)) := ((Below.refl _ w).alloc (Nat.le_refl _) _).alloc (by simp) _
    obtain ⟨wL, eL⟩ : ∃ wL, wL = ((w.alloc (.cells #[.int .i64 k] 3)).alloc (.cells #[.slice none 0 0] 22)) := ⟨_, rfl⟩
    have bN2 := bN.alloc (.cells #[.slice none 0 0] 22)
    have hsz : wL.heap.size = w.heap.size + 2 := by rw [eL]; simp
    rw [← eL] at bO hB0 bN2 ⊢
    have hb : Below w0.heap.size w0 wL := hw.trans (hB0.mono hw.size)
    have hs0 := hw.size
    clear bN eL
    refine wpIn_rangeFunc_ownG rfl (by omega) (gf := 20) (lb := #[.pointer (some ⟨Ba, 0, none⟩), .pointer (some ⟨Bb, 0, none⟩)]) rfl trivial (enters_of Try.func20 (by kernel_rfl) rfl)
      (two_stops (5 - 1) (by omega) w0 wL Ba Bb A B ca cb na nb a b ea eb hBa hBb ‹_› ‹_› hla hlb hb) belowK_t (belowK_b (by omega)) (Below.refl _ _) (fun _ => rfl)
      (fun pre W => ((∃ v, Boxed W (w.heap.size + 1) 22 v ∧ W.ownsRow (w.heap.size + 2) 3 1 v pre.length (i64s pre) ∧ (pre.length : Int) < k) ∧ Boxed W w.heap.size 3 (.int .i64 k)) ∧ Below w.heap.size w W)
      (fun c pre W => c = .exit 0 ∧ ((∃ v, Boxed W (w.heap.size + 1) 22 v ∧ W.ownsRow (w.heap.size + 2) 3 1 v pre.length (i64s pre) ∧ (pre.length : Int) = k) ∧ Boxed W w.heap.size 3 (.int .i64 k)) ∧ Below w.heap.size w W)
      (OwnFrom.and (OwnFrom.and (Own.from (holdsRow_own (w.heap.size + 2) (w.heap.size + 1) 22 3 1 (fun pre => pre.length) (fun pre => i64s pre) (fun pre v => (pre.length : Int) < k)) _) (Own.from (boxed_own _ _ _) _)) (ownFrom_below (Nat.le_refl _) (by omega)))
      (fun c => OwnFrom.and (ownFrom_pure _ _) (OwnFrom.and (OwnFrom.and (Own.from (holdsRow_own (w.heap.size + 2) (w.heap.size + 1) 22 3 1 (fun pre => pre.length) (fun pre => i64s pre) (fun pre v => (pre.length : Int) = k)) _) (Own.from (boxed_own _ _ _) _)) (ownFrom_below (Nat.le_refl _) (by omega))))
      ⟨⟨⟨_, bO, World.ownsRow_nil _ _ _ _, by simp; omega⟩, bN2⟩, hB0⟩
      (fun x => { tmps := #[.func (.func 20) #[] #[.pointer (some ⟨Ba, 0, none⟩), .pointer (some ⟨Bb, 0, none⟩)], .int .i64 k, undef, .pointer (some ⟨w.heap.size, 0, none⟩), .slice none 0 0, .pointer (some ⟨w.heap.size + 1, 0, none⟩), .int .i64 x, .int .i64 k, .bool false,
        .func (.func 20) #[] #[.pointer (some ⟨Ba, 0, none⟩), .pointer (some ⟨Bb, 0, none⟩)], .int .i64 x, undef, undef, undef, undef, undef, undef, undef, undef, undef], defers := [] }) ?assign ?body ?done ?stop
    case assign =>
      intro l x W K hK
      gi_wp2
      exact hK
    case body =>
      rintro l pre x W ⟨⟨⟨v, hv, hrow, hlt⟩, hn⟩, hB⟩ hpre
      have hc := hv.cell
      have hf := hv.frozen
      have hcn := hn.cell
      have hW2 : w.heap.size + 2 ≤ W.heap.size := hv.lt
      rcases beq_cases ((pre.length : Int) + 1) k with hbk | hbk
      all_goals
        gi_wp2_with (gi_at_builtin; refine wpListIn_append_own _ rfl _ _ 22 rfl (w.heap.size + 2) 3 i0 (.int .i64 0) 1 8 Try.underlying22 hi hz0 hz1 hz2 rfl (by decide) _ _ _ rfl (hrow.alloc _) ⟨W.heap.size, 0, none⟩ 1 1 [.int .i64 x] rfl rfl (cell_one_new _ _ _) (by simp [Value.oneCell']) (by unfold maxLen; omega) (by omega) (by simp; omega) ?_; intro v' w1 hown' hgrow _; obtain ⟨g', cap', rfl⟩ := ownsRow_succ hown'; obtain ⟨hv1, hv2, hr2, hk2, hb2, ho2⟩ := boxed_append (n₀ := w.heap.size + 1) hv hrow hW2 (by omega) (Nat.le_refl _) hown' hgrow; have hc1 := hv1.cell; have hf1 := hv1.frozen; have hn1 := (ho2 _ _ _ hn (by omega)).1.cell; have hn2 := ((ho2 _ _ _ hn (by omega)).2 (by omega)).cell)
      · have hq : ((pre ++ [x]).length : Int) = k := by simp at hbk ⊢; omega
        refine ⟨hk2.from _, rfl, ⟨⟨_, hv2, ?_, hq⟩, (ho2 _ _ _ hn (by omega)).2 (by omega)⟩, hB.trans (hb2.mono (by omega))⟩
        rw [← i64s_snoc, List.length_append]
        exact hr2
      · have hq : ((pre ++ [x]).length : Int) < k := by simp at hbk ⊢; omega
        refine ⟨hk2.from _, hb2.mono (by omega), ⟨⟨_, hv2, ?_, hq⟩, (ho2 _ _ _ hn (by omega)).2 (by omega)⟩, hB.trans (hb2.mono (by omega))⟩
        rw [← i64s_snoc, List.length_append]
        exact hr2
    case done =>
      rintro D ys W hD rfl ⟨⟨⟨v, hv, hrow, hlt⟩, hn⟩, hB⟩ hK
      have hf : takeF (mergeF ltI a b) k = mergeF ltI a b := by
        unfold takeF
        rw [if_neg (by omega), List.take_of_length_le (by omega)]
      have hc := hv.cell
      have hf2 := hv.frozen
      obtain ⟨A', c', rfl⟩ := own_shape hrow
      gi_wp2
      refine ⟨by simp, .inl ⟨_, _, rfl, run_takeDeferred hK, ?_⟩⟩
      refine ⟨_, results_tmp rfl _ _ _, ?_⟩
      rw [hf]
      exact ⟨A', c', rfl, hB.trans (belowK_b (w := w) (Nat.le_refl _) W D _ _ (by omega) hK rfl rfl), own_base (ownsRow_putObj hrow _ hK rfl) (show w.heap.size ≤ w.heap.size + 2 by omega)⟩
    case stop =>
      rintro D c pre W hD hpre ⟨rfl, ⟨⟨v, hv, hrow, hlen⟩, hn⟩, hB⟩ hK
      have hf : takeF (mergeF ltI a b) k = pre := by
        unfold takeF
        rw [if_neg (by omega)]
        obtain ⟨t, ht⟩ := hpre
        rw [← ht, List.take_append_of_le_length (by omega), List.take_of_length_le (by omega)]
      have hc := hv.cell
      have hf2 := hv.frozen
      obtain ⟨A', c', rfl⟩ := own_shape hrow
      gi_wp2
      refine ⟨by simp, .inl ⟨_, _, rfl, run_takeDeferred hK, ?_⟩⟩
      refine ⟨_, results_tmp rfl _ _ _, ?_⟩
      rw [hf]
      exact ⟨A', c', rfl, hB.trans (belowK_b (w := w) (Nat.le_refl _) W D _ _ (by omega) hK rfl rfl), own_base (ownsRow_putObj hrow _ hK rfl) (show w.heap.size ≤ w.heap.size + 2 by omega)⟩
end Go.Proofs.Ythemogfniohdiaa
