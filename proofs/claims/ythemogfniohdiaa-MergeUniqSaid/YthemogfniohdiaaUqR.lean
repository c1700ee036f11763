/-
  Layer 32: the document's groups; the iterators' makers. No condition.
-/
import Derived.Test.YthemogfniohdiaaUqJ
import Derived.Test.YthemogfniohdiaaTab
import Derived.Test.YthemogfniohdiaaTabSet
import Derived.Test.YthemogfniohdiaaPushB
namespace Go.Proofs.Ythemogfniohdiaa
open Go.RowKit Go.Shelf
attribute [local go_sem] Oper.semAt_some
theorem info_itemU : (Try.prog.info? 39).map (fun i => (i.zero, i.size, i.bytes)) = some (some (.agg #[.int .i64 0, .int .i64 0]), 2, 16) := by kernel_rfl
theorem tab_bump (xs : List (Int × Int)) (a b a' : Int) : (tab pairI (xs ++ [(a, b)])).set (xs.length * 2) (.int .i64 a') = tab pairI (xs ++ [(a', b)]) := by
  rw [← tab_snoc, ← tab_snoc]
  have hl : (tab pairI xs).length = xs.length * 2 := tab_length pairI_length xs
  rw [← hl, List.set_append_right _ _ (Nat.le_refl _), Nat.sub_self]
  rfl
theorem tab_bump' {xs : List (Int × Int)} {n : Nat} (h : xs.length = n) {a b a' : Int} : (tab pairI (xs ++ [(a, b)])).set (n * 2) (.int .i64 a') = tab pairI (xs ++ [(a', b)]) := by rw [← h]; exact tab_bump xs a b a'
def intOfU : Value → Nat | .int _ z => z.toNat | _ => 0
set_option maxHeartbeats 1000000 in
theorem RUniq_any (A : Option Addr) (ca n : Nat) (l : List Int) (en : l.length = n) (h80 : n ≤ 80) (w : World) (hc : Cells w A (i64s l)) :
    Calls Try.prog 15 #[.slice A n ca] w (GivesOwn 39 2 (uq l n).length (tab pairI (uq l n)) w) := by
  have EN := hid en
  have HC := hid hc
  obtain ⟨j0, ji, jz0, jz1, jz2⟩ := info_parts info_itemU
  have HJ := hid ji
  clear en hc ji
  go_enter Try.func15, Try.ntmps15
  go_wp2_with fail
  go_loopw [3, 4] (fun s i wr => ∃ (k : Nat) (Q : Option Addr) (cp : Nat), i = .int .i64 k ∧ s = .slice Q (uq l k).length cp ∧ k ≤ n ∧ Hid (Below w.heap.size w wr) ∧ Hid (wr.ownsRow w.heap.size 39 2 (.slice Q (uq l k).length cp) (uq l k).length (tab pairI (uq l k)))) (fun _ i _ => n - intOfU i)
  case atStart => exact ⟨0, none, 0, rfl, rfl, by omega, hid (Below.refl _ _), hid ⟨rfl, .inl ⟨rfl, rfl⟩⟩⟩
  case round =>
    obtain ⟨k, Q, cp, rfl, rfl, hk, HB, HO⟩ := hrel
    by_cases hlt : k < n
    · obtain ⟨g, o, rfl, c0⟩ := i64_at (HC.out.below HB.out) (k := k) (by rw [EN.out]; exact hlt)
      have hul := uq_length l k
      have hsz := HB.out.size
      have e1 : IntKind.i64.wrap ((k : Int) + 1) = (k : Int) + 1 := by rw [IntKind.wrap_i64]; omega
      by_cases hsame : 0 < k ∧ atL l k = atL l (k - 1)
      · obtain ⟨hk0, hs⟩ := hsame
        obtain ⟨j, ej⟩ : ∃ j, k - 1 = j := ⟨_, rfl⟩
        obtain ⟨g2, o2, eA, c1⟩ := i64_at (HC.out.below HB.out) (k := j) (by rw [EN.out]; omega)
        cases eA
        obtain ⟨u1, u2⟩ := uq_same l hk0 hs
        obtain ⟨h1, _⟩ := (ust_n l k).2 hk0
        have hnk := (ust_n l k).1
        rw [ej] at hs
        rw [← hs] at c1
        obtain ⟨p, ep⟩ : ∃ p, (ust l k).p = p := ⟨_, rfl⟩
        obtain ⟨nn, enn⟩ : ∃ nn, (ust l k).n = nn := ⟨_, rfl⟩
        obtain ⟨v, ev⟩ : ∃ v, (ust l k).v = v := ⟨_, rfl⟩
        obtain ⟨x, ex⟩ : ∃ x, atL l k = x := ⟨_, rfl⟩
        rw [ep, enn, ev] at u1 u2
        rw [enn] at h1 hnk
        rw [ex] at c0 c1
        obtain ⟨pl, epl⟩ : ∃ pl, p.length = pl := ⟨_, rfl⟩
        have hl1 : (uq l k).length = pl + 1 := by rw [u2, List.length_append, epl]; rfl
        have hl2 : (uq l (k + 1)).length = pl + 1 := by rw [u1, List.length_append, epl]; rfl
        rw [hl1] at hul HO
        rw [u2] at HO
        obtain ⟨gq, cq, eQ, hgq⟩ := own_succ HO.out (by omega)
        cases eQ
        have t0 : wr.cell? ⟨gq, pl * 2, none⟩ = some (.int .i64 nn) := by
          rw [HO.out.cellAt (pl * 2) (by omega), ← epl]
          have := tab_get pairI_length (p ++ [((nn : Int), v)]) p.length ((nn : Int), v) 0 (by simp) (by omega)
          simpa [pairI] using this
        have f0 := HO.out.frozenAt (pl * 2)
        have lt0 := (HO.out.lt gq rfl).2
        have EPL := hid epl
        have U1 := hid u1
        have HL1 := hid hl1
        have HL2 := hid hl2
        have HJN := hid (show j < n by omega)
        have e2 : IntKind.i64.wrap ((k : Int) - 1) = j := by rw [IntKind.wrap_i64]; omega
        have e5 : IntKind.i64.wrap ((nn : Int) + 1) = ((nn + 1 : Nat) : Int) := by rw [IntKind.wrap_i64]; omega
        have g1 : decide ((0 : Int) < (k : Int)) = true := decide_eq_true (Int.ofNat_lt.2 hk0)
        have EJ := hid ej
        clear ej
        clear ep enn ev ex u1 u2 hs epl hl1 hl2
        rw [HL1.out]
        go_wp2_with fail
        have hjn := HJN.out
        refine wp_region_past (by kernel_rfl) (by kernel_rfl) ?_
        repeat (go_big_quiet_step ((fail)))
        refine wpQuiet_nil ?_
        rintro _ ⟨_, rfl⟩
        rename_i xq
        obtain ⟨wp, ewp⟩ : ∃ wp, wp = wr.past xq := ⟨_, rfl⟩
        have hbp : Below wr.heap.size wr wp := by rw [ewp]; exact wr.below_past xq
        have ho2 := own_below HO.out hbp (Nat.le_refl _)
        have t0' := below_cell hbp (Nat.le_refl _) _ _ t0
        have f0' := ho2.frozenAt (pl * 2)
        have lt0' := (ho2.lt gq rfl).2
        have st2 := ho2.stored (pl * 2) (.int .i64 ((nn + 1 : Nat) : Int))
        rw [tab_bump' EPL.out] at st2
        have HST2 := hid st2
        have HB2 := hid (HB.out.trans (hbp.mono HB.out.size))
        rw [← ewp]
        clear ewp hbp ho2 t0 f0 lt0 st2 c0 c1 e2
        go_wp2
        clear e5 e1
        go_roundw
        case rel =>
          refine ⟨k + 1, some ⟨gq, 0, none⟩, cp, by go_num, ?_, by omega, hid (HB2.out.setCell (p := ⟨gq, pl * 2, none⟩) hgq _), hid ?_⟩
          · rw [HL2.out]
          · rw [HL2.out, U1.out]; exact HST2.out.1
        case measure => simp [intOfU]; omega
      · have hnew : k = 0 ∨ atL l k ≠ atL l (k - 1) := by
          rcases Nat.eq_zero_or_pos k with h | h
          · exact .inl h
          · exact .inr fun e => hsame ⟨h, e⟩
        have U1 := hid (uq_new l hnew)
        have hB := HB.out.size
        obtain ⟨L, eL⟩ : ∃ L, (uq l k).length = L := ⟨_, rfl⟩
        have HL2 := hid (show (uq l (k + 1)).length = L + 1 by rw [U1.out, List.length_append, eL]; rfl)
        rw [eL] at hul HO ⊢
        obtain ⟨x, ex⟩ : ∃ x, atL l k = x := ⟨_, rfl⟩
        rw [ex] at c0 U1
        clear eL
        rcases Nat.eq_zero_or_pos k with hk0 | hk0
        · have g1 : decide ((0 : Int) < (k : Int)) = false := decide_eq_false (by omega)
          have g2 : decide (0 < k) = false := decide_eq_false (by omega)
          clear hsame hnew ex hk0
          go_wp2_with fail
          refine wp_region_past (by kernel_rfl) (by kernel_rfl) ?_
          repeat (go_big_quiet_step ((fail)))
          refine wpQuiet_nil ?_
          rintro _ ⟨_, rfl⟩
          rename_i xq
          obtain ⟨wp, ewp⟩ : ∃ wp, wp = wr.past xq := ⟨_, rfl⟩
          have hbp : Below wr.heap.size wr wp := by rw [ewp]; exact wr.below_past xq
          have ho2 := own_below HO.out hbp (Nat.le_refl _)
          have c0' := below_cell hbp (Nat.le_refl _) _ _ c0
          have hB1 : w.heap.size ≤ wp.heap.size := Nat.le_trans hB hbp.size
          have HO2 := hid ho2
          have HB2 := hid (HB.out.trans (hbp.mono HB.out.size))
          have hltn : k < n := hlt
          rw [← ewp]
          clear ewp hbp ho2 c0
          go_wp2_with (at_builtin; refine wpList_pushB rfl (.tmp 35) (.tmp 41) 33 rfl 39 j0 (.agg #[.int .i64 0, .int .i64 0]) 2 16 Try.underlying33 HJ.out jz0 jz1 jz2 rfl (by decide) w.heap.size hB1 (.slice Q L cp) L (tab pairI (uq l k)) rfl HO2.out _ #[.int .i64 1, .int .i64 x] ?c0 rfl rfl ?c1 ?c2 ?c3 ?_)
          case c0 => rfl
          case c1 => simp [Value.oneCell']
          case c2 => omega
          case c3 => unfold maxLen; omega
          intro w2 g2 cap2 ho3 hg3 _
          have HO3 := hid ho3
          have HB3 := hid (((HB2.out.alloc hB1 (.cells #[.int .i64 1, .int .i64 x] 39)).size : _))
          have HB4 := hid (HB2.out.grown hg3 hB1 (fun q hq => (HO2.out.lt q hq).1))
          clear ho3 hg3 HB3
          go_wp2
          go_roundw
          case rel =>
            refine ⟨k + 1, some ⟨g2, 0, none⟩, cap2, by go_num, ?_, by omega, HB4, hid ?_⟩
            · rw [HL2.out]
            · rw [HL2.out, U1.out, ← tab_snoc]; exact HO3.out
          case measure => simp [intOfU]; omega
        · obtain ⟨j, ej⟩ : ∃ j, k - 1 = j := ⟨_, rfl⟩
          obtain ⟨g2, o2, eA, c1⟩ := i64_at (HC.out.below HB.out) (k := j) (by rw [EN.out]; omega)
          cases eA
          have hne := hnew.resolve_left (by omega)
          rw [ej, ex] at hne
          have HJN := hid (show j < n by omega)
          have e2 : IntKind.i64.wrap ((k : Int) - 1) = j := by rw [IntKind.wrap_i64]; omega
          have g1 : decide ((0 : Int) < (k : Int)) = true := decide_eq_true (Int.ofNat_lt.2 hk0)
          obtain ⟨y, ey⟩ : ∃ y, atL l j = y := ⟨_, rfl⟩
          rw [ey] at hne c1
          have hne2 : (x == y) = false := by simpa using hne
          clear hsame hnew ex ej ey hne
          go_wp2_with fail
          have hjn := HJN.out
          refine wp_region_past (by kernel_rfl) (by kernel_rfl) ?_
          repeat (go_big_quiet_step ((fail)))
          refine wpQuiet_nil ?_
          rintro _ ⟨_, rfl⟩
          rename_i xq
          obtain ⟨wp, ewp⟩ : ∃ wp, wp = wr.past xq := ⟨_, rfl⟩
          have hbp : Below wr.heap.size wr wp := by rw [ewp]; exact wr.below_past xq
          have ho2 := own_below HO.out hbp (Nat.le_refl _)
          have c0' := below_cell hbp (Nat.le_refl _) _ _ c0
          have hB1 : w.heap.size ≤ wp.heap.size := Nat.le_trans hB hbp.size
          have HO2 := hid ho2
          have HB2 := hid (HB.out.trans (hbp.mono HB.out.size))
          have hltn : k < n := hlt
          rw [← ewp]
          clear ewp hbp ho2 c0 c1 e2
          go_wp2_with (at_builtin; refine wpList_pushB rfl (.tmp 35) (.tmp 41) 33 rfl 39 j0 (.agg #[.int .i64 0, .int .i64 0]) 2 16 Try.underlying33 HJ.out jz0 jz1 jz2 rfl (by decide) w.heap.size hB1 (.slice Q L cp) L (tab pairI (uq l k)) rfl HO2.out _ #[.int .i64 1, .int .i64 x] ?c0 rfl rfl ?c1 ?c2 ?c3 ?_)
          case c0 => rfl
          case c1 => simp [Value.oneCell']
          case c2 => omega
          case c3 => unfold maxLen; omega
          intro w2 g2 cap2 ho3 hg3 _
          have HO3 := hid ho3
          have HB3 := hid (((HB2.out.alloc hB1 (.cells #[.int .i64 1, .int .i64 x] 39)).size : _))
          have HB4 := hid (HB2.out.grown hg3 hB1 (fun q hq => (HO2.out.lt q hq).1))
          clear ho3 hg3 HB3
          go_wp2
          go_roundw
          case rel =>
            refine ⟨k + 1, some ⟨g2, 0, none⟩, cap2, by go_num, ?_, by omega, HB4, hid ?_⟩
            · rw [HL2.out]
            · rw [HL2.out, U1.out, ← tab_snoc]; exact HO3.out
          case measure => simp [intOfU]; omega
    · obtain rfl : k = n := by omega
      have HBB := hid HB.out
      go_wp2
      go_ret
      exact ⟨Q, cp, rfl, HB.out, HO.out⟩
theorem Values_any (A : Option Addr) (n ca : Nat) (w : World) :
    Calls Try.prog 25 #[.slice A n ca] w (fun e w' => e = .returned (.func (.func 29) #[] #[.pointer (some ⟨w.heap.size, 0, none⟩)]) ∧
      Below w.heap.size w w' ∧ w'.heap.size = w.heap.size + 1 ∧ w'.cell? ⟨w.heap.size, 0, none⟩ = some (.slice A n ca)) := by
  go_enter Try.func25, Try.ntmps25
  go_wp2
  go_ret
  exact ⟨rfl, (Below.refl _ w).alloc (Nat.le_refl _) _, by simp, by simp [go_sem]⟩
theorem List_any (A : Option Addr) (n ca : Nat) (w : World) :
    Calls Try.prog 17 #[.slice A n ca] w (fun e w' => e = .returned (.func (.func 29) #[] #[.pointer (some ⟨w.heap.size, 0, none⟩)]) ∧
      Below w.heap.size w w' ∧ w'.heap.size = w.heap.size + 1 ∧ w'.cell? ⟨w.heap.size, 0, none⟩ = some (.slice A n ca)) := by
  have HV := hid (Values_any A n ca w)
  go_enter Try.func17, Try.ntmps17
  go_wp2_with fail
  refine HV.out.mono ?_
  rintro _ w1 ⟨rfl, h1, h2, h3⟩
  go_wp2_with fail
  go_ret
  exact ⟨rfl, h1, h2, h3⟩
theorem UniqI_any (f : Nat) (cs : Array Value) (w : World) :
    Calls Try.prog 16 #[.func (.func f) #[] cs] w (fun e w' => e = .returned (.func (.func 23) #[] #[.pointer (some ⟨w.heap.size, 0, none⟩)]) ∧
      Below w.heap.size w w' ∧ w'.heap.size = w.heap.size + 1 ∧ w'.cell? ⟨w.heap.size, 0, none⟩ = some (.func (.func f) #[] cs)) := by
  go_enter Try.func16, Try.ntmps16
  go_wp2
  go_ret
  exact ⟨rfl, (Below.refl _ w).alloc (Nat.le_refl _) _, by simp, by simp [go_sem]⟩
theorem uniq_seq (m : Nat) (hm : 3 ≤ m) (w0 : World) (Br Bx : Nat) (A : Option Addr) (n c : Nat) (l : List Int) (en : l.length = n) (h80 : n ≤ 80) (T : Nat → Prop) (hT : ∀ k, T k → k < w0.heap.size)
    (hBr : w0.cell? ⟨Br, 0, none⟩ = some (.func (.func 29) #[] #[.pointer (some ⟨Bx, 0, none⟩)])) (hBrT : ¬ T Br) (hBx : w0.cell? ⟨Bx, 0, none⟩ = some (.slice A n c)) (hBT : ¬ T Bx) (hR : ∀ W, KS T w0 W → Cells W A (i64s l)) :
    SeqE Fence.wide m Try.prog 23 #[.pointer (some ⟨Br, 0, none⟩)] encU T (fun ys => ys = uq l n) (fun pre => pre <+: uq l n) (uq l n).length w0 :=
  fun lp J Jx W hW hJ hJx hY h0 => uniq1_in m hm lp w0 Br Bx A n c l en h80 T hT hBr hBrT hBx hBT hR J Jx W hW hJ hJx hY h0
end Go.Proofs.Ythemogfniohdiaa
