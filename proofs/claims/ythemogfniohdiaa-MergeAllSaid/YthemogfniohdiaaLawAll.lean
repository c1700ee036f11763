/-
  Layer 32's MergeAll: any lists, brought into one, are the document's. No condition.
-/
import Derived.Test.YthemogfniohdiaaAllI
import Derived.Test.YthemogfniohdiaaAwake
namespace Go.Proofs.Ythemogfniohdiaa
open Go.RowKit Go.Shelf Go.ChangeShapes Go.WideShapes Go.ChangeAt
attribute [local go_sem] Oper.semAt_some
theorem all_any (A : Option Addr) (n ca : Nat) (w : World) :
    Calls Try.prog 14 #[.slice A n ca] w (fun e w' => e = .returned (.func (.func 22) #[] #[.pointer (some ⟨w.heap.size, 0, none⟩)]) ∧
      Below w.heap.size w w' ∧ w'.heap.size = w.heap.size + 1 ∧ w'.cell? ⟨w.heap.size, 0, none⟩ = some (.slice A n ca)) := by
  go_enter Try.func14, Try.ntmps14
  go_wp2
  go_ret
  exact ⟨rfl, (Below.refl _ w).alloc (Nat.le_refl _) _, by simp, by simp [go_sem]⟩
def encI (x : Int × Int) : Array Value := #[.int .i64 x.1, .int .i64 x.2]
theorem all_seq (m : Nat) (hm : 1 ≤ m) (w0 : World) (Bx : Nat) (A : Option Addr) (ca n : Nat) (l : List Rw) (en : l.length = n) (T : Nat → Prop) (hT : ∀ k, T k → k < w0.heap.size) (wb : World) (hwb : Below wb.heap.size wb w0) (hTb : ∀ k, T k → wb.heap.size ≤ k) (hBx : w0.cell? ⟨Bx, 0, none⟩ = some (.slice A n ca)) (hBT : ¬ T Bx) (hw : RowsW wb A l) (hn : n ≤ 8) (h30 : ∀ i, i < n → lenF l i ≤ 30)
    (N : Nat) (hN : N ≤ 240) (hb : ∀ i, i < N → 0 ≤ nextF (lenF l) (vF l) n i) (he : nextF (lenF l) (vF l) n N = -1) :
    SeqC Fence.wide m Try.prog 22 #[.pointer (some ⟨Bx, 0, none⟩)] encI T (fun ys => ys = itemsF (lenF l) (vF l) n N) (fun pre => pre <+: itemsF (lenF l) (vF l) n N) N w0 :=
  fun lp J Jx W hW hJ _ hY h0 => all1_in m hm lp w0 Bx A ca n l en T hT wb hwb hTb hBx hBT hw hn h30 N hN hb he J Jx W hW hJ hY h0
/-- What holds between two rounds. -/
structure Rnd (T : Nat → Prop) (w6 : World) (R K : Nat) (M : List (Int × Int)) (y : Int) (pre : List (Int × Int)) (W : World) : Prop where
  keep : KS T w6 W
  res : Boxed W R 4 (.bool false)
  cnt : Boxed W K 3 (.int .i64 (pre.length : Int))
  pref : pre <+: M
theorem Rnd.far {T : Nat → Prop} {w6 : World} {R K : Nat} {M : List (Int × Int)} {y : Int} {pre : List (Int × Int)} {A B : World} (h : Rnd T w6 R K M y pre A) (hR : R < w6.heap.size) (hK : K < w6.heap.size) (hb : Below w6.heap.size A B) : Rnd T w6 R K M y pre B :=
  ⟨h.keep.far hb, (hb.block _ hR).trans h.res, (hb.block _ hK).trans h.cnt, h.pref⟩
set_option maxRecDepth 100000 in
set_option maxHeartbeats 8000000 in
theorem MergeAll_any (A : Option Addr) (ca n : Nat) (l : List Rw) (en : l.length = n) (hmx : n ≤ maxLen) (y : Int) (hy : 0 ≤ y ∧ y ≤ 255) (w : World) (hw : RowsW w A l) :
    Calls Try.prog 5 #[.slice A n ca, .int .u8 y] w (Gives (.bool true) w) := by
  have EN := hid en
  have HW := hid hw
  clear en hw
  obtain ⟨W, eW⟩ : ∃ W, W = (w.alloc (.cells #[.int .u8 y] 5)).alloc (.cells #[.bool false] 4) := ⟨_, rfl⟩
  refine (callsIn_wide (n := 5)).1 ?_
  refine callsIn_of_wp_marks Try.func5 rfl trivial ?_ rfl
  simp only [Try.ntmps5, List.size_toArray, List.length_cons, List.length_nil, Nat.reduceAdd, Nat.reduceSub, Array.replicate_succ, Array.replicate_zero, List.push_toArray, List.append_toArray, List.nil_append, List.cons_append]
  have bY0 := Boxed.new w 5 (.int .u8 y)
  have bR := Boxed.new (w.alloc (.cells #[.int .u8 y] 5)) 4 (.bool false)
  have bY := bY0.alloc (.cells #[.bool false] 4)
  rw [World.size_alloc] at bR
  have hBW : Below w.heap.size w W := by rw [eW]; exact ((Below.refl _ w).alloc (Nat.le_refl _) _).alloc (by simp) _
  have hsz : W.heap.size = w.heap.size + 2 := by rw [eW]; simp
  rw [← eW] at bR bY
  have EW := hid eW
  clear eW bY0
  gi_wp2
  rw [← EW.out]
  refine (callsIn_wide.2 (awake_any _)).mono ?_
  rintro _ _ ⟨rfl, x, rfl⟩
  obtain ⟨W2, eW2⟩ : ∃ W2, W2 = W.past x := ⟨_, rfl⟩
  have hB2 : Below W.heap.size W W2 := by rw [eW2]; exact W.below_past x
  rw [← eW2]
  have bR2 : Boxed W2 (w.heap.size + 1) 4 (.bool false) := (hB2.block _ (by omega)).trans bR
  have bY2 : Boxed W2 w.heap.size 5 (.int .u8 y) := (hB2.block _ (by omega)).trans bY
  have hBW2 := below_trans' hBW hB2
  have hsz2 : w.heap.size + 2 ≤ W2.heap.size := by have := hB2.size; omega
  clear eW2 bR bY hB2 EW hsz hBW
  have hc := bR2.cell
  have hf := bR2.frozen
  by_cases h8 : 8 < n
  · gi_wp2
    refine ⟨.bool true, ?_, Gives.mk rfl (hBW2.setCell (p := ⟨w.heap.size + 1, 0, none⟩) (by simp) _)⟩
    simp [results, Try.results5, go_sem, hc]
  · have HW2 := hid (HW.out.below hBW2)
    gi_wp2
    gi_loopw [18] (fun iv wr => ∃ i : Nat, iv = .int .i64 i ∧ i ≤ n ∧ wr = W2 ∧ Hid (∀ k, k < i → lenF l k ≤ 30)) (fun iv _ => n - (intOf iv).toNat)
    case atStart => exact ⟨0, rfl, by omega, rfl, hid (fun k h => by omega)⟩
    case round =>
      obtain ⟨i, rfl, hi, rfl, H30⟩ := hrel
      by_cases hlt : i < n
      · obtain ⟨b1, o1, R, c1, eA, hck, hRk⟩ := HW2.out.at (show i < l.length by rw [EN.out]; exact hlt)
        subst eA
        obtain ⟨L, eL⟩ : ∃ L, lenF l i = L := ⟨_, rfl⟩
        rw [eL] at hck
        have EL := hid eL
        clear eL hRk
        by_cases hL : 30 < L
        · gi_wp2
          refine ⟨.bool true, ?_, Gives.mk rfl (hBW2.setCell (p := ⟨w.heap.size + 1, 0, none⟩) (by simp) _)⟩
          simp [results, Try.results5, go_sem, hc]
        · gi_wp2
          go_roundw
          case rel => exact ⟨i + 1, by go_num, by omega, trivial, hid (fun k hk => by
            by_cases e : k = i
            · subst e; rw [EL.out]; omega
            · exact H30.out k (by omega))⟩
          case measure => simp [intOf]; omega
      · obtain rfl : i = n := by omega
        obtain ⟨N, hN, hb, he⟩ := all_ends (lenF l) (vF l) i 30 H30.out
        have hN240 : N ≤ 240 := by omega
        gi_wp2
        refine (callsIn_wide.2 (RAll_any A ca i l EN.out (by omega) H30.out wr HW2.out N hN240 hb he)).mono ?_
        rintro _ w3 ⟨Q, cq, rfl, hb3, ho3⟩
        have bR3 : Boxed w3 (w.heap.size + 1) 4 (.bool false) := (hb3.block _ (by omega)).trans bR2
        have bY3 : Boxed w3 w.heap.size 5 (.int .u8 y) := (hb3.block _ (by omega)).trans bY2
        have hBW3 := below_trans' hBW2 hb3
        have hsz3 : w.heap.size + 2 ≤ w3.heap.size := by have := hb3.size; omega
        have HW3 := hid (HW2.out.below hb3)
        have HO3 := hid ho3
        have HLW := hid hsz2
        clear bR2 bY2 hBW2 hsz2 hc hf HW2 hb3 ho3
        have bQ := Boxed.new w3 33 (.slice Q N cq)
        have bK := Boxed.new (w3.alloc (.cells #[.slice Q N cq] 33)) 3 (.int .i64 0)
        rw [World.size_alloc] at bK
        have bQ2 := bQ.alloc (.cells #[.int .i64 0] 3)
        obtain ⟨W5, eW5⟩ : ∃ W5, W5 = (w3.alloc (.cells #[.slice Q N cq] 33)).alloc (.cells #[.int .i64 0] 3) := ⟨_, rfl⟩
        have hb5 : Below w3.heap.size w3 W5 := by rw [eW5]; exact ((Below.refl _ w3).alloc (Nat.le_refl _) _).alloc (by simp) _
        have hs5 : W5.heap.size = w3.heap.size + 2 := by rw [eW5]; simp
        rw [← eW5] at bQ2 bK
        have EW5 := hid eW5
        clear eW5 bQ
        gi_wp2
        rw [← EW5.out]
        refine (callsIn_wide.2 (all_any A i ca W5)).mono ?_
        rintro _ w6 ⟨rfl, hb6, hs6, hx6⟩
        have bR6 : Boxed w6 (w.heap.size + 1) 4 (.bool false) := (hb6.block _ (by omega)).trans ((hb5.block _ (by omega)).trans bR3)
        have bY6 : Boxed w6 w.heap.size 5 (.int .u8 y) := (hb6.block _ (by omega)).trans ((hb5.block _ (by omega)).trans bY3)
        have bQ6 : Boxed w6 w3.heap.size 33 (.slice Q N cq) := (hb6.block _ (by omega)).trans bQ2
        have bK6 : Boxed w6 (w3.heap.size + 1) 3 (.int .i64 0) := (hb6.block _ (by omega)).trans bK
        have hb36 := below_trans' hb5 hb6
        have HB36 := hid hb36
        have hBW6 := below_trans' hBW3 hb36
        clear bR3 bY3 bQ2 bK EW5 hb5 hb6
        obtain ⟨T, eT⟩ : ∃ T : Nat → Prop, T = fun k => k = w.heap.size + 1 ∨ k = w3.heap.size + 1 := ⟨_, rfl⟩
        obtain ⟨M, eM⟩ : ∃ M, itemsF (lenF l) (vF l) i N = M := ⟨_, rfl⟩
        have hR6 : w.heap.size + 1 < w6.heap.size := bR6.lt
        have hK6 : w3.heap.size + 1 < w6.heap.size := bK6.lt
        have hTR : T (w.heap.size + 1) := by rw [eT]; exact .inl rfl
        have hTK : T (w3.heap.size + 1) := by rw [eT]; exact .inr rfl
        have hTw : ∀ k, T k → k < w6.heap.size := by rw [eT]; rintro k (rfl | rfl); exact hR6; exact hK6
        have hTb : ∀ k, T k → w.heap.size ≤ k := by rw [eT]; rintro k (rfl | rfl) <;> omega
        have hTx : ¬ T (w3.heap.size + 2) := by rw [eT]; rintro (h | h) <;> omega
        have hTY : ¬ T w.heap.size := by rw [eT]; rintro (h | h) <;> omega
        have hTQ : ¬ T w3.heap.size := by rw [eT]; rintro (h | h) <;> omega
        have hseq := all_seq (5 - 1) (by omega) w6 (w3.heap.size + 2) A ca i l EN.out T hTw w hBW6 hTb (by rw [← hs5]; exact hx6) hTx HW.out (by omega) H30.out N hN240 hb he
        rw [eM] at hseq HO3
        gi_wp2
        refine wpIn_rangeFunc_C rfl (by omega) (gf := 22) (lb := #[.pointer (some ⟨w3.heap.size + 2, 0, none⟩)]) rfl trivial (enters_of Try.func22 (by kernel_rfl) rfl) hseq hTw (KS.refl _ _) (fun _ => rfl)
          (fun pre W => Rnd T w6 (w.heap.size + 1) (w3.heap.size + 1) M y pre W ∧ (pre.length : Int) ≤ y)
          (fun c pre W => (c = .exit 2 ∧ Rnd T w6 (w.heap.size + 1) (w3.heap.size + 1) M y pre W ∧ (pre.length : Int) = y + 1) ∨ (c = .ret ∧ ¬ pre <+: M))
          (fun _ _ _ h hb => ⟨h.1.far hR6 hK6 hb, h.2⟩)
          (fun _ _ _ _ h hb => by rcases h with ⟨h1, h2, h3⟩ | h; exact .inl ⟨h1, h2.far hR6 hK6 hb, h3⟩; exact .inr h)
          ⟨⟨KS.refl _ _, bR6, bK6, List.nil_prefix⟩, by simp; omega⟩
          (fun x => { tmps := #[.slice A i ca, .int .u8 y, undef, .pointer (some ⟨w.heap.size, 0, none⟩), .pointer (some ⟨w.heap.size + 1, 0, none⟩), undef, u6, .pointer (some ⟨w3.heap.size, 0, none⟩), .pointer (some ⟨w3.heap.size + 1, 0, none⟩), .int .i64 x.1, .int .i64 x.2, .bool true, .bool false,
            .slice A i ca, .int .i64 i, .bool (decide ((8 : Int) < (i : Int))), .slice A i ca, .int .i64 i, .int .i64 i, .bool false, u20, u21, u22, u23, u24, u25, .slice A i ca, .slice Q N cq, .slice A i ca,
            .func (.func 22) #[] #[.pointer (some ⟨w3.heap.size + 2, 0, none⟩)], .int .i64 x.1, .int .i64 x.2, undef, undef, undef, undef, undef, undef, undef, undef, undef, undef, undef, undef, undef, undef, undef, undef, undef, undef, undef, undef, undef, undef, undef, undef, undef, undef, undef, undef, undef, undef, undef, undef, undef, undef, undef, undef], defers := [] }) ?assign ?body ?done ?stop
        case assign =>
          clear eT
          intro lq x W K hK
          simp only [encI]
          gi_wp2
          exact hK
        case body =>
          rintro lq pre ⟨x1, x2⟩ W hsW ⟨hJ, hle⟩ hlen
          have hoW := own_rest HO3.out (w' := W) (fun q h1 h2 => (hJ.keep.block q (by have := HB36.out.size; omega) (by rw [eT]; have := HLW.out; rintro (h | h) <;> omega)).trans (HB36.out.block q h2))
          obtain ⟨z, ez⟩ : ∃ z, M[pre.length]? = some z := ⟨_, List.getElem?_eq_getElem (by rw [← eM, items_length]; exact hlen)⟩
          obtain ⟨z1, z2⟩ := z
          obtain ⟨bq, oq, eQ, hcq⟩ := (Cells.of_own hoW).tab_at pairI_length ez (by omega)
          subst eQ
          have c1 := hcq 0 _ rfl
          have c2 := hcq 1 _ rfl
          rw [Nat.add_zero] at c1
          have hpre := hJ.pref
          have bQ7 : Boxed W w3.heap.size 33 (.slice (some ⟨bq, oq, none⟩) N cq) := hJ.keep.boxed hTQ bQ6
          have bY7 : Boxed W w.heap.size 5 (.int .u8 y) := hJ.keep.boxed hTY bY6
          have q1 := bQ7.cell
          have q2 := bY7.cell
          have q3 := hJ.res.cell
          have q4 := hJ.cnt.cell
          have q5 := hJ.res.frozen
          have q6 := hJ.cnt.frozen
          obtain ⟨p, ep⟩ : ∃ p, pre.length = p := ⟨_, rfl⟩
          rw [ep] at c1 c2 q4 hlen hle ez
          have hnp : ∀ x, (pre ++ [x] <+: M) → x = (z1, z2) := by
            rintro x ⟨t, ht⟩
            rw [← ht, ← ep] at ez
            simpa using ez
          have HJ := hid hJ
          have HNP := hid hnp
          have HEZ := hid ez
          have HPRE := hid hpre
          clear hJ hnp ez hpre hcq hoW eT
          by_cases h1 : z1 = x1
          · subst h1
            by_cases h2 : z2 = x2
            · subst h2
              have hsn : pre ++ [(z1, z2)] <+: M := by
                obtain ⟨t, ht⟩ := HPRE.out
                refine ⟨t.drop 1, ?_⟩
                have := HEZ.out
                rw [← ht, ← ep] at this
                cases t with
                | nil => simp at this
                | cons u t => simp at this; subst this; rw [← ht]; simp
              have HSN := hid hsn
              clear hsn
              have hadd : IntKind.i64.wrap ((p : Int) + 1) = (p : Int) + 1 := by rw [IntKind.wrap_i64]; omega
              by_cases hy2 : (p : Int) + 1 > y
              · gi_wp2
                refine ⟨(KS.refl _ _).setCell hTK 0 _, .inl ⟨rfl, ⟨HJ.out.keep.setCell hTK 0 _, ((KS.refl (fun q => q = w3.heap.size + 1) _).setCell rfl 0 _).boxed (by omega) HJ.out.res, ?_, HSN.out⟩, ?_⟩⟩
                · rw [show ((pre ++ [(z1, z2)]).length : Int) = (p : Int) + 1 by simp [ep]]
                  exact HJ.out.cnt.set _
                · simp [ep]; omega
              · gi_wp2
                refine ⟨(KS.refl _ _).setCell hTK 0 _, ⟨HJ.out.keep.setCell hTK 0 _, ((KS.refl (fun q => q = w3.heap.size + 1) _).setCell rfl 0 _).boxed (by omega) HJ.out.res, ?_, HSN.out⟩, ?_⟩
                · rw [show ((pre ++ [(z1, z2)]).length : Int) = (p : Int) + 1 by simp [ep]]
                  exact HJ.out.cnt.set _
                · simp [ep]; omega
            · have hne : (z2 != x2) = true := by simpa using h2
              gi_wp2
              refine ⟨(KS.refl _ _).setCell hTR 0 _, .inr ⟨rfl, fun h => ?_⟩⟩
              have := HNP.out _ h
              simp at this
              omega
          · have hne : (z1 != x1) = true := by simpa using h1
            gi_wp2
            refine ⟨(KS.refl _ _).setCell hTR 0 _, .inr ⟨rfl, fun h => ?_⟩⟩
            have := HNP.out _ h
            simp at this
            omega
        case done =>
          clear eT
          rintro D xs W hD exs ⟨hJ, hle⟩ hK
          subst exs
          have bQ7 : Boxed W w3.heap.size 33 (.slice Q N cq) := hJ.keep.boxed hTQ bQ6
          have bY7 : Boxed W w.heap.size 5 (.int .u8 y) := hJ.keep.boxed hTY bY6
          have q1 := bQ7.cell
          have q2 := bY7.cell
          have q3 := hJ.res.cell
          have q4 := hJ.cnt.cell
          have q5 := hJ.res.frozen
          rw [show xs.length = N by rw [← eM, items_length]] at q4 hle
          have hadd : IntKind.i64.wrap (y + 1) = y + 1 := by rw [IntKind.wrap_i64]; omega
          have hcv : IntKind.i64.wrap y = y := by rw [IntKind.wrap_i64]; omega
          have HJ := hid hJ
          clear hJ
          gi_wp2
          have hRD : w.heap.size + 1 ≠ D := by omega
          have hbx : Boxed ((W.setCell ⟨w.heap.size + 1, 0, none⟩ (.bool true)).putObj D (.deferred none)) (w.heap.size + 1) 4 (.bool true) := (World.putObj_heap_other hRD).trans (HJ.out.res.set _)
          have hcx := hbx.cell
          have hBx := below_putObj (RowKit.Below.setCell (p := ⟨w.heap.size + 1, 0, none⟩) (hBW6.trans (HJ.out.keep.under hTb hBW6.size)) (by simp) (.bool true)) (show w.heap.size ≤ D by omega) (.deferred none)
          clear hbx q1 q2 q3 q4 q5
          refine ⟨by simp, .inl ⟨_, _, rfl, run_takeDeferred ((Below.heap_setCell W ⟨w.heap.size + 1, 0, none⟩ _ D (by simp; omega)).trans hK), ?_⟩⟩
          exact ⟨.bool true, by simp [results, Try.results5, go_sem, hcx], Gives.mk rfl hBx⟩
        case stop =>
          clear eT
          rintro D c pre W hD hSp hX hK
          rcases hX with ⟨rfl, hJ, hlen⟩ | ⟨_, hn⟩
          · have bQ7 : Boxed W w3.heap.size 33 (.slice Q N cq) := hJ.keep.boxed hTQ bQ6
            have bY7 : Boxed W w.heap.size 5 (.int .u8 y) := hJ.keep.boxed hTY bY6
            have q1 := bQ7.cell
            have q2 := bY7.cell
            have q3 := hJ.res.cell
            have q4 := hJ.cnt.cell
            have q5 := hJ.res.frozen
            have hle : pre.length ≤ N := by
              have := hJ.pref.length_le
              rwa [← eM, items_length] at this
            rw [hlen] at q4
            have hyN : y + 1 ≤ N := by omega
            have hadd : IntKind.i64.wrap (y + 1) = y + 1 := by rw [IntKind.wrap_i64]; omega
            have hcv : IntKind.i64.wrap y = y := by rw [IntKind.wrap_i64]; omega
            have HJ := hid hJ
            clear hJ
            rcases Int.lt_or_eq_of_le hyN with hlt2 | heq2
            · gi_wp2
              have hRD : w.heap.size + 1 ≠ D := by omega
              have hbx : Boxed ((W.setCell ⟨w.heap.size + 1, 0, none⟩ (.bool true)).putObj D (.deferred none)) (w.heap.size + 1) 4 (.bool true) := (World.putObj_heap_other hRD).trans (HJ.out.res.set _)
              have hcx := hbx.cell
              have hBx := below_putObj (RowKit.Below.setCell (p := ⟨w.heap.size + 1, 0, none⟩) (hBW6.trans (HJ.out.keep.under hTb hBW6.size)) (by simp) (.bool true)) (show w.heap.size ≤ D by omega) (.deferred none)
              clear hbx q1 q2 q3 q4 q5
              refine ⟨by simp, .inl ⟨_, _, rfl, run_takeDeferred ((Below.heap_setCell W ⟨w.heap.size + 1, 0, none⟩ _ D (by simp; omega)).trans hK), ?_⟩⟩
              exact ⟨.bool true, by simp [results, Try.results5, go_sem, hcx], Gives.mk rfl hBx⟩
            · gi_wp2
              have hRD : w.heap.size + 1 ≠ D := by omega
              have hbx : Boxed ((W.setCell ⟨w.heap.size + 1, 0, none⟩ (.bool true)).putObj D (.deferred none)) (w.heap.size + 1) 4 (.bool true) := (World.putObj_heap_other hRD).trans (HJ.out.res.set _)
              have hcx := hbx.cell
              have hBx := below_putObj (RowKit.Below.setCell (p := ⟨w.heap.size + 1, 0, none⟩) (hBW6.trans (HJ.out.keep.under hTb hBW6.size)) (by simp) (.bool true)) (show w.heap.size ≤ D by omega) (.deferred none)
              clear hbx q1 q2 q3 q4 q5
              refine ⟨by simp, .inl ⟨_, _, rfl, run_takeDeferred ((Below.heap_setCell W ⟨w.heap.size + 1, 0, none⟩ _ D (by simp; omega)).trans hK), ?_⟩⟩
              exact ⟨.bool true, by simp [results, Try.results5, go_sem, hcx], Gives.mk rfl hBx⟩
          · exact absurd hSp hn
theorem cs_i64s : Try.prog.cellsOf 3 = 1 := by kernel_rfl
theorem rd_i64s {H : Type} {enc : TypeId × Value → H} {W : World} {v : Value} (h : Rd enc Try.prog W 22 [v]) : ∃ (A : Option Addr) (c : Nat) (l : List Int), v = .slice A l.length c ∧ Cells W A (i64s l) ∧ (∀ x ∈ l, I64 x) ∧ l.length ≤ maxLen :=
  rd_ints_row h Try.underlying22 Try.underlying3 cs_i64s (fun _ hx => i64_of hx)
theorem cs_row : Try.prog.cellsOf 22 = 1 := by kernel_rfl
theorem rd_rows {H : Type} {enc : TypeId × Value → H} {W : World} {v : Value} (h : Rd enc Try.prog W 32 [v]) : ∃ (A : Option Addr) (c : Nat) (l : List Rw), v = .slice A l.length c ∧ RowsW W A l ∧ l.length ≤ maxLen := by
  obtain ⟨A, c, l, e, hc, hk, hl⟩ := rd_tab (K := fun r : Rw => Cells W r.1 (i64s r.2.2)) rowV_length (by omega) h Try.underlying32 cs_row (fun cs hr => by
    have hs : ∃ u, cs = [u] := by
      rcases hr.slice Try.underlying22 with h | ⟨a, len, cap, hv, _⟩
      · exact ⟨_, h⟩
      · exact ⟨_, hv⟩
    obtain ⟨u, rfl⟩ := hs
    obtain ⟨A, ca, a, rfl, ha, _, hl⟩ := rd_i64s hr
    exact ⟨(A, ca, a), rfl, ha⟩)
  refine ⟨A, c, l, e, ⟨hc, fun i hi => ?_⟩, hl⟩
  have := hk l[i] (List.getElem_mem hi)
  simpa [rAt, hi] using this
theorem mergeAll_own : ownKnob Try.prog.godebug = none := by kernel_rfl
theorem mergeAll_laidOut : laidOutB Try.prog = true := by kernel_rfl
theorem mergeAll_types : ∀ t ∈ Try.f5.params.toList, Try.prog.readableRec t = true ∧ t < Try.prog.types.size := by
  rw [Try.params5]
  intro t ht
  simp only [List.mem_cons, List.not_mem_nil, or_false] at ht
  rcases ht with rfl | rfl
  · exact ⟨by kernel_rfl, of_decide_eq_true (by kernel_rfl)⟩
  · exact ⟨by kernel_rfl, of_decide_eq_true (by kernel_rfl)⟩
set_option maxRecDepth 100000 in
theorem mergeAll_lifted (os : Os) (started : os.Started) (H : Type) (enc : TypeId × Value → H) :
    ReturnsInHanded {} Try.checked os 5 .any (Rows.mergeAllSpec.pre6 enc Try.prog Try.f5 Rows.mergeAllRow.domain false) (Rows.mergeAllSpec.post enc Try.prog Try.f5 false true false false) := by
  refine returnsInHanded_of_change (C := Try.checked) mergeAll_own started (by kernel_rfl) Try.func5
    (ChangeSpec.witness6 (enc := enc) (C := Try.checked) false ⟨#[], #[.slice none 0 0, .int .u8 0], []⟩ 8 (by kernel_rfl) (by kernel_rfl) (by kernel_rfl) (by kernel_rfl)) ?_
  intro W base args ds gs before hval0 hW hcnd _
  have hval : ∀ (j : Nat) t v, Try.f5.params[j]? = some t → args[j]? = some v → Value.okWide Try.prog W .any base t v := hval0
  have hW' := hW
  obtain ⟨p, q, hA0, hV, hpq, hfz, hnd⟩ := hW
  have hA : DataW.TrodAll enc Try.prog W 0 (fun _ => true) true Try.f5.params.toList args.toList ds p := hA0
  rw [Try.params5] at hA hval
  obtain ⟨v0, vs0, d0, ds0, p0, q0, hargs, rfl, rfl, h0, r0⟩ := trodAll_cons hA
  obtain ⟨v1, vs1, d1, ds1, p1, q1, rfl, rfl, rfl, h1, r1⟩ := trodAll_cons r0
  obtain ⟨rfl, rfl, rfl⟩ := trodAll_nil r1
  obtain rfl : args = #[v0, v1] := by cases args; simp_all
  have k0 := hval 0 32 v0 rfl rfl
  have k1 := hval 1 5 v1 rfl rfl
  clear hA0 hval0 hval hcnd hfz hnd hpq hV hargs r1
  suffices hs : Calls Try.prog 5 #[v0, v1] W (Gives (.bool true) W) from hs.mono fun e W' ⟨he, x, hx⟩ => ⟨_, he, law_post mergeAll_laidOut hW' rfl rfl (by kernel_rfl) (by first | exact Try.underlying4 | rfl) mergeAll_types (hx ▸ W.below_past x)⟩
  clear hW'
  obtain ⟨A, ca, l, rfl, hl, hm⟩ := rd_rows (rd_slice Try.underlying32 k0 h0)
  obtain ⟨y, rfl, _, _, hy⟩ := open_int Try.underlying5 k1 h1
  exact MergeAll_any A ca _ l rfl hm y (by have := u8_of hy; unfold U8 at this; omega) W hl
theorem mergeAll_holds : Rows.MergeAllSaid :=
  OpenClaim.holds_of_wide 5 Try.f5 rfl rfl rfl rfl rfl rfl rfl ⟨rfl, rfl, rfl, rfl, rfl⟩ rfl rfl rfl rfl rfl (by kernel_rfl) Try.func5 (by kernel_rfl)
    (of_decide_eq_true (by kernel_rfl)) (by unfold Func.isWrapper; first | (rw [if_pos (by decide +kernel)]; kernel_rfl) | (rw [if_neg (by decide +kernel)]; exact ⟨rfl, rfl⟩))
    (fun os started H enc _ => mergeAll_lifted os started H enc)
end Go.Proofs.Ythemogfniohdiaa
