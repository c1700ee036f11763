/-
  Layer 34: is all as the document has it? It is. No condition.
-/
import Derived.Test.YtccfamagckgamaaHisI
namespace Go.Proofs.Ytccfamagckgamaa
open Go.RowKit Go.Shelf
attribute [local go_sem] Oper.semAt_some
theorem pre_snoc {α : Type} {a b : List α} {x y : α} (h : a ++ [x] <+: b ++ [y]) : (a ++ [x] <+: b) ∨ (a = b ∧ x = y) := by
  obtain ⟨t, ht⟩ := h
  rcases List.eq_nil_or_concat t with rfl | ⟨t, z, rfl⟩
  · rw [List.append_nil] at ht
    have := List.append_inj' ht rfl
    exact .inr ⟨this.1, by simpa using this.2⟩
  · left
    rw [List.concat_eq_append, ← List.append_assoc] at ht
    have := List.append_inj' ht rfl
    exact ⟨t, this.1⟩
theorem places_next {L : List Cm} {pre : List (Int × Int)} {x : Int × Int} : ∀ {m : Nat}, pre ++ [x] <+: placesF L m → ∃ k, k < m ∧ x = ((k : Int), atF L k) ∧ 0 < atF L k ∧ pre = placesF L k
  | 0, h => by
    have := h.length_le
    simp [placesF] at this
  | m + 1, h => by
    rw [placesF] at h
    by_cases c : 0 < atF L m
    · rw [if_pos c] at h
      rcases pre_snoc h with h | ⟨h1, h2⟩
      · obtain ⟨k, h1, h2⟩ := places_next h
        exact ⟨k, by omega, h2⟩
      · exact ⟨m, by omega, h2, c, h1⟩
    · rw [if_neg c, List.append_nil] at h
      obtain ⟨k, h1, h2⟩ := places_next h
      exact ⟨k, by omega, h2⟩
def lastOf (pre : List (Int × Int)) : Int := (pre.getLast?.map (·.1)).getD (-1)
theorem last_snoc (pre : List (Int × Int)) (x : Int × Int) : lastOf (pre ++ [x]) = x.1 := by simp [lastOf]
theorem last_places (L : List Cm) (h : ∀ x ∈ L, U64 x.1 ∧ 1 ≤ x.2) : ∀ k : Nat, -1 ≤ lastOf (placesF L k) ∧ lastOf (placesF L k) < k ∧ ∀ j : Nat, j < k → lastOf (placesF L k) < j → atF L j = 0 := by
  intro k
  induction k with
  | zero => exact ⟨by simp [placesF, lastOf], by simp [placesF, lastOf], fun j hj => by omega⟩
  | succ k ih =>
    rw [placesF]
    by_cases c : 0 < atF L k
    · rw [if_pos c, last_snoc]
      exact ⟨by show -1 ≤ (k : Int); omega, by show (k : Int) < ((k + 1 : Nat) : Int); omega, fun j hj hl => by have : (k : Int) < j := hl; omega⟩
    · rw [if_neg c, List.append_nil]
      refine ⟨ih.1, by omega, fun j hj hl => ?_⟩
      by_cases e : j = k
      · subst e; have := (at_range h j).1; omega
      · exact ih.2.2 j (by omega) hl
theorem At_out (b : Nat) (L : List Cm) (p : Int) (hp : p < 0 ∨ 65 ≤ p) (w : World) (h : HisAt w b L) : Calls Try.prog 20 #[.pointer (some ⟨b, 0, none⟩), .int .i64 p] w (Gives (.int .i64 0) w) := by
  clear h
  by_cases h1 : p < 0
  · go_enter Try.func20, Try.ntmps20
    go_wp2
    go_ret
    exact Gives.refl rfl
  · have h2 : 65 ≤ p := by omega
    go_enter Try.func20, Try.ntmps20
    go_wp2
    go_ret
    exact Gives.refl rfl
theorem Places_any (bh : Nat) (w : World) :
    Calls Try.prog 18 #[.pointer (some ⟨bh, 0, none⟩)] w (fun e w' => e = .returned (.func (.func 28) #[] #[.pointer (some ⟨w.heap.size, 0, none⟩)]) ∧
      Below w.heap.size w w' ∧ w'.heap.size = w.heap.size + 1 ∧ w'.cell? ⟨w.heap.size, 0, none⟩ = some (.pointer (some ⟨bh, 0, none⟩))) := by
  go_enter Try.func18, Try.ntmps18
  go_wp2
  go_ret
  exact ⟨rfl, (Below.refl _ w).alloc (Nat.le_refl _) _, by simp, by simp [go_sem]⟩
def encI (x : Int × Int) : Array Value := #[.int .i64 x.1, .int .i64 x.2]
theorem places_seq (m : Nat) (hm : 1 ≤ m) (w0 : World) (Bx bh : Nat) (L : List Cm) (hL : OkL L) (T : Nat → Prop) (hT : ∀ k, T k → k < w0.heap.size) (hBx : w0.cell? ⟨Bx, 0, none⟩ = some (.pointer (some ⟨bh, 0, none⟩))) (hBT : ¬ T Bx) (hh : HisAt w0 bh L) (hbT : ¬ T bh) :
    SeqE Fence.wide m Try.prog 28 #[.pointer (some ⟨Bx, 0, none⟩)] encI T (fun ys => ys = placesF L 65) (fun pre => pre <+: placesF L 65) (placesF L 65).length w0 :=
  fun lp J Jx W hW hJ _ hY h0 => places1_in m hm lp w0 Bx bh L hL T hT hBx hBT hh hbT J Jx W hW hJ hY h0
/-- What holds between two rounds. -/
structure RndP (T : Nat → Prop) (w6 : World) (R K : Nat) (v : Int) (W : World) : Prop where
  keep : KS T w6 W
  res : Boxed W R 4 (.bool false)
  last : Boxed W K 3 (.int .i64 v)
theorem RndP.far {T : Nat → Prop} {w6 : World} {R K : Nat} {v : Int} {A B : World} (h : RndP T w6 R K v A) (hR : R < w6.heap.size) (hK : K < w6.heap.size) (hb : Below w6.heap.size A B) : RndP T w6 R K v B :=
  ⟨h.keep.far hb, (hb.block _ hR).trans h.res, (hb.block _ hK).trans h.last⟩
theorem RndP.past {T : Nat → Prop} {w6 : World} {R K : Nat} {v : Int} {A : World} (h : RndP T w6 R K v A) (hR : R < w6.heap.size) (hK : K < w6.heap.size) (x : Past) : RndP T w6 R K v (A.past x) :=
  h.far hR hK ((A.below_past x).mono h.keep.size)
theorem RndP.put {T : Nat → Prop} {w6 : World} {R K : Nat} {v : Int} {A : World} (h : RndP T w6 R K v A) (hT : T K) (hRK : R ≠ K) (u : Int) : RndP T w6 R K u (A.setCell ⟨K, 0, none⟩ (.int .i64 u)) :=
  ⟨h.keep.setCell hT 0 _, ((KS.refl (fun q => q = K) _).setCell rfl 0 _).boxed hRK h.res, h.last.set _⟩
def lastAt (K : Nat) (wr : World) : Int := match wr.cell? ⟨K, 0, none⟩ with | some (.int _ z) => z | _ => 0
theorem RndP.at {T : Nat → Prop} {w6 : World} {R K : Nat} {v : Int} {A : World} (h : RndP T w6 R K v A) : lastAt K A = v := by unfold lastAt; rw [h.last.cell]
set_option maxRecDepth 100000 in
set_option maxHeartbeats 1000000 in
theorem same_any (bh bw : Nat) (L : List Cm) (hL : OkL L) (part parts : Int) (hp : I64 part) (hps : I64 parts) (w : World) (hh : HisAt w bh L) (hr : RefR w bw L) :
    Calls Try.prog 14 #[.pointer (some ⟨bh, 0, none⟩), .pointer (some ⟨bw, 0, none⟩), .int .i64 part, .int .i64 parts] w (Gives (.bool true) w) := by
  have AH : ∀ W, Below w.heap.size w W → HisAt W bh L := fun W hb => Rec.below hh hb (Nat.le_refl _)
  have AR : ∀ W, Below w.heap.size w W → RefR W bw L := fun W hb => hr.below hb
  have P1 := hid (fun W hb => Below_any bh L hL part parts hp hps W (AH W hb))
  have P2 := hid (fun W hb => RBelow_any bw L hL part parts W (AR W hb))
  have P3 := hid (fun W hb => Most_any bh L W (AH W hb))
  have P4 := hid (fun W hb => Count_any bh L W (AH W hb))
  have P5 := hid (fun W hb => RCount_any bw L hL W (AR W hb))
  have P6 := hid (fun W hb => HSum_any bh L W (AH W hb))
  have P7 := hid (fun W hb => RSum_any bw L hL W (AR W hb))
  have P8 := hid (fun W hb => RMost_any bw L hL W (AR W hb))
  have P9 := hid (fun (p : Nat) W hb => RAt_any bw L hL p W (AR W hb))
  have P10 := hid (fun (p : Nat) (h : p < 65) W hb => At_any bh L p h W (AH W hb))
  have P11 := hid (fun (p : Int) (h : p < 0 ∨ 65 ≤ p) W hb => At_out bh L p h W (AH W hb))
  have HH := hid hh
  have HL := hid hL
  have hbh := Rec.lt hh
  clear AH AR hh hr hL hp hps
  obtain ⟨W, eW⟩ : ∃ W, W = ((w.alloc (.cells #[.pointer (some ⟨bh, 0, none⟩)] 25)).alloc (.cells #[.pointer (some ⟨bw, 0, none⟩)] 36)).alloc (.cells #[.bool false] 4) := ⟨_, rfl⟩
  refine (callsIn_wide (n := 5)).1 ?_
  refine callsIn_of_wp_marks Try.func14 rfl trivial ?_ rfl
  simp only [Try.ntmps14, List.size_toArray, List.length_cons, List.length_nil, Nat.reduceAdd, Nat.reduceSub, Array.replicate_succ, Array.replicate_zero, List.push_toArray, List.append_toArray, List.nil_append, List.cons_append]
  have b4 := ((Boxed.new w 25 (.pointer (some ⟨bh, 0, none⟩))).alloc (.cells #[.pointer (some ⟨bw, 0, none⟩)] 36)).alloc (.cells #[.bool false] 4)
  have b5 := (Boxed.new (w.alloc (.cells #[.pointer (some ⟨bh, 0, none⟩)] 25)) 36 (.pointer (some ⟨bw, 0, none⟩))).alloc (.cells #[.bool false] 4)
  have b8 := Boxed.new ((w.alloc (.cells #[.pointer (some ⟨bh, 0, none⟩)] 25)).alloc (.cells #[.pointer (some ⟨bw, 0, none⟩)] 36)) 4 (.bool false)
  rw [World.size_alloc] at b5
  rw [World.size_alloc, World.size_alloc] at b8
  have hBW : Below w.heap.size w W := by rw [eW]; exact (((Below.refl _ w).alloc (Nat.le_refl _) _).alloc (by simp) _).alloc (by simp; omega) _
  have hsz : W.heap.size = w.heap.size + 3 := by rw [eW]; simp
  rw [← eW] at b4 b5 b8
  have EW := hid eW
  clear eW
  have hz : (if cntF L = 0 then 0 else mostF L) = mostF L := by
    by_cases c : cntF L = 0
    · rw [if_pos c, (cnt_zero HL.out.each).1 c]; rfl
    · rw [if_neg c]
  have hz2 : (!decide (cntF L = 0)) = decide (0 < cntF L) := by
    have := cnt_nonneg HL.out.each
    by_cases c : cntF L = 0
    · simp [c]
    · simp [c]; omega
  rw [hz, hz2] at P3
  clear hz hz2
  obtain ⟨r, er⟩ : ∃ r, belowF L part parts = r := ⟨_, rfl⟩
  rw [er] at P1 P2
  clear er
  have q4 := b4.cell
  have q5 := b5.cell
  have PP2 := hid (fun x => P2.out (W.past x) (below_trans' hBW (W.below_past x)))
  have PP3 := hid (fun x => P3.out (W.past x) (below_trans' hBW (W.below_past x)))
  gi_wp2_with fail
  rw [← EW.out]
  refine (callsIn_wide.2 (P1.out W hBW)).mono ?_
  rintro _ _ ⟨rfl, x1, rfl⟩
  gi_wp2_with (first | (gi_at_call 24; refine (callsIn_wide.2 (PP2.out _)).mono ?_; rintro _ _ ⟨rfl, x2, rfl⟩) | (gi_at_call 10; refine (callsIn_wide.2 (PP3.out _)).mono ?_; rintro _ _ ⟨rfl, x3, rfl⟩))
  obtain ⟨Wz, eWz⟩ : ∃ Wz, Wz = W.past ((x1.and x2).and x3) := ⟨_, rfl⟩
  have hWz : Below W.heap.size W Wz := by rw [eWz]; exact W.below_past _
  rw [← eWz]
  have b4z : Boxed Wz w.heap.size 25 (.pointer (some ⟨bh, 0, none⟩)) := (hWz.block _ (by omega)).trans b4
  have b5z : Boxed Wz (w.heap.size + 1) 36 (.pointer (some ⟨bw, 0, none⟩)) := (hWz.block _ (by omega)).trans b5
  have b8z : Boxed Wz (w.heap.size + 1 + 1) 4 (.bool false) := (hWz.block _ (by omega)).trans b8
  have hBz := below_trans' hBW hWz
  have hsz2 : w.heap.size + 3 ≤ Wz.heap.size := by have := hWz.size; omega
  have q4 := b4z.cell
  have q5 := b5z.cell
  have R4 := hid (fun x => P4.out (Wz.past x) (below_trans' hBz (Wz.below_past x)))
  have R5 := hid (fun x => P5.out (Wz.past x) (below_trans' hBz (Wz.below_past x)))
  have R6 := hid (fun x => P6.out (Wz.past x) (below_trans' hBz (Wz.below_past x)))
  have R7 := hid (fun x => P7.out (Wz.past x) (below_trans' hBz (Wz.below_past x)))
  have R8 := hid (fun x => P8.out (Wz.past x) (below_trans' hBz (Wz.below_past x)))
  clear b4 b5 b8 hBW hsz EW eWz hWz PP2 PP3 P1 P2 P3 P4 P5 P6 P7 P8
  refine wpIn_region_past rfl (by kernel_rfl) (by kernel_rfl) ?_
  repeat (gi_big_quiet_step ((first | (gi_at_call 17; with_reducible exact CallsIn.past_wide (R4.out _)) | (gi_at_call 15; with_reducible exact CallsIn.past_wide (R5.out _)) | (gi_at_call 19; with_reducible exact CallsIn.past_wide (R6.out _)) | (gi_at_call 25; with_reducible exact CallsIn.past_wide (R7.out _)) | (gi_at_call 26; with_reducible exact CallsIn.past_wide (R8.out _)))))
  refine wpQuietIn_nil ?_
  rintro Wy ⟨y, eWy⟩
  have hWy : Below Wz.heap.size Wz Wy := by rw [eWy]; exact Wz.below_past y
  have b4y : Boxed Wy w.heap.size 25 (.pointer (some ⟨bh, 0, none⟩)) := (hWy.block _ (by omega)).trans b4z
  have b5y : Boxed Wy (w.heap.size + 1) 36 (.pointer (some ⟨bw, 0, none⟩)) := (hWy.block _ (by omega)).trans b5z
  have b8y : Boxed Wy (w.heap.size + 1 + 1) 4 (.bool false) := (hWy.block _ (by omega)).trans b8z
  have hBy := below_trans' hBz hWy
  have hszy : w.heap.size + 3 ≤ Wy.heap.size := by have := hWy.size; omega
  clear b4z b5z b8z hBz hsz2 hWy eWy q4 q5 R4 R5 R6 R7 R8
  obtain ⟨W5, eW5⟩ : ∃ W5, W5 = Wy.alloc (.cells #[.int .i64 (-1)] 3) := ⟨_, rfl⟩
  have h5 : Below Wy.heap.size Wy W5 := by rw [eW5]; exact (Below.refl _ Wy).alloc (Nat.le_refl _) _
  have hs5 : W5.heap.size = Wy.heap.size + 1 := by rw [eW5]; simp
  have bL : Boxed W5 Wy.heap.size 3 (.int .i64 (-1)) := by rw [eW5]; exact Boxed.new Wy _ _
  have b4 : Boxed W5 w.heap.size 25 (.pointer (some ⟨bh, 0, none⟩)) := (h5.block _ (by omega)).trans b4y
  have b5 : Boxed W5 (w.heap.size + 1) 36 (.pointer (some ⟨bw, 0, none⟩)) := (h5.block _ (by omega)).trans b5y
  have b8 : Boxed W5 (w.heap.size + 1 + 1) 4 (.bool false) := (h5.block _ (by omega)).trans b8y
  have hB5 := below_trans' hBy h5
  have q4 := b4.cell
  rw [eW5] at q4
  have EW5 := hid eW5
  clear b4y b5y b8y hBy h5 eW5
  gi_wp2_with fail
  rw [← EW5.out]
  refine (callsIn_wide.2 (Places_any bh W5)).mono ?_
  rintro _ w6 ⟨rfl, hb6, hs6, hx6⟩
  have c4 : Boxed w6 w.heap.size 25 (.pointer (some ⟨bh, 0, none⟩)) := (hb6.block _ (by omega)).trans b4
  have c5 : Boxed w6 (w.heap.size + 1) 36 (.pointer (some ⟨bw, 0, none⟩)) := (hb6.block _ (by omega)).trans b5
  have c8 : Boxed w6 (w.heap.size + 1 + 1) 4 (.bool false) := (hb6.block _ (by omega)).trans b8
  have cL : Boxed w6 Wy.heap.size 3 (.int .i64 (-1)) := (hb6.block _ (by omega)).trans bL
  have hB6 := below_trans' hB5 hb6
  clear b4 b5 b8 bL q4 EW5 hB5 hb6
  obtain ⟨T, eT⟩ : ∃ T : Nat → Prop, T = fun k => k = w.heap.size + 1 + 1 ∨ k = Wy.heap.size := ⟨_, rfl⟩
  obtain ⟨M, eM⟩ : ∃ M, placesF L 65 = M := ⟨_, rfl⟩
  have hR6 : w.heap.size + 1 + 1 < w6.heap.size := c8.lt
  have hK6 : Wy.heap.size < w6.heap.size := cL.lt
  have hTR : T (w.heap.size + 1 + 1) := by rw [eT]; exact .inl rfl
  have hTK : T (Wy.heap.size) := by rw [eT]; exact .inr rfl
  have hTw : ∀ k, T k → k < w6.heap.size := by rw [eT]; rintro k (rfl | rfl); exact hR6; exact hK6
  have hTb : ∀ k, T k → w.heap.size ≤ k := by rw [eT]; rintro k (rfl | rfl) <;> omega
  have hTx : ¬ T (Wy.heap.size + 1) := by rw [eT]; rintro (h | h) <;> omega
  have hT4 : ¬ T w.heap.size := by rw [eT]; rintro (h | h) <;> omega
  have hT5 : ¬ T (w.heap.size + 1) := by rw [eT]; rintro (h | h) <;> omega
  have hTbh : ¬ T bh := by rw [eT]; rintro (h | h) <;> omega
  have hseq := places_seq (5 - 1) (by omega) w6 (Wy.heap.size + 1) bh L HL.out T hTw (by rw [← hs5]; exact hx6) hTx (Rec.below HH.out hB6 (Nat.le_refl _)) hTbh
  rw [eM] at hseq
  clear eT
  gi_wp2_with fail
  refine wpIn_rangeFunc_E rfl (by omega) (gf := 28) (lb := #[.pointer (some ⟨Wy.heap.size + 1, 0, none⟩)]) rfl trivial (enters_of Try.func28 (by kernel_rfl) rfl) hseq hTw (KS.refl _ _) (fun _ => rfl)
    (fun pre W => RndP T w6 (w.heap.size + 1 + 1) Wy.heap.size (lastOf pre) W ∧ pre <+: M)
    (fun _ _ _ => False)
    (fun _ _ _ h hb => ⟨h.1.far hR6 hK6 hb, h.2⟩)
    (fun _ _ _ _ h _ => h.elim)
    ⟨⟨KS.refl _ _, c8, cL⟩, List.nil_prefix⟩
    (fun x => { tmps := #[Value.pointer (some { block := bh, off := 0 }), Value.pointer (some { block := bw, off := 0 }), Value.int IntKind.i64 part, Value.int IntKind.i64 parts, Value.pointer (some { block := w.heap.size, off := 0 }), Value.pointer (some { block := w.heap.size + 1, off := 0 }), undef, undef, Value.pointer (some { block := w.heap.size + 1 + 1, off := 0 }), Value.int IntKind.u64 r.fst, Value.bool r.snd, Value.int IntKind.u64 r.fst, Value.bool r.snd, Value.int IntKind.u64 (mostF L), Value.bool (decide (0 < cntF L)), Value.pointer (some { block := Wy.heap.size, off := 0 }), .int .i64 x.1, .int .i64 x.2, Value.tuple #[Value.int IntKind.u64 r.fst, Value.bool r.snd], Value.pointer (some { block := bh, off := 0 }), Value.int IntKind.i64 part, Value.int IntKind.i64 parts, Value.tuple #[Value.int IntKind.u64 r.fst, Value.bool r.snd], Value.int IntKind.u64 r.fst, Value.bool r.snd, Value.tuple #[Value.int IntKind.u64 r.fst, Value.bool r.snd], Value.pointer (some { block := bw, off := 0 }), Value.int IntKind.i64 part, Value.int IntKind.i64 parts, Value.tuple #[Value.int IntKind.u64 r.fst, Value.bool r.snd], Value.int IntKind.u64 r.fst, Value.bool r.snd, Value.tuple #[Value.int IntKind.u64 (mostF L), Value.bool (decide (0 < cntF L))], Value.pointer (some { block := bh, off := 0 }), Value.tuple #[Value.int IntKind.u64 (mostF L), Value.bool (decide (0 < cntF L))], Value.int IntKind.u64 (mostF L), Value.bool (decide (0 < cntF L)), Value.int IntKind.u64 r.fst, Value.int IntKind.u64 r.fst, Value.bool false, Value.bool false, Value.bool r.snd, Value.bool r.snd, Value.bool false, Value.bool false, Value.bool false, Value.pointer (some { block := bh, off := 0 }), Value.int IntKind.i64 (cntF L), Value.pointer (some { block := bw, off := 0 }), Value.int IntKind.i64 (cntF L), Value.bool false, Value.bool false, Value.bool false, Value.pointer (some { block := bh, off := 0 }), Value.int IntKind.u64 (totF L), Value.pointer (some { block := bw, off := 0 }), Value.int IntKind.u64 (totF L), Value.bool false, Value.bool false, Value.bool false, Value.int IntKind.u64 (mostF L), Value.pointer (some { block := bw, off := 0 }), Value.int IntKind.u64 (mostF L), Value.bool false, Value.bool false, Value.bool false, Value.bool (decide (0 < cntF L)), Value.pointer (some { block := bw, off := 0 }), Value.int IntKind.i64 (cntF L), Value.bool (decide (0 < cntF L)), Value.bool false, Value.bool false, Value.pointer (some { block := bh, off := 0 }), Value.func (Fn.func 28) #[] #[Value.pointer (some { block := Wy.heap.size + 1, off := 0 })], .int .i64 x.1, .int .i64 x.2, undef, undef, undef, undef, undef, undef, undef, undef, undef, undef, undef, undef, undef, undef, undef, undef, undef, undef, undef, undef, undef, undef, undef, undef, undef, undef, undef, undef, undef, undef, undef, undef, undef, undef, undef, undef, undef, undef, undef, undef, undef, undef, undef, undef, undef, undef, undef, undef, undef, undef, undef], defers := [] }) ?assign ?body ?done ?stop
  case assign =>
    intro lq x W K hK
    simp only [encI]
    gi_wp2
    exact hK
  case stop => rintro D c pre W hD hSp h; exact h.elim
  case body =>
    rintro lq pre ⟨x1, x2⟩ W hsW ⟨hJ, _⟩ hlen hsp
    obtain ⟨k, hk, hx, hpos, hpre⟩ := places_next (L := L) (m := 65) (by rw [eM]; exact hsp)
    injection hx with hx1 hx2
    subst hx1; subst hx2
    obtain ⟨l1, l2, l3⟩ := last_places L HL.out.each k
    rw [← hpre] at l1 l2 l3
    have hlast : lastOf (pre ++ [((k : Int), atF L k)]) = k := last_snoc _ _
    obtain ⟨v, ev⟩ : ∃ v, lastOf pre = v := ⟨_, rfl⟩
    rw [ev] at l1 l2 l3 hJ
    have hBW : Below w.heap.size w W := hB6.trans (hJ.keep.under hTb hB6.size)
    have q4 := (hJ.keep.boxed hT4 c4).cell
    have q5 := (hJ.keep.boxed hT5 c5).cell
    have q15 := hJ.last.cell
    have f15 := hJ.last.frozen
    have f8 := hJ.res.frozen
    obtain ⟨j0, ej0⟩ := Int.eq_ofNat_of_zero_le (show 0 ≤ v + 1 by omega)
    have e1 : IntKind.i64.wrap (v + 1) = j0 := by rw [IntKind.wrap_i64]; omega
    have EJ := hid ej0
    have HSP := hid hsp
    have HJ0 := hid (hJ.put hTK (by omega) (j0 : Int))
    have HKS := hid (show KS T W (W.setCell ⟨Wy.heap.size, 0, none⟩ (.int .i64 (j0 : Int))) from (KS.refl _ _).setCell hTK 0 _)
    have HLAST := hid hlast
    have HL3 := hid l3
    clear ev hpre hlast hsp l3 hseq hJ ej0
    gi_wp2
    clear q4 q5 q15 f15 f8 e1
    gi_loopw [78] (fun _ wr => ∃ j : Nat, v + 1 ≤ j ∧ j ≤ k ∧ Hid (RndP T w6 (w.heap.size + 1 + 1) Wy.heap.size j wr) ∧ Hid (KS T W wr)) (fun _ wr => (k - lastAt Wy.heap.size wr).toNat)
    case atStart => exact ⟨j0, by have := EJ.out; omega, by have := EJ.out; omega, HJ0, HKS⟩
    case round =>
      obtain ⟨j, hj1, hj2, HR, HK⟩ := hrel
      clear HJ0 HKS
      have hB := hid (show Below w.heap.size w wr from hB6.trans (HR.out.keep.under hTb hB6.size))
      have q4 := (HR.out.keep.boxed hT4 c4).cell
      have q5 := (HR.out.keep.boxed hT5 c5).cell
      have q15 := HR.out.last.cell
      have f15 := HR.out.last.frozen
      have hlt15 := HR.out.last.lt
      have e2 : IntKind.i64.wrap ((j : Int) + 1) = (j : Int) + 1 := by rw [IntKind.wrap_i64]; omega
      by_cases hlt : j < k
      · have hz := HL3.out j hlt (by omega)
        have hat := P9.out j wr hB.out
        rw [hz] at hat
        have HAT := hid hat
        have hat0 := HR.out.at
        clear hz hat
        gi_wp2_with (gi_at_call 27; refine (callsIn_wide.2 HAT.out).mono ?_; rintro _ _ ⟨rfl, x1, rfl⟩)
        have hput := (HR.out.put hTK (by omega) ((j : Int) + 1)).past hR6 hK6 x1
        go_roundw
        case rel => exact ⟨j + 1, by omega, by omega, hid (by rw [show (((j + 1 : Nat)) : Int) = (j : Int) + 1 by omega]; exact hput), hid ((HK.out.setCell hTK 0 _).trans (KS.of_below (World.below_past _ _)))⟩
        case measure => rw [hput.at, hat0]; omega
      · obtain rfl : j = k := by omega
        have HAT := hid (fun x => P9.out j (wr.past x) (below_trans' hB.out (wr.below_past x)))
        have HAT0 := hid (P9.out j wr hB.out)
        have HAH := hid (fun x => P10.out j hk (wr.past x) (below_trans' hB.out (wr.below_past x)))
        have hne : (atF L j == 0) = false := by simp; omega
        gi_wp2_with (first | (gi_at_call 27; refine (callsIn_wide.2 HAT0.out).mono ?_; rintro _ _ ⟨rfl, x1, rfl⟩) | (gi_at_call 20; refine (callsIn_wide.2 (HAH.out _)).mono ?_; rintro _ _ ⟨rfl, x2, rfl⟩))
        refine ⟨HK.out.trans (KS.of_below (wr.below_past _)), ?_, HSP.out⟩
        rw [HLAST.out]
        exact HR.out.past hR6 hK6 _
  case done =>
    rintro D xs W hD rfl ⟨hJ, _⟩ hKD
    obtain ⟨l1, l2, l3⟩ := last_places L HL.out.each 65
    rw [eM] at l1 l2 l3
    obtain ⟨v, ev⟩ : ∃ v, lastOf xs = v := ⟨_, rfl⟩
    rw [ev] at l1 l2 l3 hJ
    have q4 := (hJ.keep.boxed hT4 c4).cell
    have q5 := (hJ.keep.boxed hT5 c5).cell
    have q15 := hJ.last.cell
    have f15 := hJ.last.frozen
    obtain ⟨j0, ej0⟩ := Int.eq_ofNat_of_zero_le (show 0 ≤ v + 1 by omega)
    have e1 : IntKind.i64.wrap (v + 1) = j0 := by rw [IntKind.wrap_i64]; omega
    have EJ := hid ej0
    have HJ0 := hid (hJ.put hTK (by omega) (j0 : Int))
    have HL3 := hid l3
    have HKD := hid (show (W.setCell ⟨Wy.heap.size, 0, none⟩ (.int .i64 (j0 : Int))).heap[D]? = some (.deferred (some [])) from (Below.heap_setCell W ⟨Wy.heap.size, 0, none⟩ _ D (by simp; omega)).trans hKD)
    clear ev l3 hseq hJ hKD ej0
    gi_wp2
    clear q4 q5 q15 f15 e1
    gi_loopw [105] (fun _ wr => ∃ j : Nat, v + 1 ≤ j ∧ j ≤ 65 ∧ Hid (RndP T w6 (w.heap.size + 1 + 1) Wy.heap.size j wr) ∧ Hid (wr.heap[D]? = some (.deferred (some [])))) (fun _ wr => (65 - lastAt Wy.heap.size wr).toNat)
    case atStart => exact ⟨j0, by have := EJ.out; omega, by have := EJ.out; omega, HJ0, HKD⟩
    case round =>
      obtain ⟨j, hj1, hj2, HR, HD⟩ := hrel
      clear HJ0 HKD
      have hB := hid (show Below w.heap.size w wr from hB6.trans (HR.out.keep.under hTb hB6.size))
      have q4 := (HR.out.keep.boxed hT4 c4).cell
      have q5 := (HR.out.keep.boxed hT5 c5).cell
      have q15 := HR.out.last.cell
      have f15 := HR.out.last.frozen
      have f8 := HR.out.res.frozen
      have q8 := HR.out.res.cell
      have hlt15 := HR.out.last.lt
      have hlt8 := HR.out.res.lt
      have e2 : IntKind.i64.wrap ((j : Int) + 1) = (j : Int) + 1 := by rw [IntKind.wrap_i64]; omega
      have hDlt : D < wr.heap.size := (Array.getElem?_eq_some_iff.1 HD.out).1
      by_cases hlt : j < 65
      · have hz := HL3.out j hlt (by omega)
        have hat := P9.out j wr hB.out
        rw [hz] at hat
        have HAT := hid hat
        have HAH := hid (fun x => (by have := P10.out j hlt (wr.past x) (below_trans' hB.out (wr.below_past x)); rw [hz] at this; exact this : Calls Try.prog 20 #[.pointer (some ⟨bh, 0, none⟩), .int .i64 j] (wr.past x) (Gives (.int .i64 0) (wr.past x))))
        have hat0 := HR.out.at
        have hle : (j : Int) ≤ 64 := by omega
        clear hz hat
        gi_wp2_with (first | (gi_at_call 27; refine (callsIn_wide.2 HAT.out).mono ?_; rintro _ _ ⟨rfl, x1, rfl⟩) | (gi_at_call 20; refine (callsIn_wide.2 (HAH.out _)).mono ?_; rintro _ _ ⟨rfl, x2, rfl⟩))
        have hput := (HR.out.put hTK (by omega) ((j : Int) + 1)).past hR6 hK6 (x1.and x2)
        go_roundw
        case rel =>
          refine ⟨j + 1, by omega, by omega, hid (by rw [show (((j + 1 : Nat)) : Int) = (j : Int) + 1 by omega]; exact hput), hid ?_⟩
          rw [World.block_past (by simpa [World.setCell] using hDlt)]
          exact (Below.heap_setCell wr ⟨Wy.heap.size, 0, none⟩ _ D (by simp; omega)).trans HD.out
        case measure => rw [hput.at, hat0]; omega
      · obtain rfl : j = 65 := by omega
        have HA0 := hid (P11.out (-1) (.inl (by omega)) wr hB.out)
        have HA1 := hid (fun x => P11.out 65 (.inr (by omega)) (wr.past x) (below_trans' hB.out (wr.below_past x)))
        gi_wp2_with fail
        refine (callsIn_wide.2 HA0.out).mono ?_
        rintro _ _ ⟨rfl, x1, rfl⟩
        gi_wp2_with fail
        refine (callsIn_wide.2 (HA1.out _)).mono ?_
        rintro _ _ ⟨rfl, x2, rfl⟩
        gi_wp2_with fail
        have hRD : w.heap.size + 1 + 1 ≠ D := by omega
        have hsS : (wr.setCell ⟨w.heap.size + 1 + 1, 0, none⟩ (.bool true)).heap.size = wr.heap.size := by simp [World.setCell]
        have hKF : ((wr.setCell ⟨w.heap.size + 1 + 1, 0, none⟩ (.bool true)).past (x1.and x2)).heap[D]? = some (.deferred (some [])) := by
          rw [World.block_past (by rw [hsS]; exact hDlt)]
          exact (Below.heap_setCell wr ⟨w.heap.size + 1 + 1, 0, none⟩ _ D (by simp; omega)).trans HD.out
        have hbx : Boxed (((wr.setCell ⟨w.heap.size + 1 + 1, 0, none⟩ (.bool true)).past (x1.and x2)).putObj D (.deferred none)) (w.heap.size + 1 + 1) 4 (.bool true) :=
          (World.putObj_heap_other hRD).trans ((World.block_past (by rw [hsS]; exact hlt8)).trans (HR.out.res.set _))
        have hcx := hbx.cell
        have hBx := below_putObj (RowKit.Below.past (RowKit.Below.setCell (p := ⟨w.heap.size + 1 + 1, 0, none⟩) hB.out (by simp; omega) (.bool true)) (x1.and x2)) (show w.heap.size ≤ D by omega) (.deferred none)
        clear hbx q4 q5 q15 f15 f8 q8
        refine ⟨by simp, .inl ⟨_, _, rfl, run_takeDeferred hKF, ?_⟩⟩
        exact ⟨.bool true, by simp [results, Try.results14, go_sem, hcx], Gives.mk rfl hBx⟩
end Go.Proofs.Ytccfamagckgamaa
