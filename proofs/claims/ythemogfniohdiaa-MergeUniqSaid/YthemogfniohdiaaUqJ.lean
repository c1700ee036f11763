/-
  Layer 32: groups of the same ones, one by one: the contract of the iterator over an iterator. No condition.
-/
import Derived.Test.YthemogfniohdiaaUqI
namespace Go.Proofs.Ythemogfniohdiaa
open Go.RowKit Go.Shelf
attribute [local go_sem] Oper.semAt_some
def encU (x : Int × Int) : Array Value := #[.int .i64 x.2, .int .i64 x.1]
/-- Between two rounds. -/
structure UqP (T' : Nat → Prop) (w3 : World) (Y L Nb lp : Nat) (J : List (Int × Int) → World → Prop) (u : Ust) (V : World) : Prop where
  keep : KS T' w3 V
  j : J u.p V
  y : Boxed V Y 51 (.func (.yield lp) #[] #[])
  l : Boxed V L 3 (.int .i64 u.v)
  n : Boxed V Nb 3 (.int .i64 u.n)
theorem UqP.fin {T' : Nat → Prop} {w3 : World} {Y B lp : Nat} {J : List (Int × Int) → World → Prop} {u : Ust} {V : World} {a b : Int} (hB : Y = B) (keep : KS T' w3 V) (j : J u.p V) (y : Boxed V Y 51 (.func (.yield lp) #[] #[]))
    (hl : Boxed V (B + 1) 3 (.int .i64 a)) (hn : Boxed V (B + 1 + 1) 3 (.int .i64 b)) (hJ : ∀ s A C, J s A → Below B A C → J s C) (hTL : T' (B + 1)) (hTN : T' (B + 1 + 1)) :
    UqP T' w3 Y (B + 1) (B + 1 + 1) lp J u ((V.setCell ⟨B + 1, 0, none⟩ (.int .i64 u.v)).setCell ⟨B + 1 + 1, 0, none⟩ (.int .i64 u.n)) ∧ KS T' V ((V.setCell ⟨B + 1, 0, none⟩ (.int .i64 u.v)).setCell ⟨B + 1 + 1, 0, none⟩ (.int .i64 u.n)) := by
  subst hB
  have k1 : KS T' V ((V.setCell ⟨Y + 1, 0, none⟩ (.int .i64 u.v)).setCell ⟨Y + 1 + 1, 0, none⟩ (.int .i64 u.n)) := ((KS.refl _ V).setCell hTL 0 _).setCell hTN 0 _
  have k2 : Below Y V ((V.setCell ⟨Y + 1, 0, none⟩ (.int .i64 u.v)).setCell ⟨Y + 1 + 1, 0, none⟩ (.int .i64 u.n)) := ((Below.refl Y V).setCell (p := ⟨Y + 1, 0, none⟩) (by simp) _).setCell (p := ⟨Y + 1 + 1, 0, none⟩) (by simp; omega) _
  refine ⟨⟨keep.trans k1, hJ _ _ _ j k2, ?_, ?_, ?_⟩, k1⟩
  · exact ((KS.refl (fun q => q = Y + 1 ∨ q = Y + 1 + 1) V).setCell (.inl rfl) 0 _ |>.setCell (.inr rfl) 0 _).boxed (by omega) y
  · exact ((KS.refl (fun q => q = Y + 1 + 1) _).setCell rfl 0 _).boxed (by omega) (hl.set _)
  · exact (((KS.refl (fun q => q = Y + 1) V).setCell rfl 0 (.int .i64 u.v)).boxed (by omega) hn).set _
set_option maxRecDepth 100000 in
set_option maxHeartbeats 1000000 in
theorem uniq1_in (m : Nat) (hm : 3 ≤ m) (lp : Nat) (w0 : World) (Br Bx : Nat) (A : Option Addr) (n c : Nat) (l : List Int) (en : l.length = n) (h80 : n ≤ 80) (T : Nat → Prop) (hT : ∀ k, T k → k < w0.heap.size)
    (hBr : w0.cell? ⟨Br, 0, none⟩ = some (.func (.func 29) #[] #[.pointer (some ⟨Bx, 0, none⟩)])) (hBrT : ¬ T Br) (hBx : w0.cell? ⟨Bx, 0, none⟩ = some (.slice A n c)) (hBT : ¬ T Bx) (hR : ∀ W, KS T w0 W → Cells W A (i64s l))
    (J Jx : List (Int × Int) → World → Prop) (W : World) (hW : KS T w0 W)
    (hJ : ∀ s A B, J s A → Below W.heap.size A B → J s B) (hJx : ∀ s A B, Jx s A → Below W.heap.size A B → Jx s B)
    (hY : ∀ pre x W1, W.heap.size ≤ W1.heap.size → J pre W1 → pre.length < (uq l n).length → pre ++ [x] <+: uq l n → YieldAt Fence.wide (m - 1) Try.prog lp (encU x) W1 fun e W' =>
      (e = .returned (.bool true) ∧ J (pre ++ [x]) W' ∧ KS (TT T w0.heap.size W.heap.size) W1 W') ∨ (e = .returned (.bool false) ∧ Jx (pre ++ [x]) W' ∧ KS (TT T w0.heap.size W.heap.size) W1 W'))
    (h0 : J [] W) :
    CallsIn Fence.wide m Try.prog 23 #[.func (.yield lp) #[] #[], .pointer (some ⟨Br, 0, none⟩)] W fun e W' => (∃ v, e = .returned v) ∧
      ((∃ ys, ys = uq l n ∧ J ys W') ∨ (∃ pre, pre <+: uq l n ∧ Jx pre W')) := by
  obtain ⟨w3, ew3⟩ : ∃ w3, w3 = ((W.alloc (.cells #[.func (.yield lp) #[] #[]] 51)).alloc (.cells #[.int .i64 0] 3)).alloc (.cells #[.int .i64 0] 3) := ⟨_, rfl⟩
  have bY := ((Boxed.new W 51 (.func (.yield lp) #[] #[])).alloc (.cells #[.int .i64 0] 3)).alloc (.cells #[.int .i64 0] 3)
  have bL := (Boxed.new (W.alloc (.cells #[.func (.yield lp) #[] #[]] 51)) 3 (.int .i64 0)).alloc (.cells #[.int .i64 0] 3)
  have bN := Boxed.new ((W.alloc (.cells #[.func (.yield lp) #[] #[]] 51)).alloc (.cells #[.int .i64 0] 3)) 3 (.int .i64 0)
  rw [World.size_alloc] at bL
  rw [World.size_alloc, World.size_alloc] at bN
  rw [← ew3] at bY bL bN
  have hb3 : Below W.heap.size W w3 := by rw [ew3]; exact (((Below.refl _ W).alloc (Nat.le_refl _) _).alloc (by simp) _).alloc (by simp; omega) _
  have hs3 : w3.heap.size = W.heap.size + 3 := by rw [ew3]; simp
  have hsW := hW.size
  obtain ⟨T', eT'⟩ : ∃ T' : Nat → Prop, T' = fun k => TT T w0.heap.size W.heap.size k ∨ k = W.heap.size + 1 ∨ k = W.heap.size + 1 + 1 := ⟨_, rfl⟩
  have hTT : ∀ k, TT T w0.heap.size W.heap.size k → k < W.heap.size := by
    rintro k (h | ⟨_, h⟩)
    · have := hT k h; omega
    · exact h
  have hT'w : ∀ k, T' k → k < w3.heap.size := by
    rw [eT']; rintro k (h | rfl | rfl)
    · have := hTT k h; omega
    · omega
    · omega
  have hTT' : ∀ k, TT T w0.heap.size W.heap.size k → T' k := by rw [eT']; exact fun k h => .inl h
  have hTL : T' (W.heap.size + 1) := by rw [eT']; exact .inr (.inl rfl)
  have hTN : T' (W.heap.size + 1 + 1) := by rw [eT']; exact .inr (.inr rfl)
  have hTY : ¬ T' W.heap.size := by
    rw [eT']; rintro (h | h | h)
    · have := hTT _ h; omega
    · omega
    · omega
  have hnT : ∀ k, k < w0.heap.size → ¬ T k → ¬ T' k := by
    rw [eT']; rintro k hk hn (h | h | h)
    · rcases h with h | ⟨h, _⟩
      · exact hn h
      · omega
    · omega
    · omega
  have HK := hid (fun V (h : KS T' w3 V) => (KS.onto (hW.trans (KS.of_below hb3)) h (fun i hi hs => by
    rcases Classical.em (T i) with h | h
    · exact h
    · exact absurd hs (hnT i hi h)) : KS T w0 V))
  have hBxlt : Bx < w0.heap.size := World.block_lt_of_cell? w0 _ hBx
  have hBrlt : Br < w0.heap.size := World.block_lt_of_cell? w0 _ hBr
  have qr := (HK.out w3 (KS.refl _ _)).cell hBrT hBr
  rw [ew3] at qr
  have hseq := vals_seq (m - 1) (by omega) w3 Bx A n c l en h80 T' ((HK.out w3 (KS.refl _ _)).cell hBT hBx) (hnT _ hBxlt hBT) (fun V h => hR V (HK.out V h))
  have HSEQ := hid hseq
  have HJ := hid hJ
  have HJX := hid hJx
  have HY := hid hY
  have EN := hid en
  have EW := hid ew3
  have HP0 := hid (show UqP T' w3 W.heap.size (W.heap.size + 1) (W.heap.size + 1 + 1) lp J (ust l 0) w3 from ⟨KS.refl _ _, hJ _ _ _ h0 hb3, bY, bL, bN⟩)
  have hBrW2 : Br < W.heap.size := by omega
  clear hseq hJ hJx hY en ew3 hBr hBx hR hW hT eT' h0 bY bL bN
  refine callsIn_of_wp_marks Try.func23 rfl trivial ?_ rfl
  simp only [Try.ntmps23, List.size_toArray, List.length_cons, List.length_nil, Nat.reduceAdd, Nat.reduceSub, Array.replicate_succ, Array.replicate_zero, List.push_toArray, List.append_toArray, List.nil_append, List.cons_append]
  gi_wp2_with fail
  rw [← EW.out]
  clear qr EW
  apply wpIn_rangeFunc_E rfl (by omega) (gf := 29) (lb := #[.pointer (some ⟨Bx, 0, none⟩)]) rfl trivial (enters_of Try.func29 (by kernel_rfl) rfl) HSEQ.out hT'w (KS.refl _ _) (fun _ => rfl)
    (fun s V => UqP T' w3 W.heap.size (W.heap.size + 1) (W.heap.size + 1 + 1) lp J (ust l s.length) V)
    (fun c s V => c = .ret ∧ ∃ pre, pre <+: uq l n ∧ Jx pre V)
    (fun _ _ _ h hb => ⟨h.keep.far hb, HJ.out _ _ _ h.j (hb.mono (by omega)), (hb.block _ (by omega)).trans h.y, (hb.block _ (by omega)).trans h.l, (hb.block _ (by omega)).trans h.n⟩)
    (fun _ _ _ _ h hb => ⟨h.1, by obtain ⟨pre, h1, h2⟩ := h.2; exact ⟨pre, h1, HJX.out _ _ _ h2 (hb.mono (by omega))⟩⟩)
    HP0.out _ ?assign ?body ?done ?stop
  case assign =>
    intro lq x V K hK
    simp only [enc1]
    gi_wp2
    exact hK
  case body =>
    rintro lq s x V hsV hP hlen hsp
    have hdep : 1 ≤ m - 1 - 1 := by omega
    obtain ⟨k, ek⟩ : ∃ k, s.length = k := ⟨_, rfl⟩
    have hx : x = atL l k := by
      obtain ⟨t, ht⟩ := hsp
      rw [← ek, ← ht]
      simp [atL]
    subst hx
    rw [ek] at hP hlen
    have EK := hid (fun (x : Int) => (show (s ++ [x]).length = k + 1 by rw [List.length_append, ek]; rfl))
    have hun := ust_n l k
    have q3 := hP.l.cell
    have q4 := hP.n.cell
    have f3 := hP.l.frozen
    have f4 := hP.n.frozen
    have lt3 := hP.l.lt
    have lt4 := hP.n.lt
    have HP := hid hP
    have HX := hid hsp
    have hk1 : KS T' w3 V := hP.keep
    clear hP hsp ek HSEQ HP0
    by_cases hop : (ust l k).n = 0 ∨ atL l k = (ust l k).v
    · obtain ⟨o1, o2, o3⟩ := ust_open l hop
      have HF := hid (UqP.fin (u := ust l (k + 1)) rfl HP.out.keep (by rw [o1]; exact HP.out.j) HP.out.y HP.out.l HP.out.n HJ.out hTL hTN)
      rw [o2, o3] at HF
      obtain ⟨x, ex⟩ : ∃ x, atL l k = x := ⟨_, rfl⟩
      obtain ⟨v, ev⟩ : ∃ v, (ust l k).v = v := ⟨_, rfl⟩
      obtain ⟨nn, enn⟩ : ∃ nn, (ust l k).n = nn := ⟨_, rfl⟩
      rw [ex] at HF
      rw [ex, ev, enn] at hop
      rw [ev] at q3
      rw [enn] at q4 hun HF
      have e1 : IntKind.i64.wrap ((nn : Int) + 1) = ((nn + 1 : Nat) : Int) := by rw [IntKind.wrap_i64]; omega
      rw [ex]
      clear ev enn ex o1 o2 o3
      by_cases h0 : nn = 0
      · subst h0
        gi_wp2
        refine ⟨HF.out.2, ?_⟩
        show UqP _ _ _ _ _ _ _ (ust l (s ++ [x]).length) _
        rw [EK.out]
        exact HF.out.1
      · have hop2 : x = v := hop.resolve_left h0
        subst hop2
        have hc : cmpI x x = 0 := by unfold cmpI; rw [if_neg (by omega), if_neg (by omega)]
        have hc2 := fun w => (by have := compare_any x x w; rw [hc] at this; exact this : Calls Try.prog 24 #[.int .i64 x, .int .i64 x] w (fun e w' => e = .returned (.int .i64 0) ∧ w' = w))
        have HC := hid hc2
        have h0' : (0 : Int) < (nn : Int) := by omega
        clear hc hc2
        gi_wp2_with (gi_at_call 24; refine (callsIn_wide.2 (HC.out _)).mono ?_; rintro _ _ ⟨rfl, rfl⟩)
        refine ⟨HF.out.2, ?_⟩
        show UqP _ _ _ _ _ _ _ (ust l (s ++ [x]).length) _
        rw [EK.out]
        exact HF.out.1
    · obtain ⟨h0, h1⟩ := not_or.1 hop
      obtain ⟨o1, o2, o3⟩ := ust_closed l (by omega) h1
      have hpre : (ust l k).p ++ [(((ust l k).n : Int), (ust l k).v)] <+: uq l n := by rw [← o1]; exact (ust_pre l (by omega)).trans (ust_uq l n)
      obtain ⟨fy, ty, asy, bdy, hyy, hRy⟩ := HY.out (ust l k).p (((ust l k).n : Int), (ust l k).v) V (by omega) HP.out.j (prefix_lengthU hpre) hpre
      simp only [encU] at hyy
      have hc2 : cmpI (atL l k) (ust l k).v ≠ 0 := by unfold cmpI; split; omega; split; omega; omega
      have HC := hid (fun w => compare_any (atL l k) (ust l k).v w)
      obtain ⟨x, ex⟩ : ∃ x, atL l k = x := ⟨_, rfl⟩
      obtain ⟨v, ev⟩ : ∃ v, (ust l k).v = v := ⟨_, rfl⟩
      obtain ⟨nn, enn⟩ : ∃ nn, (ust l k).n = nn := ⟨_, rfl⟩
      have HU1 := hid o1
      have HU2 := hid (o2.trans ex)
      have HU3 := hid o3
      have HRY := hid hRy
      have HPRE := hid hpre
      rw [ex] at HC hc2 ⊢
      rw [ev] at HC hc2 q3 hyy
      rw [enn] at q4 hyy h0
      obtain ⟨cc, ecc⟩ : ∃ cc, cmpI x v = cc := ⟨_, rfl⟩
      rw [ecc] at HC hc2
      have q2 := HP.out.y.cell
      have h0' : (0 : Int) < (nn : Int) := by omega
      clear o1 o2 o3 hRy hpre hop h1 ex ev enn ecc hun
      have hnN : ¬ TT T w0.heap.size W.heap.size (W.heap.size + 1 + 1) := fun h => by have := hTT _ h; omega
      have hnL : ¬ TT T w0.heap.size W.heap.size (W.heap.size + 1) := fun h => by have := hTT _ h; omega
      have hnY : ¬ TT T w0.heap.size W.heap.size W.heap.size := fun h => by have := hTT _ h; omega
      gi_wp2_with (first | (gi_at_call 24; refine (callsIn_wide.2 (HC.out _)).mono ?_; rintro _ _ ⟨rfl, rfl⟩) | (refine (RoundIn.any HRY.out).mono ?_; rintro e W3 hE; obtain ⟨bb, eE, hE2⟩ := yield_twoU hE; clear hE; subst eE; have hk3 := hE2.elim (fun h => h.2.2) (fun h => h.2.2); have hN3 := hk3.boxed hnN HP.out.n; have hL3 := hk3.boxed hnL HP.out.l; have hY3 := hk3.boxed hnY HP.out.y; have q43 := hN3.cell; have f43 := hN3.frozen; have lt43 := hN3.lt; have f33 := hL3.frozen; have q33 := hL3.cell; have lt33 := hL3.lt; have HN3 := hid hN3; have HL3 := hid hL3; have HY3 := hid hY3; have HK3 := hid hk3; clear hN3 hL3 hY3 hk3))
      · rename_i hb
        rcases hE2 with ⟨rfl, _⟩ | ⟨rfl, hJx3, _⟩
        · cases hb
        · exact ⟨HK3.out.mono hTT', rfl, _, HPRE.out, hJx3⟩
      · rename_i hb
        rcases hE2 with ⟨rfl, hJ3, _⟩ | ⟨rfl, _⟩
        · have hk4 := HK3.out.mono hTT'
          obtain ⟨W4, eW4⟩ : ∃ W4, W4 = W3.setCell ⟨W.heap.size + 1 + 1, 0, none⟩ (.int .i64 0) := ⟨_, rfl⟩
          have kk : KS T' W3 W4 := by rw [eW4]; exact (KS.refl _ _).setCell hTN 0 _
          have bn4 : Boxed W4 (W.heap.size + 1 + 1) 3 (.int .i64 0) := by rw [eW4]; exact HN3.out.set _
          have bl4 : Boxed W4 (W.heap.size + 1) 3 (.int .i64 (ust l k).v) := by rw [eW4]; exact ((KS.refl (fun q => q = W.heap.size + 1 + 1) W3).setCell rfl 0 _).boxed (by omega) HL3.out
          have by4 : Boxed W4 W.heap.size 51 (.func (.yield lp) #[] #[]) := by rw [eW4]; exact ((KS.refl (fun q => q = W.heap.size + 1 + 1) W3).setCell rfl 0 _).boxed (by omega) HY3.out
          have hJ4 : J (ust l (k + 1)).p W4 := by rw [HU1.out, eW4]; exact HJ.out _ _ _ hJ3 ((Below.refl W.heap.size W3).setCell (p := ⟨W.heap.size + 1 + 1, 0, none⟩) (by simp; omega) _)
          have HF := UqP.fin (u := ust l (k + 1)) rfl ((HP.out.keep.trans hk4).trans kk) hJ4 by4 bl4 bn4 HJ.out hTL hTN
          rw [HU2.out, HU3.out, eW4] at HF
          refine ⟨(hk4.trans (by rw [← eW4]; exact kk)).trans HF.2, ?_⟩
          show UqP _ _ _ _ _ _ _ (ust l (s ++ [x]).length) _
          rw [EK.out]
          exact HF.1
        · cases hb
  case done =>
    rintro D ys V hD rfl hP hKD
    have hP' : UqP T' w3 W.heap.size (W.heap.size + 1) (W.heap.size + 1 + 1) lp J (ust ys n) V := by rw [← EN.out]; exact hP
    have hun := ust_n ys n
    have q3 := hP'.l.cell
    have q4 := hP'.n.cell
    have q2 := hP'.y.cell
    have HP := hid hP'
    have HKD := hid hKD
    clear hP hP' hKD HSEQ HP0
    by_cases h0 : (ust ys n).n = 0
    · have hu0 : uq ys n = (ust ys n).p := by unfold uq; rw [if_pos h0]
      have HU0 := hid hu0
      clear hu0
      rw [h0] at q4
      gi_wp2_with fail
      refine ⟨by simp, .inl ⟨_, _, rfl, run_takeDeferred HKD.out, ?_⟩⟩
      exact ⟨_, by simp [results, Try.results23, go_sem]; rfl, ⟨_, rfl⟩, .inl ⟨_, rfl, by rw [HU0.out]; exact HJ.out _ _ _ HP.out.j (below_putObj (Below.refl _ _) (by omega) _)⟩⟩
    · have hu0 : uq ys n = (ust ys n).p ++ [(((ust ys n).n : Int), (ust ys n).v)] := by unfold uq; rw [if_neg h0]
      obtain ⟨fy, ty, asy, bdy, hyy, hRy⟩ := HY.out (ust ys n).p (((ust ys n).n : Int), (ust ys n).v) V (by have := HP.out.keep.size; omega) HP.out.j (by rw [hu0]; simp) (by rw [hu0]; exact List.prefix_refl _)
      simp only [encU] at hyy
      rw [← hu0] at hRy
      have HRY := hid hRy
      obtain ⟨v, ev⟩ : ∃ v, (ust ys n).v = v := ⟨_, rfl⟩
      obtain ⟨nn, enn⟩ : ∃ nn, (ust ys n).n = nn := ⟨_, rfl⟩
      rw [ev] at q3 hyy
      rw [enn] at q4 h0 hyy
      have h0' : (0 : Int) < (nn : Int) := by omega
      have hdep : 1 ≤ m := by omega
      have hDn : ¬ TT T w0.heap.size W.heap.size D := fun h => by have := hTT _ h; omega
      have hDW : W.heap.size ≤ D := by omega
      have hDlt : D < V.heap.size := (Array.getElem?_eq_some_iff.1 HKD.out).1
      clear hu0 hRy ev enn hun
      gi_wp2_with (refine (RoundIn.anyN HRY.out).mono ?_; rintro e W3 hE; obtain ⟨bb, eE, hE2⟩ := yield_twoU hE; clear hE; subst eE; have hk3 := hE2.elim (fun h => h.2.2) (fun h => h.2.2))
      have hKD3 : W3.heap[D]? = some (.deferred (some [])) := (hk3.block D hDlt hDn).trans HKD.out
      refine ⟨by simp, .inl ⟨_, _, rfl, run_takeDeferred hKD3, ?_⟩⟩
      have hbp : Below W.heap.size W3 (W3.putObj D (.deferred none)) := below_putObj (Below.refl _ _) hDW _
      rcases hE2 with ⟨_, hJ3, _⟩ | ⟨_, hJx3, _⟩
      · exact ⟨_, by simp [results, Try.results23, go_sem]; rfl, ⟨_, rfl⟩, .inl ⟨_, rfl, HJ.out _ _ _ hJ3 hbp⟩⟩
      · exact ⟨_, by simp [results, Try.results23, go_sem]; rfl, ⟨_, rfl⟩, .inr ⟨_, List.prefix_refl _, HJX.out _ _ _ hJx3 hbp⟩⟩
  case stop =>
    rintro D c pre V hD hSp ⟨rfl, pre2, h1, h2⟩ hKD
    gi_wp2_with fail
    refine ⟨by simp, .inl ⟨_, _, rfl, run_takeDeferred hKD, ?_⟩⟩
    exact ⟨_, by simp [results, Try.results23, go_sem]; rfl, ⟨_, rfl⟩, .inr ⟨pre2, h1, HJX.out _ _ _ h2 (below_putObj (Below.refl _ _) (by omega) _)⟩⟩
end Go.Proofs.Ythemogfniohdiaa
