/-
  Layer 02's ArenaLeaves: a loop over the values may be left at any time, and gone over again; what was put, and not dropped, is there. No condition.
-/
import Derived.Test.YtgaenonggnkknaaNil
import Derived.Test.YtgaenonggnkknaaPairEq
namespace Go.Proofs.Ytgaenonggnkknaa
open Go.RowKit Go.Shelf Go.ChangeShapes Go.WideShapes Go.ChangeAt
attribute [local go_sem] Oper.semAt_some
theorem rec_ne' {W : World} {g g' : Nat} {t t' : TypeId} {cs cs' : Array Value} (h : Rec W g t cs) (h' : Rec W g' t' cs') (hn : t ≠ t') : g ≠ g' := by
  rintro rfl
  have e1 : W.heap[g]? = some (.cells cs t (0, 0)) := h
  have e2 : W.heap[g]? = some (.cells cs' t' (0, 0)) := h'
  rw [e1] at e2
  simp only [Option.some.injEq, Obj.cells.injEq] at e2
  exact hn e2.2.1
/-- The object, and the three boxes. -/
structure Lv (w : World) (B ba : Nat) (sl : Value) (nn : Int) (S : Ar P2) (W : World) : Prop where
  a : ArT w.heap.size W ba 100 S
  below : Below w.heap.size w W
  bl : Boxed W B 39 sl
  bn : Boxed W (B + 1) 5 (.int .u8 nn)
  br : Boxed W (B + 1 + 1) 4 (.bool false)
section
variable {w W W' : World} {B ba : Nat} {sl : Value} {nn : Int} {S S' : Ar P2}
theorem Lv.far (h : Lv w B ba sl nn S W) (hb : Below W.heap.size W W') : Lv w B ba sl nn S W' :=
  ⟨h.a.below hb, h.below.trans (hb.mono h.below.size), (hb.block _ h.bl.lt).trans h.bl, (hb.block _ h.bn.lt).trans h.bn, (hb.block _ h.br.lt).trans h.br⟩
theorem Lv.put (h : Lv w B ba sl nn S W) (v : P2) (hS : OkA 300 S) (h0 : S.free = 0) (hr : S.n < 100) :
    Calls Try.prog 21 #[.pointer (some ⟨ba, 0, none⟩), .agg #[.int .i64 v.1, .int .i64 v.2]] W (fun e W' => e = .returned (.tuple #[.int .i64 (putA z2 100 S v).2.1, .int .i64 (putA z2 100 S v).2.2]) ∧ Lv w B ba sl nn (putA z2 100 S v).1 W') :=
  (TPut_any w.heap.size ba 100 S v W hS h.a h.below.size h0 hr).mono fun _ _ ⟨h1, h2, h3, h4⟩ => by
    obtain ⟨A, cp, hrec, _⟩ := h.a.ex
    exact ⟨h1, h2, h.below.trans h3, Rec.keptT (show Rec W B _ _ from h.bl) h4 (rec_ne' (show Rec W B _ _ from h.bl) hrec (by decide)) (by decide),
      Rec.keptT (show Rec W (B + 1) _ _ from h.bn) h4 (rec_ne' (show Rec W (B + 1) _ _ from h.bn) hrec (by decide)) (by decide), Rec.keptT (show Rec W (B + 1 + 1) _ _ from h.br) h4 (rec_ne' (show Rec W (B + 1 + 1) _ _ from h.br) hrec (by decide)) (by decide)⟩
end
set_option maxRecDepth 100000 in
set_option maxHeartbeats 1000000 in
theorem ArenaLeaves_any (A : Option Addr) (ca n : Nat) (l : List Int) (en : l.length = n) (hmx : n ≤ maxLen) (nn : Int) (hn : 0 ≤ nn ∧ nn < 256) (w : World) (hc : Cells w A (i64s l)) :
    Calls Try.prog 4 #[.slice A n ca, .int .u8 nn] w (Gives (.bool true) w) := by
  have AWK := hid awake_any
  by_cases h60 : 60 < n
  · clear en hc
    go_enter Try.func4, Try.ntmps4
    go_wp2_with (go_at_call 5; refine (AWK.out _).mono ?_; rintro _ _ ⟨rfl, x0, rfl⟩)
    refine bodyPost_ret (v := .bool true) ?_ rfl ?_
    · simp [results, Try.results4, go_sem]
    · refine Gives.mk (rfl) ?_
      (repeat (first | exact Below.refl _ _ | refine RowKit.Below.past ?_ _ | refine RowKit.Below.alloc' ?_ _ | refine RowKit.Below.drew' ?_ | refine RowKit.Below.drewN' ?_ _ | refine RowKit.Below.setCell' ?_ (by simp [go_sem]) _))
  · have EN := hid en
    have HC := hid hc
    have HN := hid hn
    clear en hc hn
    refine (callsIn_wide (n := 5)).1 ?_
    refine callsIn_of_wp_marks Try.func4 rfl trivial ?_ rfl
    refine wpIn_wide.2 ?_
    simp only [Try.ntmps4, List.size_toArray, List.length_cons, List.length_nil, Nat.reduceAdd, Nat.reduceSub, Array.replicate_succ, Array.replicate_zero, List.push_toArray, List.append_toArray, List.nil_append, List.cons_append]
    obtain ⟨w3, ew3⟩ : ∃ w3, w3 = ((w.alloc (.cells #[.slice A n ca] 39)).alloc (.cells #[.int .u8 nn] 5)).alloc (.cells #[.bool false] 4) := ⟨_, rfl⟩
    have bl := ((Boxed.new w 39 (.slice A n ca)).alloc (.cells #[.int .u8 nn] 5)).alloc (.cells #[.bool false] 4)
    have bn := (Boxed.new (w.alloc (.cells #[.slice A n ca] 39)) 5 (.int .u8 nn)).alloc (.cells #[.bool false] 4)
    have br := Boxed.new ((w.alloc (.cells #[.slice A n ca] 39)).alloc (.cells #[.int .u8 nn] 5)) 4 (.bool false)
    rw [World.size_alloc] at bn
    rw [World.size_alloc, World.size_alloc] at br
    have hB3 : Below w.heap.size w w3 := by rw [ew3]; exact (((Below.refl _ w).alloc (Nat.le_refl _) _).alloc (by simp) _).alloc (by simp; omega) _
    rw [← ew3] at bl bn br
    have EW := hid ew3
    clear ew3
    go_wp2_with fail
    rw [← EW.out]
    refine (AWK.out w3).mono ?_
    rintro _ _ ⟨rfl, x0, rfl⟩
    obtain ⟨w4, ew4⟩ : ∃ w4, w4 = w3.past x0 := ⟨_, rfl⟩
    have hb4 : Below w3.heap.size w3 w4 := by rw [ew4]; exact w3.below_past x0
    rw [← ew4]
    have bl4 : Boxed w4 w.heap.size 39 (.slice A n ca) := (hb4.block _ bl.lt).trans bl
    have bn4 : Boxed w4 (w.heap.size + 1) 5 (.int .u8 nn) := (hb4.block _ bn.lt).trans bn
    have br4 : Boxed w4 (w.heap.size + 1 + 1) 4 (.bool false) := (hb4.block _ br.lt).trans br
    have hB4 := below_trans' hB3 hb4
    have q2 := bl4.cell
    clear ew4 EW bl bn br hB3 hb4
    go_wp2_with fail
    refine (TNew_any w.heap.size 100 w4 hB4.size).mono ?_
    rintro _ w5 ⟨ba, rfl, ha5, hb5⟩
    have HL0 := hid (show Lv w w.heap.size ba (.slice A n ca) nn (putsA l 0) w5 from ⟨ha5, below_trans' hB4 hb5, (hb5.block _ bl4.lt).trans bl4, (hb5.block _ bn4.lt).trans bn4, (hb5.block _ br4.lt).trans br4⟩)
    have q2' := HL0.out.bl.cell
    clear q2 ha5 hb5 bl4 bn4 br4 hB4
    go_wp2_with fail
    go_loopw [29] (fun i wr => ∃ (k : Nat), i = .int .i64 k ∧ k ≤ n ∧ Hid (Lv w w.heap.size ba (.slice A n ca) nn (putsA l k) wr)) (fun i _ => n - numOf i)
    case atStart => exact ⟨0, rfl, by omega, HL0⟩
    case round =>
      clear HL0 q2'
      obtain ⟨k, rfl, hk, HT⟩ := hrel
      by_cases hlt : k < n
      · obtain ⟨b1, o1, rfl, c0⟩ := i64_at (HC.out.below HT.out.below) (show k < l.length by rw [EN.out]; exact hlt)
        have hp := HT.out.put ((k : Int), atL l k) ((puts_ok l k).mono (by omega)) rfl (show ((k : Nat) : Int) < 100 by omega)
        rw [puts_put l k (by omega)] at hp
        have HP := hid hp
        obtain ⟨y, ey⟩ : ∃ y, atL l k = y := ⟨_, rfl⟩
        rw [ey] at c0 HP
        clear hp ey
        go_wp2_with fail
        refine HP.out.mono ?_
        rintro _ w6 ⟨rfl, H6⟩
        have H6' := hid H6
        clear H6
        go_wp2_with fail
        exact ⟨⟨k + 1, by go_num, by omega, H6'⟩, by simp [numOf]; omega⟩
      · obtain rfl : k = n := by omega
        rename World => w6
        obtain ⟨w7, ew7⟩ : ∃ w7, w7 = w6.alloc (.cells #[.int .i64 0] 3) := ⟨_, rfl⟩
        have hb7 : Below w6.heap.size w6 w7 := by rw [ew7]; exact (Below.refl _ w6).alloc (Nat.le_refl _) _
        have hs7 : w7.heap.size = w6.heap.size + 1 := by rw [ew7]; simp
        have bK : Boxed w7 w6.heap.size 3 (.int .i64 0) := by rw [ew7]; exact Boxed.new w6 _ _
        have EW7 := hid ew7
        clear ew7
        go_wp2_with fail
        rw [← EW7.out]
        refine (TAll_any (some ⟨ba, 0, none⟩) w7).mono ?_
        rintro _ w8 ⟨rfl, hb8, hs8, hx8⟩
        have hB8 : Below w6.heap.size w6 w8 := below_trans' hb7 hb8
        have cK : Boxed w8 w6.heap.size 3 (.int .i64 0) := (hb8.block _ bK.lt).trans bK
        obtain ⟨K0, eK0⟩ : ∃ K0, w6.heap.size = K0 := ⟨_, rfl⟩
        rw [hs7] at hx8
        rw [eK0] at cK hx8
        have HK0 := hid eK0
        clear bK hb8 EW7 hb7
        obtain ⟨T, eT⟩ : ∃ T : Nat → Prop, T = fun q => q = K0 := ⟨_, rfl⟩
        have hK8 : K0 < w8.heap.size := cK.lt
        have hTK : T K0 := by rw [eT]
        have hTw : ∀ q, T q → q < w8.heap.size := by rw [eT]; rintro q rfl; exact hK8
        have hTb : ∀ q, T q → w6.heap.size ≤ q := by rw [eT]; rintro q rfl; omega
        have hTx : ¬ T (K0 + 1) := by rw [eT]; intro h; omega
        have HT8 := hid (fun W (h : KS T w8 W) => (hB8.trans (h.under hTb hB8.size) : Below w6.heap.size w6 W))
        have HLV := hid (fun W (h : KS T w8 W) => HT.out.far (HT8.out W h))
        have hseq := Tall_seq (5 - 1) (by omega) w8 (K0 + 1) ba 100 (putsA l k) T hx8 hTx (by simp [putsA, putsL_length]; omega) (fun W h => (HLV.out W h).a.rd)
        rw [show (putsA l k).l.length = k from putsL_length l k, show (putsA l k).l = putsL l k from rfl, all_puts l k k (Nat.le_refl _), gives_length] at hseq
        have HSEQ := hid hseq
        clear hseq hx8 eT
        go_wp2_with fail
        refine (wpIn_wide (n := 5)).1 ?_
        apply wpIn_rangeFunc_G1 rfl (by omega) (gf := 31) (lb := #[.pointer (some ⟨K0 + 1, 0, none⟩)]) rfl trivial (enters_of Try.func31 (by kernel_rfl) rfl) HSEQ.out hTw (KS.refl _ _) (fun _ => rfl)
          (fun pre W => KS T w8 W ∧ Boxed W K0 3 (.int .i64 pre.length) ∧ (pre.length : Int) ≤ nn)
          (fun c pre W => c = .exit 2 ∧ KS T w8 W ∧ Boxed W K0 3 (.int .i64 pre.length) ∧ (pre.length : Int) = nn + 1)
          (fun _ _ _ h hb => ⟨h.1.far hb, (hb.block _ hK8).trans h.2.1, h.2.2⟩)
          (fun _ _ _ _ h hb => ⟨h.1, h.2.1.far hb, (hb.block _ hK8).trans h.2.2.1, h.2.2.2⟩)
          ⟨KS.refl _ _, cK, by have := HN.out; simp; omega⟩
          50 (fun x => #[.int .i64 x.2.1, .int .i64 x.2.2]) _ ?assign ?body ?done ?stop
        case assign =>
          intro lq x W c K hs hc hK
          simp only [encP]
          gi_wp2
          exact hK _ (by rw [← hc]; exact Rec.new W _ _) ((Below.refl _ W).alloc (Nat.le_refl _) _)
        case body =>
          rintro lq pre ⟨xi, xa, xb⟩ c W hsW ⟨hks, hbox, hle⟩ hlen hsp hcS hrec
          obtain ⟨hp, hx⟩ := gives_next hsp
          obtain ⟨p, ep⟩ : ∃ p, pre.length = p := ⟨_, rfl⟩
          have EP := hid ep
          rw [ep] at hbox hle hp hx
          injection hx with hx1 hx2
          injection hx2 with hx2 hx3
          subst hx1; subst hx2; subst hx3
          have hlv := HLV.out W hks
          obtain ⟨b1, o1, rfl, t1⟩ := i64_at (HC.out.below hlv.below) (show p < l.length by rw [EN.out]; exact hp)
          obtain ⟨y, ey⟩ : ∃ y, atL l p = y := ⟨_, rfl⟩
          rw [ey] at t1 hrec hsp ⊢
          have q2 := hlv.bl.cell
          have q3 := hlv.bn.cell
          have q10 := hbox.cell
          have q12 := Rec.cell hrec 0
          have q12' := Rec.cell hrec 1
          simp at q12 q12'
          have hk2 := hlv.below
          have heq := fun W => run_eq_pair p y p y W
          simp only [beq_self_eq_true, Bool.and_self] at heq
          have hn := HN.out
          have HKS := hid hks
          have HBOX := hid hbox
          clear hlen hsp hlv hk2 hrec hks hbox ep ey
          gi_wp2_with fail
          refine wpIn_region_pastR (by kernel_rfl) (by kernel_rfl) (by kernel_rfl) ?_
          repeat (gi_big_quiet_step (fail))
          refine wpQuietIn_nil ?_
          rintro _ ⟨xq, rfl⟩
          obtain ⟨wp, ewp⟩ : ∃ wp, wp = W.past xq := ⟨_, rfl⟩
          have hbp : Below W.heap.size W wp := by rw [ewp]; exact W.below_past xq
          have HK2 := hid (show KS T W wp from KS.of_below hbp)
          have HB2 := hid (show Boxed wp K0 3 (.int .i64 p) from (hbp.block _ HBOX.out.lt).trans HBOX.out)
          rw [← ewp]
          have q3' := (HLV.out wp (HKS.out.trans HK2.out)).bn.cell
          clear ewp hbp q2 q3 q10 q12 q12' t1 heq HSEQ
          have q10 := HB2.out.cell
          have f10 := HB2.out.frozen
          have hlt10 := HB2.out.lt
          have e1 : IntKind.i64.wrap ((p : Int) + 1) = (p : Int) + 1 := by rw [IntKind.wrap_i64]; omega
          have e2 : IntKind.i64.wrap nn = nn := by rw [IntKind.wrap_i64]; omega
          have hkn : ¬ K0 = w.heap.size + 1 := by have := (HLV.out _ HKS.out).below.size; have := HT.out.below.size; have := HT.out.bn.lt; omega
          have hend := HK2.out.setCell hTK 0 (.int .i64 ((p : Int) + 1))
          have hbox2 := HB2.out.set (.int .i64 ((p : Int) + 1))
          have HEND := hid hend
          have HBOX2 := hid hbox2
          have hlen2 : ((pre ++ [((p : Int), ((p : Int), y))]).length : Int) = (p : Int) + 1 := by rw [List.length_append, EP.out]; rfl
          have HLEN := hid hlen2
          clear hend hbox2 hlen2
          by_cases hgt : nn < (p : Int) + 1
          · gi_wp2
            refine ⟨HEND.out, rfl, HKS.out.trans HEND.out, ?_, ?_⟩
            · rw [HLEN.out]; exact HBOX2.out
            · rw [HLEN.out]; omega
          · gi_wp2
            refine ⟨HEND.out, HKS.out.trans HEND.out, ?_, ?_⟩
            · rw [HLEN.out]; exact HBOX2.out
            · rw [HLEN.out]; omega
        case' stop =>
          rintro D c pre W hD hSp ⟨hc, hks, hbox, hp⟩ hKD
          subst hc
          have hpl : pre.length ≤ k := by have := hSp.length_le; rwa [gives_length] at this
          have hmin : (min (k : Int) (nn + 1)) = (pre.length : Int) := by omega
          refine wpIn_wide.2 ?_
        case' done =>
          rintro D pre W hD hS ⟨hks, hbox, hp⟩ hKD
          have hpl : pre.length = k := by rw [hS, gives_length]
          have hmin : (min (k : Int) (nn + 1)) = (pre.length : Int) := by omega
        all_goals (
          rw [← hmin] at hbox
          have HLV2 := hid (HLV.out W hks)
          have HBX := hid hbox
          have HKD := hid hKD
          have hlt1 := hbox.lt
          obtain ⟨mn, emn⟩ : ∃ mn, min (k : Int) (nn + 1) = mn := ⟨_, rfl⟩
          rw [emn] at HBX
          have EMN := hid emn
          clear hmin hbox hks hKD HSEQ hp hpl emn
          go_wp2_with fail
          obtain ⟨v7, ev7⟩ : ∃ v7, v7 = W.alloc (.cells #[.int .i64 0] 3) := ⟨_, rfl⟩
          have gb7 : Below W.heap.size W v7 := by rw [ev7]; exact (Below.refl _ W).alloc (Nat.le_refl _) _
          have gs7 : v7.heap.size = W.heap.size + 1 := by rw [ev7]; simp
          have gK : Boxed v7 W.heap.size 3 (.int .i64 0) := by rw [ev7]; exact Boxed.new W _ _
          rw [← ev7]
          refine (TAll_any (some ⟨ba, 0, none⟩) v7).mono ?_
          rintro _ v8 ⟨rfl, gb8, gs8, gx8⟩
          have gB8 : Below W.heap.size W v8 := below_trans' gb7 gb8
          have gc : Boxed v8 W.heap.size 3 (.int .i64 0) := (gb8.block _ gK.lt).trans gK
          obtain ⟨G0, eG0⟩ : ∃ G0, W.heap.size = G0 := ⟨_, rfl⟩
          rw [gs7] at gx8
          rw [eG0] at gc gx8
          have HG0 := hid eG0
          clear gK gb8 ev7 gb7
          obtain ⟨T2, eT2⟩ : ∃ T2 : Nat → Prop, T2 = fun q => q = G0 := ⟨_, rfl⟩
          have hG8 : G0 < v8.heap.size := gc.lt
          have hTG : T2 G0 := by rw [eT2]
          have hT2w : ∀ q, T2 q → q < v8.heap.size := by rw [eT2]; rintro q rfl; exact hG8
          have hT2b : ∀ q, T2 q → W.heap.size ≤ q := by rw [eT2]; rintro q rfl; omega
          have hT2x : ¬ T2 (G0 + 1) := by rw [eT2]; intro h; omega
          have HF8 := hid (fun U (h : KS T2 v8 U) => (gB8.trans (h.under hT2b gB8.size) : Below W.heap.size W U))
          have hseq2 := Tall_seq (5 - 1) (by omega) v8 (G0 + 1) ba 100 (putsA l k) T2 gx8 hT2x (by simp [putsA, putsL_length]; omega) (fun U h => (HLV2.out.far (HF8.out U h)).a.rd)
          rw [show (putsA l k).l.length = k from putsL_length l k, show (putsA l k).l = putsL l k from rfl, all_puts l k k (Nat.le_refl _), gives_length] at hseq2
          have HSEQ2 := hid hseq2
          clear hseq2 gx8 eT2
          go_wp2_with fail
          refine (wpIn_wide (n := 5)).1 ?_
          apply wpIn_rangeFunc_E rfl (by omega) (gf := 31) (lb := #[.pointer (some ⟨G0 + 1, 0, none⟩)]) rfl trivial (enters_of Try.func31 (by kernel_rfl) rfl) HSEQ2.out hT2w (KS.refl _ _) (fun _ => rfl)
            (fun pre U => KS T2 v8 U ∧ Boxed U G0 3 (.int .i64 pre.length))
            (fun _ _ _ => False)
            (fun _ _ _ h hb => ⟨h.1.far hb, (hb.block _ hG8).trans h.2⟩)
            (fun _ _ _ _ h _ => h.elim)
            ⟨KS.refl _ _, gc⟩
            _ ?_ ?_ ?_ ?_
          rotate_left
          · intro lq x W K hK
            simp only [encP]
            gi_wp2
            exact hK
          · rintro lq pre2 x U hsU ⟨hks, hbox⟩ hlen hsp
            have hpl : ((pre2 ++ [x]).length : Int) = pre2.length + 1 := by simp
            have q13 := hbox.cell
            have f13 := hbox.frozen
            have lt13 := hbox.lt
            have HKS := hid hks
            have HBOX := hid hbox
            obtain ⟨p, ep⟩ : ∃ p, pre2.length = p := ⟨_, rfl⟩
            rw [ep] at q13 HBOX hpl hlen
            have HPL := hid hpl
            have e1 : IntKind.i64.wrap ((p : Int) + 1) = (p : Int) + 1 := by rw [IntKind.wrap_i64]; omega
            clear hks hbox hpl HSEQ2 hsp ep
            gi_wp2
            refine ⟨(KS.refl _ _).setCell hTG 0 _, HKS.out.setCell hTG 0 _, ?_⟩
            rw [HPL.out]
            exact HBOX.out.set _
          rotate_left
          · rintro _ _ _ _ _ _ h; exact h.elim
          · rintro D2 pre2 U hD2 hS2 ⟨hks, hbox⟩ hKD2
            have hpl : pre2.length = k := by rw [hS2, gives_length]
            rw [hpl] at hbox
            have HB2 := hid (HF8.out U hks)
            have HBG := hid hbox
            have HKD2 := hid hKD2
            clear hbox hks hKD2 hpl HSEQ2 hS2
            go_wp2_with (first | (go_at_call 8; refine (Put_nil 1 _).mono ?_; rintro _ _ ⟨rfl, y1, rfl⟩) | (go_at_call 14; refine (Get_nil 0 _).mono ?_; rintro _ _ ⟨rfl, y2, rfl⟩) | (go_at_call 10; refine (Drop_nil 0 _).mono ?_; rintro _ _ ⟨rfl, y3, rfl⟩))
            obtain ⟨u3, eu3⟩ : ∃ u3, u3 = U.past ((y1.and y2).and y3) := ⟨_, rfl⟩
            have ub3 : Below U.heap.size U u3 := by rw [eu3]; exact U.below_past _
            rw [← eu3]
            clear eu3
            refine (All_any none u3).mono ?_
            rintro _ v9 ⟨rfl, gb9, gs9, gx9⟩
            have HB9 := hid (below_trans' ub3 gb9)
            clear ub3 gb9
            go_wp2_with fail
            refine (wpIn_wide (n := 5)).1 ?_
            refine wpIn_rangeFunc_E (α := Empty) rfl (by omega) (gf := 30) (lb := #[.pointer (some ⟨u3.heap.size, 0, none⟩)]) rfl trivial (enters_of Try.func30 (by kernel_rfl) rfl) (all_nil (5 - 1) (by omega) v9 u3.heap.size gx9) (fun _ h => h.elim) (KS.refl _ _) (fun x => x.elim)
              (fun _ V => Below v9.heap.size v9 V) (fun _ _ _ => False) (fun _ _ _ h hb => h.trans hb) (fun _ _ _ _ h _ => h.elim) (Below.refl _ _) (fun x => x.elim) ?_ ?_ ?_ ?_
            · intro lq x; exact x.elim
            · intro lq pre x; exact x.elim
            · intro D3 xs V hD3 hS3 hBl hKD3
              have hBV := HB9.out.trans (hBl.mono HB9.out.size)
              have hBW := HB2.out.trans (hBV.mono HB2.out.size)
              have hlv := HLV2.out.far hBW
              have bK := (hBW.block _ hlt1).trans HBX.out
              have bG := (hBV.block _ HBG.out.lt).trans HBG.out
              have q10 : V.cell? ⟨K0, 0, none⟩ = some (.int .i64 mn) := Boxed.cell bK
              have q13 : V.cell? ⟨G0, 0, none⟩ = some (.int .i64 k) := Boxed.cell bG
              have q2 := hlv.bl.cell
              have q3 := hlv.bn.cell
              have q4 := hlv.br.cell
              have f4 := hlv.br.frozen
              have hk3 : V.heap[D3]? = some (.deferred (some [])) := hKD3
              have hk2 : V.heap[D2]? = some (.deferred (some [])) := (hBV.block _ (Array.getElem?_eq_some_iff.1 HKD2.out).1).trans HKD2.out
              have hk1 : V.heap[D]? = some (.deferred (some [])) := (hBW.block _ (Array.getElem?_eq_some_iff.1 HKD.out).1).trans HKD.out
              have HK3 := hid hk3
              have HK2 := hid hk2
              have HK1 := hid hk1
              have HLV4 := hid hlv
              have e1 : IntKind.i64.wrap nn = nn := by have := HN.out; rw [IntKind.wrap_i64]; omega
              have e2 : IntKind.i64.wrap (nn + 1) = nn + 1 := by have := HN.out; rw [IntKind.wrap_i64]; omega
              have f4' := fun x => (hlv.far (V.below_past x)).br.frozen
              have hDD2 : D ≠ D2 := by have := (Array.getElem?_eq_some_iff.1 HKD.out).1; have := gB8.size; omega
              have hDD3 : D ≠ D3 := by have := (Array.getElem?_eq_some_iff.1 HKD.out).1; have := HB2.out.size; have := HB9.out.size; omega
              have hD23 : D2 ≠ D3 := by have := (Array.getElem?_eq_some_iff.1 HKD2.out).1; have := HB9.out.size; omega
              have hR6 : w.heap.size + 1 + 1 < w6.heap.size := HT.out.br.lt
              have hRD : w.heap.size + 1 + 1 ≠ D := by have := hB8.size; omega
              have hRD2 : w.heap.size + 1 + 1 ≠ D2 := by have := (Array.getElem?_eq_some_iff.1 HKD.out).1; have := hB8.size; have := gB8.size; omega
              have hRD3 : w.heap.size + 1 + 1 ≠ D3 := by have := (Array.getElem?_eq_some_iff.1 HKD.out).1; have := hB8.size; have := gB8.size; have := HB2.out.size; have := HB9.out.size; omega
              have hge : w.heap.size ≤ D ∧ w.heap.size ≤ D2 ∧ w.heap.size ≤ D3 := by have := (Array.getElem?_eq_some_iff.1 HKD.out).1; have := hB8.size; have := gB8.size; have := HB2.out.size; have := HB9.out.size; exact ⟨by omega, by omega, by omega⟩
              have HEND := hid (fun xx => (by
                obtain ⟨Vp, eVp⟩ : ∃ Vp, Vp = V.past xx := ⟨_, rfl⟩
                have hbp : Below V.heap.size V Vp := by rw [eVp]; exact V.below_past xx
                rw [← eVp]
                have hlp := hlv.far hbp
                have k3 := (hbp.block _ (Array.getElem?_eq_some_iff.1 hk3).1).trans hk3
                have k2 := (hbp.block _ (Array.getElem?_eq_some_iff.1 hk2).1).trans hk2
                have k1 := (hbp.block _ (Array.getElem?_eq_some_iff.1 hk1).1).trans hk1
                obtain ⟨Wf, eWf⟩ : ∃ Wf, Wf = Vp.setCell ⟨w.heap.size + 1 + 1, 0, none⟩ (.bool true) := ⟨_, rfl⟩
                rw [← eWf]
                have kb : Boxed Wf (w.heap.size + 1 + 1) 4 (.bool true) := by rw [eWf]; exact hlp.br.set _
                have s3 : Wf.heap[D3]? = some (.deferred (some [])) := by rw [eWf]; exact (Below.heap_setCell Vp ⟨w.heap.size + 1 + 1, 0, none⟩ _ D3 (fun e => hRD3 e.symm)).trans k3
                have s2 : Wf.heap[D2]? = some (.deferred (some [])) := by rw [eWf]; exact (Below.heap_setCell Vp ⟨w.heap.size + 1 + 1, 0, none⟩ _ D2 (fun e => hRD2 e.symm)).trans k2
                have s1 : Wf.heap[D]? = some (.deferred (some [])) := by rw [eWf]; exact (Below.heap_setCell Vp ⟨w.heap.size + 1 + 1, 0, none⟩ _ D (fun e => hRD e.symm)).trans k1
                have sb : Below w.heap.size w Wf := by rw [eWf]; exact hlp.below.setCell (p := ⟨w.heap.size + 1 + 1, 0, none⟩) (by simp; omega) _
                refine ⟨s3, (World.putObj_heap_other hD23).trans s2, (World.putObj_heap_other hDD2).trans ((World.putObj_heap_other hDD3).trans s1), Boxed.cell (show Boxed _ _ 4 _ from (World.putObj_heap_other hRD).trans ((World.putObj_heap_other hRD2).trans ((World.putObj_heap_other hRD3).trans kb))), ?_⟩
                exact below_putObj (below_putObj (below_putObj sb hge.2.2 _) hge.2.1 _) hge.1 _ :
                ((V.past xx).setCell ⟨w.heap.size + 1 + 1, 0, none⟩ (.bool true)).heap[D3]? = some (.deferred (some [])) ∧
                (((V.past xx).setCell ⟨w.heap.size + 1 + 1, 0, none⟩ (.bool true)).putObj D3 (.deferred none)).heap[D2]? = some (.deferred (some [])) ∧
                ((((V.past xx).setCell ⟨w.heap.size + 1 + 1, 0, none⟩ (.bool true)).putObj D3 (.deferred none)).putObj D2 (.deferred none)).heap[D]? = some (.deferred (some [])) ∧
                (((((V.past xx).setCell ⟨w.heap.size + 1 + 1, 0, none⟩ (.bool true)).putObj D3 (.deferred none)).putObj D2 (.deferred none)).putObj D (.deferred none)).cell? ⟨w.heap.size + 1 + 1, 0, none⟩ = some (.bool true) ∧
                Below w.heap.size w (((((V.past xx).setCell ⟨w.heap.size + 1 + 1, 0, none⟩ (.bool true)).putObj D3 (.deferred none)).putObj D2 (.deferred none)).putObj D (.deferred none))))
              clear hk3 hk2 hk1 hlv bK bG hKD3 hBW hBV hBl hS3 hDD2 hDD3 hD23 hRD hRD2 hRD3 gB8 hB8 hR6 hge
              rcases (show (k : Int) ≤ nn + 1 ∨ nn + 1 < (k : Int) by omega) with hle | hle
              all_goals (
                have em := EMN.out
                first
                  | (have em2 : mn = (k : Int) := by omega)
                  | (have em2 : mn = nn + 1 := by omega)
                subst em2
                clear em
                go_wp2_with (first | (go_at_call 12; refine (Set_nil 0 1 _).mono ?_; rintro _ _ ⟨rfl, y1, rfl⟩) | (go_at_call 16; refine (Len_nil _).mono ?_; rintro _ _ ⟨rfl, y2, rfl⟩) | (go_at_call 18; refine (Most_nil _).mono ?_; rintro _ _ ⟨rfl, y3, rfl⟩))
                obtain ⟨z3, z2, z1, zc, zb⟩ := HEND.out ((y1.and y2).and y3)
                clear q2 q3 q4 f4 f4' q10 q13
                refine ⟨by simp, .inl ⟨_, _, rfl, run_takeDeferred z3, ?_⟩⟩
                refine ⟨by simp, .inl ⟨_, _, rfl, run_takeDeferred z2, ?_⟩⟩
                refine ⟨by simp, .inl ⟨_, _, rfl, run_takeDeferred z1, ?_⟩⟩
                exact ⟨.bool true, by simp [results, Try.results4, go_sem, zc], Gives.mk rfl zb⟩)
            · intro D c pre W hD hSp h; exact h.elim)
end Go.Proofs.Ytgaenonggnkknaa
