/-
  Layer 18: who is active, and the floor, by the product's ledger. No condition.
-/
import Derived.Test.YtookaodcdglhfaaDoorBehind
import Derived.Test.YtookaodcdglhfaaDoorSetS
import Derived.Test.YtookaodcdglhfaaDoorRegLast
import Derived.Laws.BitsAllLaws
namespace Go.Proofs.YtookaodcdglhfaaDoor
open Go.RowKit Go.Shelf
attribute [local go_sem] Oper.semAt_some
section
variable {B : Nat} {w w' : World} {b : Nat} {S : Lg} {T : Nat → Prop}
theorem own_ks {e : TypeId} {base size n : Nat} {v : Value} {xs : List Value} (h : w.ownsRow base e size v n xs) (hk : KS T w w') (hT : ∀ k cs t, T k → w.heap[k]? ≠ some (.cells cs t (0, 0))) : w'.ownsRow base e size v n xs := by
  refine ⟨h.1, ?_⟩
  rcases h.2 with h3 | ⟨g, cap, cur, hv, hg, hh, hr⟩
  · exact .inl h3
  · exact .inr ⟨g, cap, cur, hv, hg, (hk.block g (Array.getElem?_eq_some_iff.1 hh).1 (fun ht => hT g _ _ ht hh)).trans hh, hr⟩
theorem rec_ks {t : TypeId} {cs : Array Value} (h : Rec w b t cs) (hk : KS T w w') (hT : ∀ k cs t, T k → w.heap[k]? ≠ some (.cells cs t (0, 0))) : Rec w' b t cs :=
  (hk.block b (Rec.lt h) (fun ht => hT b _ _ ht h)).trans h
theorem LgAt.ks (h : LgAt B w b S) (hk : KS T w w') (hT : ∀ k cs t, T k → w.heap[k]? ≠ some (.cells cs t (0, 0))) : LgAt B w' b S := by
  obtain ⟨A, c, h1, h2⟩ := h.ex
  exact ⟨h.big, A, c, rec_ks h1 hk hT, own_ks h2 hk hT⟩
theorem LgAt.defer (h : LgAt B w b S) {D : Nat} {d : Option (List Deferred)} (hD : w.heap[D]? = some (.deferred d)) (o : Obj) : LgAt B (w.putObj D o) b S :=
  h.ks (T := fun k => k = D) (KS.putObj (S := fun k => k = D) (KS.refl _ w) rfl o) (fun k cs t hk he => by rw [hk, hD] at he; cases he)
theorem keptT_ks {ts : TypeId → Prop} (hk : KS T w w') (hT : ∀ k cs t, T k → w.heap[k]? = some (.cells cs t (0, 0)) → ts t) : KeptT b ts w w' :=
  ⟨hk.os, hk.tape, hk.output, hk.size, fun k cs t hh _ ht => hk.block k (Array.getElem?_eq_some_iff.1 hh).1 (fun hk' => ht (hT k cs t hk' hh))⟩
/-- Another floor, another set. -/
theorem LgAt.setA (h : LgAt B w b S) (u : Nat) : LgAt B (w.setCell ⟨b, 4, none⟩ (.int .u64 (u : Int))) b { S with act := u } ∧ Below B w (w.setCell ⟨b, 4, none⟩ (.int .u64 (u : Int))) := by
  obtain ⟨A, c, h1, h2⟩ := h.ex
  exact ⟨⟨h.big, A, c, Rec.set h1 4 _, own_setB h2 h1 (by decide) _ _⟩, (Below.refl B w).setCell (p := ⟨b, 4, none⟩) h.big _⟩
theorem LgAt.setF (h : LgAt B w b S) (u : Int) : LgAt B (w.setCell ⟨b, 3, none⟩ (.int .u64 u)) b { S with fl := u } ∧ Below B w (w.setCell ⟨b, 3, none⟩ (.int .u64 u)) := by
  obtain ⟨A, c, h1, h2⟩ := h.ex
  exact ⟨⟨h.big, A, c, Rec.set h1 3 _, own_setB h2 h1 (by decide) _ _⟩, (Below.refl B w).setCell (p := ⟨b, 3, none⟩) h.big _⟩
theorem LgAt.thaw (h : LgAt B w b S) (j : Nat) : w.frozen? ⟨b, j, none⟩ = false := by
  obtain ⟨A, c, h1, h2⟩ := h.ex
  exact Rec.frozen h1 j
end
theorem Settle_nil (s : Int) (w : World) : Calls Tryd.prog 14 #[.pointer none, .int .u64 s] w (Gives (.tuple #[]) w) := by
  go_enter Tryd.func14, Tryd.ntmps14
  go_wp2
  go_end0
  exact Gives.mk rfl ((Below.refl _ w).alloc (Nat.le_refl _) _)
theorem own_under {w w' : World} {N : Nat} {A : Option Addr} {e : TypeId} {base size n c : Nat} {xs : List Value} (h : w.ownsRow base e size (.slice A n c) n xs) (hb : Below N w w') (hA : ∀ g, A = some ⟨g, 0, none⟩ → g < N) : w'.ownsRow base e size (.slice A n c) n xs := by
  refine ⟨h.1, ?_⟩
  rcases h.2 with h3 | ⟨g, cap, cur, hv, hg, hh, hr⟩
  · exact .inl h3
  · cases hv
    exact .inr ⟨g, c, cur, rfl, hg, (hb.block g (hA g rfl)).trans hh, hr⟩
/-- What holds between two rounds. -/
structure RndT (T : Nat → Prop) (B : Nat) (w6 : World) (b : Nat) (A : Option Addr) (c : Nat) (S : Lg) (W : World) : Prop where
  keep : KS T w6 W
  big : B ≤ b
  rc : Rec W b tL #[.slice A S.l.length c, .int .i64 S.sl, .int .i64 S.cr, .int .u64 S.fl, .int .u64 (S.act : Int)]
  own : W.ownsRow B tP 3 (.slice A S.l.length c) S.l.length (tab ptV S.l)
theorem RndT.at' {T : Nat → Prop} {B : Nat} {w6 : World} {b : Nat} {A : Option Addr} {c : Nat} {S : Lg} {W : World} (h : RndT T B w6 b A c S W) : LgAt B W b S := ⟨h.big, A, c, h.rc, h.own⟩
theorem RndT.far {T : Nat → Prop} {B : Nat} {w6 : World} {b : Nat} {A : Option Addr} {c : Nat} {S : Lg} {W W' : World} (h : RndT T B w6 b A c S W) (hb : Below w6.heap.size W W') (h1 : b < w6.heap.size) (h2 : ∀ g, A = some ⟨g, 0, none⟩ → g < w6.heap.size) : RndT T B w6 b A c S W' :=
  ⟨h.keep.far hb, h.big, (hb.block b h1).trans h.rc, own_under h.own hb h2⟩
theorem RndT.of {T : Nat → Prop} {B : Nat} {w6 : World} {b : Nat} {A : Option Addr} {n c : Nat} {S : Lg} {W : World} (hk : KS T w6 W) (h : LgAt B W b S) (hq : W.cell? ⟨b, 0, none⟩ = some (.slice A n c)) : RndT T B w6 b A c S W := by
  obtain ⟨A', c', h1, h2⟩ := h.ex
  have q0 := Rec.cell h1 0
  rw [hq] at q0
  simp at q0
  obtain ⟨rfl, rfl, rfl⟩ := q0
  exact ⟨hk, h.big, h1, h2⟩
set_option maxRecDepth 100000 in
set_option maxHeartbeats 4000000 in
theorem Settle_any {B b : Nat} {w : World} {S : Lg} (hS : OkG S) (h : LgAt B w b S) (hZ : Tz w) (hZB : 0 < B) (hB : B ≤ w.heap.size) (s : Nat) (hs : s < 18446744073709551616) :
    Calls Tryd.prog 14 #[.pointer (some ⟨b, 0, none⟩), .int .u64 s] w (LgP B b (settleF S s) (.tuple #[]) w) := by
  have HH := hid h
  have HZ := hid hZ
  have HS := hid hS
  have hblt := h.lt
  obtain ⟨A, ca, hr0, ho0⟩ := h.ex
  have r0 : w.cell? ⟨b, 0, none⟩ = some (.slice A S.l.length ca) := by rw [Rec.cell hr0 0]; rfl
  obtain ⟨T, eT⟩ : ∃ T : Nat → Prop, T = fun k => A = some ⟨k, 0, none⟩ := ⟨_, rfl⟩
  have hTg : ∀ k, T k → B ≤ k ∧ k < w.heap.size ∧ k ≠ b ∧ ∀ cs t, w.heap[k]? = some (.cells cs t (0, 0)) → t = tP := by
    rw [eT]
    rintro k rfl
    rcases ho0.2 with ⟨hv, _⟩ | ⟨g, cap, cur, hv, hg, hh, _⟩
    · cases hv
    · cases hv
      refine ⟨hg, (Array.getElem?_eq_some_iff.1 hh).1, fun e => own_not_rec ho0 hr0 (by decide) (by rw [e]; rfl), fun cs t h2 => ?_⟩
      rw [hh] at h2
      cases h2
      rfl
  obtain ⟨r1, r2, r3, r4⟩ := h.rest
  have hl8 := hS.len
  have ha := hS.act
  obtain ⟨n, en⟩ : ∃ n, S.l.length = n := ⟨_, rfl⟩
  have EN := hid en
  rw [en] at r0 hl8 ha
  have h8 : 2 ^ n ≤ 256 := Nat.pow_le_pow_right (n := 2) (by omega) hl8
  have hpos := Nat.two_pow_pos n
  obtain ⟨m, em⟩ : ∃ m, 2 ^ n - 1 = m := ⟨_, rfl⟩
  obtain ⟨nw, enw⟩ : ∃ nw, nowF n s = nw := ⟨_, rfl⟩
  obtain ⟨q, eq⟩ : ∃ q, freshF n s S.act = q := ⟨_, rfl⟩
  have hnw : nw < 256 := by rw [← enw]; have := now_lt n s; omega
  have hq : q ≤ nw := by rw [← eq, ← enw]; exact Nat.and_le_left
  have e1 : IntKind.u64.wrap (IntKind.u64.wrap ((2 : Int) ^ n) - 1) = (m : Int) := by
    have : (2 : Int) ^ n = ((2 ^ n : Nat) : Int) := by simp
    rw [this, IntKind.wrap_u64, IntKind.wrap_u64]; omega
  have e2 : bits .and .u64 (s : Int) (m : Int) = (nw : Int) := by
    rw [bits_and_u64_nat _ _ hs (by omega), ← enw, ← em]; rfl
  have e3 : bits .andNot .u64 (nw : Int) (S.act : Int) = (q : Int) := by
    rw [u64_andNot_nat _ _ (by omega) (by omega), ← eq, ← enw]; rfl
  have ENW := hid enw
  have EQ := hid eq
  obtain ⟨ac, eac⟩ : ∃ ac, S.act = ac := ⟨_, rfl⟩
  rw [eac] at r4 e3
  clear h hZ hS ha h8 hpos em enw eq eac hr0 ho0 en
  refine (callsIn_wide (n := 5)).1 ?_
  refine callsIn_of_wp_marks Tryd.func14 rfl trivial ?_ rfl
  refine wpIn_wide.2 ?_
  simp only [Tryd.ntmps14, List.size_toArray, List.length_cons, List.length_nil, Nat.reduceAdd, Nat.reduceSub, Array.replicate_succ, Array.replicate_zero, List.push_toArray, List.append_toArray, List.nil_append, List.cons_append]
  have bL := Boxed.new w 25 (.pointer (some ⟨b, 0, none⟩))
  obtain ⟨W3, eW3⟩ : ∃ W3, W3 = w.alloc (.cells #[.pointer (some ⟨b, 0, none⟩)] 25) := ⟨_, rfl⟩
  have hb3 : Below w.heap.size w W3 := by rw [eW3]; exact (Below.refl _ w).alloc (Nat.le_refl _) _
  have hs3 : W3.heap.size = w.heap.size + 1 := by rw [eW3]; simp
  rw [← eW3] at bL
  have EW3 := hid eW3
  clear eW3
  go_wp2_with fail
  rw [← EW3.out]
  refine (idAll_any (q : Int) W3).mono ?_
  rintro _ w6 ⟨rfl, hb6', hs6, hx6⟩
  have hb6 := below_trans' hb3 hb6'
  have bL6 : Boxed w6 w.heap.size 25 (.pointer (some ⟨b, 0, none⟩)) := (hb6'.block _ (by omega)).trans bL
  rw [hs3] at hx6
  rw [hs3]
  clear bL EW3 hb6'
  have hTw : ∀ k, T k → k < w6.heap.size := fun k hk => by have := hTg k hk; have := hb6.size; omega
  have hTx : ¬ T (w.heap.size + 1) := fun h => by have := hTg _ h; omega
  have hTL : ¬ T w.heap.size := fun h => by have := hTg _ h; omega
  have hTb : ¬ T b := fun h => (hTg _ h).2.2.1 rfl
  have hTZ : ¬ T 0 := fun h => by have := hTg _ h; omega
  have hseq := idAll_seq (5 - 1) (by omega) w6 (w.heap.size + 1) q (by omega) T hx6 hTx (HZ.out.below hb6) hTZ
  have HSEQ := hid hseq
  have h6 := HH.out.far hb6
  have r06 := below_cell hb6 (Nat.le_refl _) _ _ r0
  have H06 := hid (show LgAt B w6 b { S with l := risL S (hasL []) } by
    have : risL S (hasL []) = S.l := by rw [ris_ext S (h2 := fun _ => false) (fun k _ => by simp [hasL])]; exact ris_none S
    rw [this]; exact h6)
  have KT := hid (show ∀ W, KS T w6 W → Below B w W ∧ KeptT b (fun t => t = tP) w W from fun W hk => by
    have hbB : Below B w W := (hb6.mono hB).trans (hk.under (fun k h => (hTg k h).1) (by have := hb6.size; omega))
    refine ⟨hbB, ?_⟩
    refine (KeptT.of_below hb6 b (fun t => t = tP)).trans (keptT_ks hk fun k cs t ht he => ?_)
    have := hb6.block k (hTg k ht).2.1
    exact (hTg k ht).2.2.2 cs t (this.symm.trans he))
  have hbw6 : b < w6.heap.size := by have := hb6.size; omega
  have HAw := hid (show ∀ g, A = some ⟨g, 0, none⟩ → g < w6.heap.size from fun g hg => hTw g (by rw [eT]; exact hg))
  have HTG := hid hTg
  clear hseq hx6 h6 r0 r1 r2 r3 r4 hTg
  go_wp2_with fail
  refine (wpIn_wide (n := 5)).1 ?_
  apply wpIn_rangeFunc_E rfl (by omega) (gf := 43) (lb := #[.pointer (some ⟨w.heap.size + 1, 0, none⟩)]) rfl trivial (enters_of Tryd.func43 (by kernel_rfl) rfl) HSEQ.out hTw (KS.refl _ _) (fun _ => rfl)
    (fun pre W => RndT T B w6 b A ca { S with l := risL S (hasL pre) } W)
    (fun _ _ _ => False)
    (fun _ _ _ h hb => h.far hb hbw6 HAw.out)
    (fun _ _ _ _ h _ => h)
    (RndT.of (KS.refl _ _) H06.out r06)
    _ ?assign ?body ?done ?stop
  case assign =>
    intro lq x W K hK
    simp only [encN]
    gi_wp2
    exact hK
  case body =>
    rintro lq pre x W hsW hJ hlen hsp
    have hxn : x < n := by
      rw [← EN.out]
      refine new_lt HS.out (s := s) ?_
      rw [EN.out, EQ.out]
      exact hsp.subset (by simp)
    have hris := ris_pre S (by rw [EN.out]; exact hxn) hsp
    have bL7 := hJ.keep.boxed hTL bL6
    have q1 := bL7.cell
    have q0 := hJ.keep.cell hTb r06
    have hxl : x < (risL S (hasL pre)).length := by rw [ris_length, EN.out]; exact hxn
    obtain ⟨g, cap, c0, -⟩ := hJ.at'.party hxl
    rw [q0] at c0
    simp only [Option.some.injEq, Value.slice.injEq] at c0
    obtain ⟨eA, e9, e10⟩ := c0
    subst eA
    clear e9 e10
    have hTG : T g := by rw [eT]
    obtain ⟨c1, c2, c3⟩ := hJ.at'.pty q0 hxl
    have d1 : W.cell? ⟨g, x * 3, none⟩ = some (.int .i64 (pt S.l x).w) := by rw [← hris.2]; exact c1
    have d2 : W.cell? ⟨g, x * 3 + 1, none⟩ = some (.int .u64 (pt S.l x).v) := by rw [← hris.2]; exact c2
    obtain ⟨r1, r2, r3, r4⟩ := hJ.at'.rest
    clear c1 c2 c3
    obtain ⟨hv, -⟩ := HS.out.at (k := x) (by rw [EN.out]; exact hxn)
    have HSL := hid (fun W => Slack_any (pt S.l x).w S.sl S.cr W)
    have HCL := hid (fun W => Clamp_any (pt S.l x).v S.fl (slackF (pt S.l x).w S.sl S.cr) HS.out.fl (slack_u64 _ _ _) W)
    have HJ := hid hJ
    have HRIS := hid hris
    have HXL := hid hxl
    have HQ0 := hid q0
    have HTGG := hid hTG
    clear hJ hris hxl hv eT r4 HSEQ hTG hsp bL7
    gi_wp2_with fail
    refine wpIn_region_toR 25 1 (by kernel_rfl) (by kernel_rfl) (by kernel_rfl) rfl (by kernel_rfl) ?_
    simp only [List.take_succ_cons, List.take_zero]
    repeat (gi_big_quiet_step ((first | (gi_at_call 36; with_reducible exact CallsIn.past_wide ((HSL.out _))) | (gi_at_call 35; with_reducible exact CallsIn.past_wide ((HCL.out _))) | (gi_at_call 36; exact CallsIn.past_wide ((HSL.out _))) | (gi_at_call 35; exact CallsIn.past_wide ((HCL.out _))))))
    refine wpQuietIn_nil ?_
    rintro _ ⟨xq, rfl⟩
    have q0' := below_cell (W.below_past xq) (Nat.le_refl _) _ _ HQ0.out
    have hL := HJ.out.at'.far (W.below_past xq)
    have f1 := (hL.soft q0').1 (x * 3 + 1)
    have P2 := hid (hL.put (k := x) (j := 1) (y := setP S.sl S.cr S.fl (pt S.l x)) (u := .int .u64 (clampF (pt S.l x).v S.fl (slackF (pt S.l x).w S.sl S.cr))) q0' HXL.out (by omega) (by simp only [HRIS.out.2]; rfl))
    have HKS := hid (((KS.of_below (S := T) (W.below_past xq))).setCell (b := g) HTGG.out (x * 3 + 1) (.int .u64 (clampF (pt S.l x).v S.fl (slackF (pt S.l x).w S.sl S.cr))))
    clear q0' hL
    refine wpAnyIn_ready (rs := [25]) (by kernel_rfl) (by simp) ?_
    refine AllReadyIn.cons rfl (fun K hK => ?_) AllReadyIn.nil
    go_simp
    refine hK _ _ ?_
    clear hK K
    refine wpAnyIn_done (by kernel_rfl) ?_ _
    gi_wp2
    obtain ⟨p1, p2, p3, p4⟩ := P2.out
    simp only [HRIS.out.1] at p1
    exact ⟨HKS.out, RndT.of (HJ.out.keep.trans HKS.out) p1 p4⟩
  case stop =>
    rintro D c pre W hD hSp h hK
    exact h.elim
  case done =>
    rintro D pre W hD hpre hJ hK
    subst hpre
    have hl1 : risL S (hasL (bitsL q)) = (settleF S s).l := by rw [← EQ.out, ← EN.out]; exact ris_new HS.out s
    have hact : (settleF S s).act = nw := by show nowF S.l.length s = nw; rw [EN.out]; exact ENW.out
    have hfl : (settleF S s).fl = floorF (settleF S s).l S.fl (settleF S s).act := rfl
    have hok := HS.out.settle s
    obtain ⟨S', eS'⟩ : ∃ S', settleF S s = S' := ⟨_, rfl⟩
    have hsl : S'.sl = S.sl ∧ S'.cr = S.cr := by rw [← eS']; exact ⟨rfl, rfl⟩
    rw [eS'] at hl1 hact hfl hok
    rw [hl1] at hJ
    have bL7 := hJ.keep.boxed hTL bL6
    have q1 := bL7.cell
    have f4 := hJ.at'.thaw 4
    have r44 := hJ.at'.rest.2.2.2
    have hblt7 := hJ.at'.lt
    obtain ⟨hbB, hkT⟩ := KT.out W hJ.keep
    obtain ⟨hA1, hB1⟩ := hJ.at'.setA nw
    have hneD : b ≠ D := by omega
    have hKD1 : (W.setCell ⟨b, 4, none⟩ (.int .u64 (nw : Int))).heap[D]? = some (.deferred (some [])) := (heap_setCell_other W ⟨b, 4, none⟩ D _ (fun e => hneD e.symm)).trans hK
    have q1' : (W.setCell ⟨b, 4, none⟩ (.int .u64 (nw : Int))).cell? ⟨w.heap.size, 0, none⟩ = some (.pointer (some ⟨b, 0, none⟩)) :=
      (World.cell?_setCell_other _ _ _ _ (by intro e; injection e with e; omega)).trans q1
    have kT1 := hkT.trans (KeptT.setB W b 4 (.int .u64 (nw : Int)) (fun t => t = tP))
    have hB1' := hbB.trans hB1
    obtain ⟨W1, eW1⟩ : ∃ W1, W1 = W.setCell ⟨b, 4, none⟩ (.int .u64 (nw : Int)) := ⟨_, rfl⟩
    rw [← eW1] at hA1 hKD1 q1' kT1 hB1'
    have hA1' : LgAt B W1 b { S' with fl := S.fl } := by
      have : ({ S' with fl := S.fl } : Lg) = { { S with l := S'.l } with act := nw } := by rw [← hact]; cases S'; cases S; simp at hsl; simp [hsl]
      rw [this]; exact hA1
    have hZ1 : Tz W1 := fun j hj => by rw [hB1'.cell (p := ⟨0, j, none⟩) hZB]; exact HZ.out j hj
    have hlt1 : w.heap.size ≤ W1.heap.size := by have := hB1'.size; omega
    have hDW : D < W1.heap.size := (Array.getElem?_eq_some_iff.1 hKD1).1
    have HLE := hid (Least_any (p := some ⟨b, 0, none⟩) (S := { S' with fl := S.fl }) hok.len (.inr ⟨b, rfl, hA1'⟩) hZ1 nw (by omega))
    have HA1 := hid hA1'
    have HKD1 := hid hKD1
    have HFL := hid hfl
    have HOK := hid hok
    have HACT := hid hact
    have EW1 := hid eW1
    have HK1 := hid kT1
    have HBB1 := hid hB1'
    have ES := hid eS'
    have hq1' := q1'
    clear hJ hl1 hA1 hB1 hK hKD1 hkT hbB HSEQ bL7 hok hfl hact kT1 hB1' eS' hsl hA1' hq1' eW1 hZ1
    cases el : leastF S'.l nw with
    | none =>
      have HS2 := hid (show ({ S' with fl := S.fl } : Lg) = S' by
        have h := HFL.out
        rw [HACT.out] at h
        unfold floorF at h
        rw [el] at h
        simp only at h
        rw [← h])
      rw [el] at HLE
      simp only [encB] at HLE
      clear el
      go_wp2_with fail
      rw [← EW1.out]
      refine HLE.out.mono ?_
      rintro _ _ ⟨rfl, x2, rfl⟩
      go_wp2_with fail
      have hKD2 : (W1.past x2).heap[D]? = some (.deferred (some [])) := (World.block_past hDW).trans HKD1.out
      refine ⟨by simp, .inl ⟨_, _, rfl, run_takeDeferred hKD2, ?_⟩⟩
      refine ⟨.tuple #[], by simp [results, Tryd.results14, go_sem], rfl, ?_, ?_, ?_⟩
      · rw [ES.out, ← HS2.out]; exact (HA1.out.past x2).defer hKD2 _
      · exact below_putObj (HBB1.out.trans ((W1.below_past x2).mono (by omega))) (by omega) _
      · exact (HK1.out.trans (KeptT.of_below (W1.below_past x2) _ _)).trans (keptT_ks (T := fun k => k = D) (KS.putObj (S := fun k => k = D) (KS.refl _ _) rfl _) (fun k cs t hk he => by rw [hk, hKD2] at he; cases he))
    | some j =>
      have hj := least_lt el
      have HS2 := hid (show S'.fl = if S.fl < (pt S'.l j).v then (pt S'.l j).v else S.fl by
        have h := HFL.out
        rw [HACT.out] at h
        unfold floorF at h
        rw [el] at h
        exact h)
      rw [el] at HLE
      simp only [encB] at HLE
      clear el
      go_wp2_with fail
      rw [← EW1.out]
      refine HLE.out.mono ?_
      rintro _ _ ⟨rfl, x2, rfl⟩
      clear r44 q1 f4 hblt7
      have hL2 := HA1.out.past x2
      have q2 := below_cell (W1.below_past x2) (Nat.le_refl _) _ _ q1'
      obtain ⟨g, cap, d0, -⟩ := hL2.party (k := j) hj
      obtain ⟨-, d2, -⟩ := hL2.pty d0 hj
      obtain ⟨-, -, d3, -⟩ := hL2.rest
      have hKD2 : (W1.past x2).heap[D]? = some (.deferred (some [])) := (World.block_past hDW).trans HKD1.out
      have HB2 := hid (HBB1.out.trans ((W1.below_past x2).mono (show B ≤ W1.heap.size by omega)))
      have HK2 := hid (HK1.out.trans (KeptT.of_below (W1.below_past x2) _ _))
      obtain ⟨W2, eW2⟩ : ∃ W2, W2 = W1.past x2 := ⟨_, rfl⟩
      rw [← eW2] at hL2 q2 d0 d2 d3 hKD2 HB2 HK2 ⊢
      have HL2 := hid hL2
      have HKD2 := hid hKD2
      have hD2 : D < W2.heap.size := (Array.getElem?_eq_some_iff.1 hKD2).1
      obtain ⟨n2, en2⟩ : ∃ n2, S'.l.length = n2 := ⟨_, rfl⟩
      simp only at d0 d2 d3
      rw [en2] at d0 hj
      clear hL2 hKD2 q1' en2 eW2
      go_wp2_with fail
      refine wp_region_last (C := fun w' => ∃ x : Past, w' = W2.past x) 16 [] (by kernel_rfl) (by kernel_rfl) (by kernel_rfl) rfl (by kernel_rfl) (.inl rfl) (past_of ⟨rfl, rfl, rfl, Nat.le_refl _, fun _ _ => rfl⟩) ?_
      simp only [List.take_succ_cons, List.take_zero]
      repeat (go_big_quiet_step ((fail)))
      refine wpQuiet_nil ?_
      rintro _ ⟨xq, rfl⟩
      have hL3 := HL2.out.past xq
      have f3 := hL3.thaw 3
      have d3' := hL3.rest.2.2.1
      simp only at d3'
      obtain ⟨hF, hBF⟩ := hL3.setF (if S.fl < (pt S'.l j).v then (pt S'.l j).v else S.fl)
      have HF := hid hF
      have HBF := hid hBF
      have HKF := hid ((HK2.out.trans (KeptT.of_below (W2.below_past xq) _ _)).trans (KeptT.setB (W2.past xq) b 3 (.int .u64 (if S.fl < (pt S'.l j).v then (pt S'.l j).v else S.fl)) (fun t => t = tP)))
      have HKD3 := hid ((heap_setCell_other (W2.past xq) ⟨b, 3, none⟩ D (.int .u64 (if S.fl < (pt S'.l j).v then (pt S'.l j).v else S.fl)) (fun e => hneD e.symm)).trans ((World.block_past hD2).trans HKD2.out))
      have HB3 := hid (HB2.out.trans ((W2.below_past xq).mono (show B ≤ W2.heap.size by have := HB2.out.size; omega)))
      clear hL3 hF hBF
      refine wpOp_step rfl (fun K hK => ?_)
      go_simp
      refine hK _ _ ?_
      clear hK K
      generalize (if S.fl < (pt S'.l j).v then (pt S'.l j).v else S.fl) = mx at HF HBF HKF HKD3 HS2 ⊢
      go_wp2_with fail
      refine ⟨by simp, .inl ⟨_, _, rfl, run_takeDeferred HKD3.out, ?_⟩⟩
      refine ⟨.tuple #[], by simp [results, Tryd.results14, go_sem], rfl, ?_, ?_, ?_⟩
      · rw [ES.out]
        have hF := HF.out.defer HKD3.out (.deferred none)
        have e : ({ S' with fl := mx } : Lg) = S' := by rw [← HS2.out]
        rw [← e]
        exact hF
      · exact below_putObj (HB3.out.trans HBF.out) (by omega) _
      · exact HKF.out.trans (keptT_ks (T := fun k => k = D) (KS.putObj (S := fun k => k = D) (KS.refl _ _) rfl _) (fun k cs t hk he => by rw [hk, HKD3.out] at he; cases he))
end Go.Proofs.YtookaodcdglhfaaDoor
