/-
  Layer 42: Run. No condition.
-/
import Derived.Test.YtolhbcgmlaodbaaEdL
import Derived.Shelf.Abstract
import Derived.Test.YtolhbcgmlaodbaaRegSplit
import Derived.Test.YtolhbcgmlaodbaaEdT
import Derived.Test.YtolhbcgmlaodbaaAppB
namespace Go
open Go.RowKit
variable {F : Fence} {n : Nat} {P : Program}
/-- Likewise, where a round declares no variable of its own in memory. -/
theorem wpIn_rangeFunc_H0 {α : Type} {g : Operand} {ps : Array Tmp} {assign body : Code} {Q : Exit → Act → World → Prop} {a : Act} {w : World}
    (hro : F.round = none) (h1 : 1 ≤ n) {gf : Nat} {lb : Array Value} (hg : a.eval g = .func (.func gf) #[] lb) (hFg : F.fn gf) (eg : ∀ args w, (callFunc gf args).run P w = .ok (.enter gf args) w)
    {encs : α → Array Value} {T M : Nat → Prop} {Pre : List α → Prop} {S Sp : List α → World → Prop} {N : Nat} {w0 : World} (hseq : SeqH F (n - 1) P gf lb encs T M Pre S Sp N w0) (hM : ∀ k, M k → k < w.heap.size)
    (hS : ∀ xs A B, S xs A → KS (fun k => w.heap.size ≤ k) A B → S xs B) (hSp : ∀ xs A B, Sp xs A → KS (fun k => w.heap.size ≤ k) A B → Sp xs B) (hT : ∀ k, T k → k < w.heap.size) (hb0 : KS T w0 w) (hps : ∀ x, (encs x).size = ps.size)
    (I : List α → World → Prop) (Ix : Code → List α → World → Prop) (hI : ∀ s A B, I s A → KS (TT M w.heap.size (w.heap.size + 2)) A B → I s B) (hIx : ∀ c s A B, Ix c s A → KS (TT M w.heap.size (w.heap.size + 2)) A B → Ix c s B) (h0 : I [] w) (a₁ : α → Act)
    (hassign : ∀ (l : Nat) (x : α) (W : World) (K : Act → World → Prop), w.heap.size ≤ W.heap.size → K (a₁ x) W →
      assign.wpIn (F.inRound l) (n - 1 - 1) P (Exit.then K (fun _ _ _ => False)) { tmps := (ps.zip (encs x)).foldl (fun t (p, v) => t.setIfInBounds p v) a.tmps, defers := [] } W)
    (hbody : ∀ (l : Nat) (pre : List α) (x : α) (W : World), w.heap.size + 2 ≤ W.heap.size → I pre W → pre.length < N → Pre (pre ++ [x]) → body.wpIn (F.inRound l) (n - 1 - 1) P (postC T I Ix (pre ++ [x]) W) (a₁ x) W)
    (hdone : ∀ (D : Nat) (xs : List α) (W : World), w.heap.size ≤ D → S xs W → I xs W → W.heap[D]? = some (.deferred (some [])) → Q .normal { a with defers := { target := .collected D, args := #[] } :: a.defers } W)
    (hstop : ∀ (D : Nat) (c : Code) (pre : List α) (W : World), w.heap.size ≤ D → Sp pre W → Ix c pre W → W.heap[D]? = some (.deferred (some [])) → c.wpIn F n P Q { a with defers := { target := .collected D, args := #[] } :: a.defers } W) :
    (Code.rangeFunc g ps assign body).wpIn F n P Q a w :=
  wpIn_rangeFunc_H hro h1 hg hFg eg hseq hM hS hSp hT hb0 hps I Ix hI hIx h0 (fun x a' _ => a' = a₁ x)
    (fun _ _ _ _ _ _ h => h)
    (fun l x W K hs hK => hassign l x W K hs (hK _ _ rfl (Below.refl _ _)))
    (fun l pre x a' W h1 h2 h3 h4 h5 => by subst h5; exact hbody l pre x W h1 h2 h3 h4) hdone hstop
end Go
namespace Go.Proofs.Ytolhbcgmlaodbaa
open Go Go.RowKit Go.Shelf Go.Proofs.Ytolhbcgmlaodbaa.HpI
attribute [local go_sem] Oper.semAt_some
theorem took_keep {E : List Jb} {u : Nat} {xs L : List (Hp.It Nat)} (h : Took (u : Int) (E.map Jb.it) xs L) (hL : ∀ y ∈ L, (u : Int) < y.v) : L.Perm ((E.filter fun e => decide ((u : Int) < e.due)).map Jb.it) ∧ (decide (xs ≠ []) = dueJ (E.map Jb.dj) u) := by
  obtain ⟨h1, h2⟩ := h.rest hL
  constructor
  · rw [List.filter_map] at h2
    have e : (fun e : Jb => decide ((u : Int) < e.due)) = ((fun y : Hp.It Nat => !decide (y.v ≤ (u : Int))) ∘ Jb.it) := by
      funext e
      show decide ((u : Int) < e.due) = !decide (e.due ≤ (u : Int))
      rw [← decide_not]
      exact decide_eq_decide.2 (by omega)
    rw [e]; exact h2
  · unfold dueJ
    rw [Bool.eq_iff_iff, decide_eq_true_iff, List.any_eq_true]
    constructor
    · intro hne
      obtain ⟨y, hy⟩ := List.exists_mem_of_ne_nil xs hne
      have hy2 := h1.mem_iff.1 hy
      rw [List.mem_filter] at hy2
      obtain ⟨e, he, rfl⟩ := List.mem_map.1 hy2.1
      exact ⟨e.dj, List.mem_map_of_mem he, hy2.2⟩
    · rintro ⟨y, hy, hd⟩ hn
      obtain ⟨e, he, rfl⟩ := List.mem_map.1 hy
      have : e.it ∈ xs := h1.mem_iff.2 (List.mem_filter.2 ⟨List.mem_map_of_mem he, hd⟩)
      rw [hn] at this; cases this
theorem keep_dj (E : List Jb) (u : Nat) : (E.filter fun e => decide ((u : Int) < e.due)).map Jb.dj = keepJ (E.map Jb.dj) u := by
  unfold keepJ
  rw [List.filter_map]; rfl
set_option maxRecDepth 100000 in
set_option maxHeartbeats 4000000 in
theorem missed_any {l : List Wk} {t i B pb b mb : Nat} {A : Option Addr} {n ca : Nat} {D : List Dj} {w : World} {F : Nat → Prop} (h : PSO l t i B pb b mb A n ca D w F) (hB : B ≤ w.heap.size) (u : Nat) (hu : u ≤ 1000) :
    Calls Try.prog 20 #[.pointer (some ⟨pb, 0, none⟩), .int .i64 (u : Int)] w (fun e w' => e = .returned (.bool (dueJ D u)) ∧ After (PSO l t i B pb b mb A n ca (keepJ D u)) F w w') := by
  obtain ⟨E, hD, hT, hP, hF1, hF2⟩ := h
  obtain ⟨s, es⟩ : ∃ s, w.heap.size = s := ⟨_, rfl⟩
  obtain ⟨w5, ew5⟩ : ∃ w5, w5 = w.alloc (.cells #[.bool false] 4) := ⟨_, rfl⟩
  have hb5 : Below w.heap.size w w5 := by rw [ew5]; exact (Below.refl _ _).alloc (Nat.le_refl _) _
  have hs5 : w5.heap.size = s + 1 := by rw [ew5]; simp [es]
  have bK5 : Boxed w5 s 4 (.bool false) := by rw [ew5, ← es]; exact Boxed.new w _ _
  obtain ⟨hP5, -⟩ := hP.ks (KS.of_below (S := fun _ => False) hb5) (fun _ _ h => h)
  have q1 := Rec.cell hP5.rc 1
  simp at q1
  have hlp := hP5.rc.lt
  have EW5 := hid ew5
  have HP := hid hP
  have HT := hid hT
  have HD := hid hD
  have HF1 := hid hF1
  have HF2 := hid hF2
  have HP5 := hid hP5
  have HB5 := hid hb5
  have HBK := hid bK5
  have e1 : IntKind.u64.wrap (u : Int) = (u : Int) := by rw [IntKind.wrap_u64]; omega
  clear hT hP hF1 hF2 ew5 hP5 hb5 bK5 hD
  refine (callsIn_wide (n := 5)).1 ?_
  refine callsIn_of_wp_marks Try.func20 rfl trivial ?_ rfl
  refine wpIn_wide.2 ?_
  simp only [Try.ntmps20, List.size_toArray, List.length_cons, List.length_nil, Nat.reduceAdd, Nat.reduceSub, Array.replicate_succ, Array.replicate_zero, List.push_toArray, List.append_toArray, List.nil_append, List.cons_append]
  go_upto_region 2 with (fail)
  rw [← EW5.out]
  go_wp2_with fail
  refine (Due_any _ _ w5).mono ?_
  rintro _ w6 ⟨rfl, hb6, hs6, hx6, hu6⟩
  have hb46 := HB5.out.trans (hb6.mono (by omega))
  obtain ⟨hP6, hF6⟩ := HP.out.ks (KS.of_below (S := fun _ => False) hb46) (fun _ _ h => h)
  have hMh := new_out HP5.out.hp hb6 (Nat.le_refl _)
  have hMu := new_out HP5.out.hp hb6 (Nat.le_succ _)
  have bK6 : Boxed w6 s 4 (.bool false) := (hb6.block _ HBK.out.lt).trans HBK.out
  rw [hs5] at hx6 hu6 hMh hMu ⊢
  have hsz6 : w6.heap.size = s + 3 := by omega
  have hfoot : ∀ k, footE pb b mb E w6 k → k < s := fun k hk => by have := (HF2.out k (HF1.out k (hF6 k hk))).2; omega
  have hMK : ∀ k, hF b mb w6 k → k < s := fun k hk => hfoot k (.inr (.inl hk))
  obtain ⟨T, eT⟩ : ∃ T : Nat → Prop, T = fun k => k = s := ⟨_, rfl⟩
  have hTK : T s := by rw [eT]
  have hTw : ∀ k, T k → k < w6.heap.size := by rw [eT]; rintro k rfl; omega
  have hTh : ¬ T (s + 1) := by rw [eT]; intro h; omega
  have hTu : ¬ T (s + 1 + 1) := by rw [eT]; intro h; omega
  have hTM : ∀ k, hF b mb w6 k → ¬ T k := by rw [eT]; rintro k hk rfl; have := hMK _ hk; omega
  have hseq := due_seq (5 - 1) (by omega) w6 (s + 1) (s + 1 + 1) u (E.map Jb.it) T hx6 hu6 hTh hTu hMh hMu hP6.hp hTM (by omega)
  have hMl : ∀ k, hF b mb w6 k → k < w6.heap.size := fun k hk => by have := hMK k hk; omega
  have HML := hid hMl
  have HSEQ := hid hseq
  have HP6 := hid hP6
  have HFT := hid hfoot
  have HMK := hid hMK
  have HSZ := hid hsz6
  have HB6 := hid hb46
  have HF6 := hid hF6
  clear hseq hx6 hu6 hMh hMu hP6 hb46 hb6 hMl hTM hs5 hs6 HBK hfoot hMK HP5 HB5 EW5 q1 hlp hF6
  go_wp2_with fail
  refine (wpIn_wide (n := 5)).1 ?_
  apply wpIn_rangeFunc_H0 rfl (by omega) (gf := 36) (lb := #[.pointer (some ⟨s + 1, 0, none⟩), .pointer (some ⟨s + 1 + 1, 0, none⟩)]) rfl trivial (enters_of Try.func36 (by kernel_rfl) rfl) HSEQ.out HML.out (fun _ _ _ h hk => dueS_far HML.out h hk) (fun _ _ _ h hk => dueSp_far HML.out h hk) hTw (KS.refl _ _) (fun _ => rfl)
    (fun pre U => KS (fun k => hF b mb w6 k ∨ T k) w6 U ∧ Boxed U s 4 (.bool (decide (pre ≠ []))))
    (fun _ _ _ => False)
    (fun _ X Y h hk => ⟨h.1.on (hk.mono (fun k g => g.imp .inl id)) (Nat.le_refl _), hk.boxed (fun g => by
      rcases g with g | g
      · exact absurd (HMK.out _ g) (Nat.lt_irrefl _)
      · have := HSZ.out; omega) h.2⟩)
    (fun _ _ _ _ h _ => h.elim)
    ⟨KS.refl _ _, bK6⟩
    _ ?assign ?body ?done ?stop
  case assign =>
    intro lq x W K' hsW hK
    simp only [encK]
    gi_wp2
    exact hK
  case body =>
    rintro lq pre x W hsW ⟨hk, hbx⟩ hlen _
    have q4 := hbx.cell
    have f4 := hbx.frozen
    have l4 := hbx.lt
    have HK := hid hk
    have HBX := hid hbx
    clear hk hbx
    gi_wp2
    refine ⟨(KS.refl _ _).setCell hTK 0 _, HK.out.trans ((KS.refl _ _).setCell (.inr hTK) 0 _), ?_⟩
    have := HBX.out.set (.bool true)
    simpa using this
  case stop =>
    rintro _ _ _ _ _ _ h
    exact h.elim
  case done =>
    rintro DD xs W hDD ⟨L, htk, hL, hPW, hFW⟩ ⟨hk, hbx⟩ hKD
    obtain ⟨hpm, hany⟩ := took_keep htk hL
    rw [hany] at hbx
    have q4 := hbx.cell
    have l4 := hbx.lt
    obtain ⟨g1, g2⟩ := HP6.out.filt (fun e => decide ((u : Int) < e.due)) hpm hPW hFW hk (fun k hf hT => by have := HFT.out k hf; rw [eT] at hT; omega)
    have hkW : Kept F w W := by
      refine ⟨hk.os.trans HB6.out.os, hk.tape.trans HB6.out.tape, hk.output.trans HB6.out.output, Nat.le_trans HB6.out.size hk.size, fun k h1 h2 => ?_⟩
      have h3 := HB6.out.size
      refine (hk.block k (Nat.lt_of_lt_of_le h1 h3) (fun g => ?_)).trans (HB6.out.block k h1)
      rcases g with g | g
      · exact h2 (HF1.out k (HF6.out k (.inr (.inl g))))
      · rw [eT] at g; omega
    have hsD : s < DD := by have := HSZ.out; omega
    have hkD : KS (fun k => k = DD) W (W.putObj DD (.deferred none)) := (KS.refl (fun k => k = DD) W).putObj rfl _
    obtain ⟨g3, g4⟩ := g1.ks hkD (fun k hf g => by have := HFT.out k (g2 k hf); omega)
    have hkF : Kept F w (W.putObj DD (.deferred none)) := by
      refine ⟨hkD.os.trans hkW.os, hkD.tape.trans hkW.tape, hkD.output.trans hkW.output, Nat.le_trans hkW.size hkD.size, fun k h1 h2 => ?_⟩
      exact (hkD.block k (Nat.lt_of_lt_of_le h1 hkW.size) (by omega)).trans (hkW.block k h1 h2)
    have HG := hid (And.intro g3 (And.intro g4 g2))
    have HKF := hid hkF
    have HKD := hid hKD
    clear g1 g2 g3 g4 hkW hkD hkF hpm hany hPW hFW hk hbx htk hL hKD HSEQ
    go_wp2_with fail
    refine ⟨by simp, .inl ⟨_, _, rfl, run_takeDeferred HKD.out, ?_⟩⟩
    refine ⟨.bool (dueJ (E.map Jb.dj) u), by simp [results, Try.results20, go_sem], ⟨by rw [HD.out], PSO.after HF2.out hB (by rw [keep_dj, HD.out]) (HT.out.sub List.filter_sublist) HG.out.1 (fun k hf => .inl (HF1.out k (HF6.out k (HG.out.2.2 k (HG.out.2.1 k hf))))) HKF.out⟩⟩
end Go.Proofs.Ytolhbcgmlaodbaa
namespace Go
open Go.RowKit
theorem After.refl {O : Ob} {W : World} {F : Nat → Prop} (h : O W F) : After O F W W := ⟨F, h, fun _ h => .inl h, Kept.refl F W⟩
theorem After.far {B : Nat} {O : Ob} {W0 W W' : World} {F : Nat → Prop} (hO : IsO B O) (h : After O F W0 W) (hb : Below W.heap.size W W') : After O F W0 W' := by
  obtain ⟨F1, a, b, c⟩ := h
  exact ⟨F1, hO.far a hb, b, c.trans (Kept.of_below hb F)⟩
end Go
namespace Go.Proofs.Ytolhbcgmlaodbaa
open Go Go.RowKit Go.Proofs.Ytolhbcgmlaodbaa.HpI
theorem job_any (a b : Nat) (ha : a ≤ 1000) (hb : b ≤ 1000) (w : World) : Calls Try.prog 32 #[.int .i64 (a : Int), .int .i64 (b : Int)] w (Gives (.int .i64 ((a : Int) * 501 + b)) w) := by
  have e1 : IntKind.i64.wrap ((a : Int) * 501) = (a : Int) * 501 := by rw [IntKind.wrap_i64]; omega
  have e2 : IntKind.i64.wrap ((a : Int) * 501 + (b : Int)) = (a : Int) * 501 + b := by rw [IntKind.wrap_i64]; omega
  go_enter Try.func32, Try.ntmps32
  go_wp2
  go_ret
  exact Gives.refl rfl
/-- One that comes is new. -/
theorem TI.fresh {l : List Wk} {t i : Nat} {E : List Jb} (h : TI l t i E) (ho : ∀ x ∈ l, WkOk x) (h6 : l.length ≤ 6) (ht : t ≤ 500) (hi : i < l.length) {q : Nat} (hq : (q : Int) * (wk l i).p = t) (x : Jb) (hw : x.w = i) (hn : x.nth = q) (hd : x.due = t + (wk l i).d) (hl : x.left = (wk l i).c) : TI l t (i + 1) (E ++ [x]) ∧ ¬ x.it.id ∈ (E.map Jb.it).map (·.id) ∧ E.length < 4096 ∧ I64 x.it.id := by
  have hok := wk_ok ho i
  have hq5 : (q : Int) ≤ 500 := by
    have h1 : (q : Int) * 1 ≤ (q : Int) * (wk l i).p := Int.mul_le_mul_of_nonneg_left hok.2.1.1 (by omega)
    omega
  refine ⟨⟨fun e he => ?_, by have := h.len; simp; omega⟩, fun hm => ?_, by have := h.len; omega, by unfold I64 Jb.it; simp only; rw [hw, hn]; omega⟩
  · rcases List.mem_append.1 he with he | he
    · obtain ⟨a, b, c, d⟩ := h.j e he
      exact ⟨a, b, c, d.imp id (fun g => ⟨g.1, by omega⟩)⟩
    · obtain rfl := List.mem_singleton.1 he
      rw [hw, hn, hd, hl, hq]
      exact ⟨hi, rfl, ⟨hok.1.1, hok.1.2⟩, .inr ⟨rfl, by omega⟩⟩
  · rw [List.map_map] at hm
    obtain ⟨e, he, e2⟩ := List.mem_map.1 hm
    have hne := h.nth ho he
    obtain ⟨a, b, c, d⟩ := h.j e he
    have e3 : (e.w : Int) * 501 + e.nth = (x.w : Int) * 501 + x.nth := e2
    rw [hw, hn] at e3
    have e4 : e.w = i := by omega
    have e5 : e.nth = q := by omega
    rw [e4, e5, hq] at d
    omega
theorem TI.up {l : List Wk} {t i : Nat} {E : List Jb} (h : TI l t i E) : TI l t (i + 1) E := ⟨fun e he => by
  obtain ⟨a, b, c, d⟩ := h.j e he
  exact ⟨a, b, c, d.imp id (fun g => ⟨g.1, by omega⟩)⟩, by have := h.len; omega⟩
set_option maxRecDepth 100000 in
set_option maxHeartbeats 4000000 in
theorem comes_any {l : List Wk} (ho : ∀ x ∈ l, WkOk x) (h6 : l.length ≤ 6) {t B pb b mb : Nat} {A : Option Addr} {n ca : Nat} (en : l.length = n) {D : List Dj} {W : World} {F : Nat → Prop} (h : PSO l t 0 B pb b mb A n ca D W F) (hB : B ≤ W.heap.size) (ht : t ≤ 500) (hA : ∀ W', Kept F W W' → Cells W' A (tab wkV l)) :
    Calls Try.prog 21 #[.pointer (some ⟨pb, 0, none⟩), .int .i64 (t : Int)] W (fun e w' => e = .returned (.tuple #[]) ∧ After (PSO l t n B pb b mb A n ca (D ++ arrK l t n)) F W w') := by
  have HA := hid hA
  have EN := hid en
  have HO := hid ho
  have H0 := hid (show After (PSO l t 0 B pb b mb A n ca (D ++ arrK l t 0)) F W W from After.refl (by rw [arrK, List.append_nil]; exact h))
  obtain ⟨E, hD, hT, hP, hF1, hF2⟩ := h
  have q0 := Rec.cell hP.rc 0
  simp at q0
  have hlp := hP.rc.lt
  have H6 := hid h6
  clear hD hT hP hF1 hF2 hA en ho h6
  go_enter Try.func21, Try.ntmps21
  go_wp2_with fail
  go_loopw [4, 5, 6, 12] (fun _ _ _ i wr => ∃ k : Nat, i = .int .i64 (k : Int) ∧ k ≤ n ∧ Hid (After (PSO l t k B pb b mb A n ca (D ++ arrK l t k)) F W wr)) (fun _ _ _ i _ => n - (intOf i).toNat)
  case atStart => exact ⟨0, rfl, Nat.zero_le _, H0⟩
  case round =>
    clear H0 q0 hlp
    obtain ⟨k, rfl, hk, HR⟩ := hrel
    by_cases hlt : k < n
    · obtain ⟨F1, ⟨E, hD, hT, hP, hF1, hF2⟩, hFF, hKK⟩ := HR.out
      obtain ⟨g, o, eA, c0, c1, c2⟩ := wk_at (HA.out wr hKK) (show k < l.length by rw [EN.out]; exact hlt)
      have hok := wk_ok HO.out k
      have HAR := hid (show arrK l t (k + 1) = arrK l t k ++ if (t : Int) % (wk l k).p = 0 then [⟨k, t + (wk l k).d, (wk l k).c⟩] else [] from rfl)
      have HFR := hid (fun (q : Nat) (hq : (q : Int) * (wk l k).p = t) x => hT.fresh HO.out H6.out ht (show k < l.length by rw [EN.out]; exact hlt) hq x)
      obtain ⟨y, ey⟩ : ∃ y, wk l k = y := ⟨_, rfl⟩
      rw [ey] at c0 c1 c2 hok HAR HFR
      obtain ⟨c, p, d⟩ := y
      simp only at c0 c1 c2 HAR HFR
      have hp : 1 ≤ p ∧ p ≤ 1000 := hok.2.1
      have hc : 1 ≤ c ∧ c ≤ 100 := hok.1
      have hd : 1 ≤ d ∧ d ≤ 1000 := hok.2.2
      have hk6 : k ≤ 6 := by have := H6.out; have := EN.out; omega
      obtain ⟨w2, ew2⟩ : ∃ w2, w2 = wr.alloc (.cells #[.int .i64 c, .int .i64 p, .int .i64 d] 37) := ⟨_, rfl⟩
      have hb2 : Below wr.heap.size wr w2 := by rw [ew2]; exact (Below.refl _ wr).alloc (Nat.le_refl _) _
      obtain ⟨K, eK⟩ : ∃ K, wr.heap.size = K := ⟨_, rfl⟩
      have hrK : Rec w2 K 37 #[.int .i64 c, .int .i64 p, .int .i64 d] := by rw [ew2, ← eK]; exact Rec.new wr _ _
      have EW2 := hid ew2
      have EA := hid eA
      have hzp : ¬ p = 0 := by omega
      have hrm : (t : Int).tmod p = (t : Int) % p := Int.tmod_eq_emod_of_nonneg (by omega)
      have HD := hid hD
      have HT := hid hT
      have HP := hid hP
      have HF1 := hid hF1
      have HF2 := hid hF2
      have HFF := hid hFF
      have HKK := hid hKK
      have hBr : B ≤ wr.heap.size := Nat.le_trans hB hKK.size
      subst eA
      clear ey hD hT hP hF1 hF2 hFF hKK ew2 hok
      by_cases hz : (t : Int) % p = 0
      · obtain ⟨q, hq⟩ : ∃ q : Nat, (t : Int) / p = q := ⟨((t : Int) / p).toNat, by have := Int.ediv_nonneg (show (0 : Int) ≤ t by omega) (show 0 ≤ p by omega); omega⟩
        have hqp : (q : Int) * p = t := by rw [← hq]; exact Int.ediv_mul_cancel (Int.dvd_of_emod_eq_zero hz)
        have hq5 : q ≤ 500 := by
          have h1 : (q : Int) * 1 ≤ (q : Int) * p := Int.mul_le_mul_of_nonneg_left hp.1 (by omega)
          omega
        obtain ⟨w3, ew3⟩ : ∃ w3, w3 = w2.alloc (.cells #[.int .i64 c] 3) := ⟨_, rfl⟩
        have hb3 : Below w2.heap.size w2 w3 := by rw [ew3]; exact (Below.refl _ w2).alloc (Nat.le_refl _) _
        have hs2 : w2.heap.size = K + 1 := by rw [EW2.out]; simp [eK]
        have hbx : Boxed w3 (K + 1) 3 (.int .i64 c) := by rw [ew3, ← hs2]; exact Boxed.new w2 _ _
        have hrK3 : Rec w3 K 37 #[.int .i64 c, .int .i64 p, .int .i64 d] := hrK.below hb3 (Nat.le_refl _)
        have hb03 : Below wr.heap.size wr w3 := below_trans' hb2 hb3
        obtain ⟨x, ex⟩ : ∃ x : Jb, x = ⟨k, q, t + d, c, K + 1⟩ := ⟨_, rfl⟩
        obtain ⟨hTI, hni, hl4, hi64⟩ := HFR.out q hqp x (by rw [ex]) (by rw [ex]) (by rw [ex]) (by rw [ex])
        obtain ⟨hP3, hF3⟩ := HP.out.ks (KS.of_below (S := fun _ => False) hb03) (fun _ _ h => h)
        have hnf : ¬ footE pb b mb E w3 (K + 1) := fun hf => by
          have := (HF2.out _ (HF1.out _ (hF3 _ hf))).2
          omega
        have hpe : pushE (E.map Jb.it) 4096 x.it.id = 0 := by
          unfold pushE
          rw [if_neg hni, if_neg (by rw [List.length_map]; omega)]
        have HPU := hid (show ∀ wz, Below w3.heap.size w3 wz → Calls Try.prog 31 #[.pointer (some ⟨b, 0, none⟩), .agg #[.int .u64 ((t : Int) + d), .int .i64 ((k : Int) * 501 + q)], .pointer (some ⟨K + 1, 0, none⟩)] wz (fun e w' => e = .returned (.int .i64 0) ∧ PS B w' pb b mb (some ⟨g, o, none⟩) n ca (E ++ [x]) ∧ (∀ k', footE pb b mb (E ++ [x]) w' k' → F1 k' ∨ wr.heap.size ≤ k') ∧ Kept F1 wr w') from fun wz hbz => by
          obtain ⟨hPz, hFz⟩ := hP3.ks (KS.of_below (S := fun _ => False) hbz) (fun _ _ h => h)
          have hpu := Push_any hPz.hp (by omega) (Nat.le_trans hBr (Nat.le_trans hb03.size hbz.size)) x.it hi64
          rw [hpe] at hpu
          have hpl : pushL (E.map Jb.it) 4096 x.it = x.it :: E.map Jb.it := by unfold pushL; rw [if_pos hpe]
          rw [hpl] at hpu
          rw [show x.it.v = (t : Int) + d by rw [ex]; rfl, show x.it.id = (k : Int) * 501 + q by rw [ex]; rfl, show val x.it.x = .pointer (some ⟨K + 1, 0, none⟩) by rw [ex]; rfl] at hpu
          refine hpu.mono ?_
          rintro _ w' ⟨rfl, hH', hb', hg'⟩
          have hbxz : Boxed wz x.blk 3 (.int .i64 x.left) := by rw [ex]; exact (hbz.block _ hbx.lt).trans hbx
          obtain ⟨g1, g2⟩ := hPz.on x hbxz (by rw [ex]; show B ≤ K + 1; omega) (by rw [ex]; exact fun hf => hnf (hFz _ hf)) hH' hg'
          refine ⟨rfl, g1, fun k' hf => ?_, ?_⟩
          · rcases g2 k' hf with e | e | e
            · exact .inl (HF1.out _ (hF3 _ (hFz _ e)))
            · rw [ex] at e; right; show wr.heap.size ≤ k'; rw [e]; show wr.heap.size ≤ K + 1; omega
            · right; have := hb03.size; have := hbz.size; omega
          · have hbb : Below wr.heap.size wr wz := below_trans' hb03 hbz
            refine (Kept.of_below hbb F1).trans' hg'.kept (fun k' h1 hf => ?_)
            exact HF1.out _ (hF3 _ (hFz _ (.inr (.inl hf)))))
        have HJ := hid (fun W => job_any k q (by omega) (by omega) W)
        have HTI := hid hTI
        have HEX := hid ex
        have EW3 := hid ew3
        have HRK := hid hrK3
        have HAR2 := hid (show arrK l t (k + 1) = arrK l t k ++ [x.dj] by rw [HAR.out, if_pos hz, ex]; rfl)
        have hq3 := Rec.cell hP3.rc 1
        simp at hq3
        have hlp3 := hP3.rc.lt
        have e1 : IntKind.i64.wrap ((t : Int).tdiv p) = (q : Int) := by rw [Int.tdiv_eq_ediv_of_nonneg (by omega), hq, IntKind.wrap_i64]; omega
        have e2 : IntKind.i64.wrap ((t : Int) + d) = (t : Int) + d := by rw [IntKind.wrap_i64]; omega
        have e3 : IntKind.u64.wrap ((t : Int) + d) = (t : Int) + d := by rw [IntKind.wrap_u64]; omega
        clear ex hTI hni hl4 hi64 hP3 hF3 hnf hpe hbx hb03 hb3 ew3 hs2 hb2 hqp
        have e4 : IntKind.i64.wrap ((t : Int) / p) = (q : Int) := by rw [hq, IntKind.wrap_i64]; omega
        clear hq
        go_upto_region 5 with (fail)
        rw [← EW2.out, ← EW3.out]
        clear c0 c1 c2
        have r0 := Rec.cell HRK.out 0
        have r1 := Rec.cell HRK.out 1
        have r2 := Rec.cell HRK.out 2
        simp at r0 r1 r2
        have hlK := HRK.out.lt
        refine wp_region_split (S := (fun W => W.cell? ⟨pb, 1, none⟩ = some (.pointer (some ⟨b, 0, none⟩)) ∧ W.cell? ⟨K, 1, none⟩ = some (.int .i64 p) ∧ W.cell? ⟨K, 2, none⟩ = some (.int .i64 d))) 16 (by kernel_rfl) (by kernel_rfl) ?_ (fun hHeld => ?_)
        · (first | (simp [go_sem, *]; done))
        simp only [List.take_succ_cons, List.take_zero, List.drop_succ_cons, List.drop_zero]
        refine wpAnyH_take (i := 0) (v := ?_) rfl (by kernel_rfl) (by kernel_rfl) (by kernel_rfl) (fun _ _ _ h => h) (Or.inl ⟨by rfl, ?_⟩) (by assumption) ?_
        rotate_left
        · intro w hSw; (try dsimp only at hSw); go_simp; try with_reducible rfl
        try simp only [put_simp]
        refine wpAnyH_take (i := 1) (v := ?_) rfl (by kernel_rfl) (by kernel_rfl) (by kernel_rfl) (fun _ _ _ h => h) (Or.inl ⟨by rfl, ?_⟩) (by assumption) ?_
        rotate_left
        · intro w hSw; (try dsimp only at hSw); go_simp; try with_reducible rfl
        try simp only [put_simp]
        refine wpAnyH_take (i := 2) (v := ?_) rfl (by kernel_rfl) (by kernel_rfl) (by kernel_rfl) (fun _ _ _ h => h) (Or.inl ⟨by rfl, ?_⟩) (by assumption) ?_
        rotate_left
        · intro w hSw; (try dsimp only at hSw); go_simp; try with_reducible rfl
        try simp only [put_simp]
        refine wpAnyH_take (i := 3) (v := ?_) rfl (by kernel_rfl) (by kernel_rfl) (by kernel_rfl) (fun _ _ _ h => h) (Or.inl ⟨by rfl, ?_⟩) (by assumption) ?_
        rotate_left
        · intro w hSw; (try dsimp only at hSw); go_simp; try with_reducible rfl
        try simp only [put_simp]
        refine wpAnyH_take (i := 4) (v := ?_) rfl (by kernel_rfl) (by kernel_rfl) (by kernel_rfl) (fun _ _ _ h => h) (Or.inl ⟨by rfl, ?_⟩) (by assumption) ?_
        rotate_left
        · intro w hSw; (try dsimp only at hSw); go_simp; try with_reducible rfl
        try simp only [put_simp]
        refine wpAnyH_take (i := 5) (v := ?_) rfl (by kernel_rfl) (by kernel_rfl) (by kernel_rfl) (fun _ _ _ h => h) (Or.inl ⟨by rfl, ?_⟩) (by assumption) ?_
        rotate_left
        · intro w hSw; (try dsimp only at hSw); go_simp; try with_reducible rfl
        try simp only [put_simp]
        refine wpAnyH_take (i := 6) (v := ?_) rfl (by kernel_rfl) (by kernel_rfl) (by kernel_rfl) (fun _ _ _ h => h) (Or.inl ⟨by rfl, ?_⟩) (by assumption) ?_
        rotate_left
        · intro w hSw; (try dsimp only at hSw); go_simp; try with_reducible rfl
        try simp only [put_simp]
        refine wpAnyH_take (i := 7) (v := ?_) rfl (by kernel_rfl) (by kernel_rfl) (by kernel_rfl) (fun _ _ _ h => h) (Or.inl ⟨by rfl, ?_⟩) (by assumption) ?_
        rotate_left
        · intro w hSw; (try dsimp only at hSw); go_simp; try with_reducible rfl
        try simp only [put_simp]
        refine wpAnyH_take (i := 9) (v := ?_) rfl (by kernel_rfl) (by kernel_rfl) (by kernel_rfl) (fun _ _ _ h => h) (Or.inl ⟨by rfl, ?_⟩) (by assumption) ?_
        rotate_left
        · intro w hSw; (try dsimp only at hSw); go_simp; try with_reducible rfl
        try simp only [put_simp]
        refine wpAnyH_take (i := 10) (v := ?_) rfl (by kernel_rfl) (by kernel_rfl) (by kernel_rfl) (fun _ _ _ h => h) (Or.inl ⟨by rfl, ?_⟩) (by assumption) ?_
        rotate_left
        · intro w hSw; (try dsimp only at hSw); go_simp; try with_reducible rfl
        try simp only [put_simp]
        refine wpAnyH_take (i := 11) (v := ?_) rfl (by kernel_rfl) (by kernel_rfl) (by kernel_rfl) (fun _ _ _ h => h) (Or.inl ⟨by rfl, ?_⟩) (by assumption) ?_
        rotate_left
        · intro w hSw; (try dsimp only at hSw); go_simp; try with_reducible rfl
        try simp only [put_simp]
        refine wpAnyH_take (i := 12) (v := ?_) rfl (by kernel_rfl) (by kernel_rfl) (by kernel_rfl) (fun _ _ _ h => h) (Or.inl ⟨by rfl, ?_⟩) (by assumption) ?_
        rotate_left
        · intro w hSw; (try dsimp only at hSw); go_simp; try with_reducible rfl
        try simp only [put_simp]
        refine wpAnyH_take (i := 13) (v := ?_) rfl (by kernel_rfl) (by kernel_rfl) (by kernel_rfl) (fun _ _ _ h => h) (Or.inl ⟨by rfl, ?_⟩) (by assumption) ?_
        rotate_left
        · intro w hSw; (try dsimp only at hSw); go_simp; try with_reducible rfl
        try simp only [put_simp]
        refine wpAnyH_ready (rs := [8, 14]) (by kernel_rfl) (by simp) ?_
        refine AllReadyH.cons rfl (fun K hK => ?_) ?_
        · go_simp
          refine hK.out _ _ ?_ (fun hHeld => ?_)
          · (first | (simp [go_sem, *]; done))
          clear hK K
          try simp only [put_simp]
          refine wpAnyH_ready (rs := [14]) (by kernel_rfl) (by simp) ?_
          refine AllReadyH.cons rfl (fun K hK => ?_) ?_
          · go_simp; refine (HJ.out _).mono ?_; rintro _ _ ⟨rfl, x1, rfl⟩
            refine hK.out _ _ ?_ (fun hHeld => ?_)
            · (first | (simp [go_sem, *]; done))
            clear hK K
            try simp only [put_simp]
            refine wpAnyH_take (i := 15) (v := ?_) rfl (by kernel_rfl) (by kernel_rfl) (by kernel_rfl) (fun _ _ _ h => h) (Or.inl ⟨by rfl, ?_⟩) (by assumption) ?_
            rotate_left
            · intro w hSw; (try dsimp only at hSw); go_simp; try with_reducible rfl
            try simp only [put_simp]
            refine wpAnyH_done (by kernel_rfl) ?_ _
            change wpList _ _ _ _ _ _
            go_wp2_with (go_at_call 31; refine (HPU.out _ (by (repeat (first | exact Below.refl _ _ | refine RowKit.Below.past ?_ _ | refine RowKit.Below.alloc' ?_ _ | refine RowKit.Below.drew' ?_ | refine RowKit.Below.drewN' ?_ _ | refine RowKit.Below.setCell' ?_ (by simp [go_sem]) _)))).mono ?_; rintro _ w4 ⟨rfl, h41, h42, h43⟩)
            exact ⟨⟨k + 1, by go_num, by omega, hid (After.next (F1 := F1) (W1 := wr) HFF.out HKK.out (PSO.after HF2.out hBr (by rw [List.map_append, HD.out, HAR2.out, List.append_assoc]; rfl) HTI.out h41 h42 h43))⟩, by simp [intOf]; omega⟩
          exact AllReadyH.nil
        refine AllReadyH.cons rfl (fun K hK => ?_) ?_
        · go_simp; refine (HJ.out _).mono ?_; rintro _ _ ⟨rfl, x1, rfl⟩
          refine hK.out _ _ ?_ (fun hHeld => ?_)
          · (first | (simp [go_sem, *]; done))
          clear hK K
          try simp only [put_simp]
          refine wpAnyH_ready (rs := [8]) (by kernel_rfl) (by simp) ?_
          refine AllReadyH.cons rfl (fun K hK => ?_) ?_
          · go_simp
            refine hK.out _ _ ?_ (fun hHeld => ?_)
            · (first | (simp [go_sem, *]; done))
            clear hK K
            try simp only [put_simp]
            refine wpAnyH_take (i := 15) (v := ?_) rfl (by kernel_rfl) (by kernel_rfl) (by kernel_rfl) (fun _ _ _ h => h) (Or.inl ⟨by rfl, ?_⟩) (by assumption) ?_
            rotate_left
            · intro w hSw; (try dsimp only at hSw); go_simp; try with_reducible rfl
            try simp only [put_simp]
            refine wpAnyH_done (by kernel_rfl) ?_ _
            change wpList _ _ _ _ _ _
            go_wp2_with (go_at_call 31; refine (HPU.out _ (by (repeat (first | exact Below.refl _ _ | refine RowKit.Below.past ?_ _ | refine RowKit.Below.alloc' ?_ _ | refine RowKit.Below.drew' ?_ | refine RowKit.Below.drewN' ?_ _ | refine RowKit.Below.setCell' ?_ (by simp [go_sem]) _)))).mono ?_; rintro _ w4 ⟨rfl, h41, h42, h43⟩)
            exact ⟨⟨k + 1, by go_num, by omega, hid (After.next (F1 := F1) (W1 := wr) HFF.out HKK.out (PSO.after HF2.out hBr (by rw [List.map_append, HD.out, HAR2.out, List.append_assoc]; rfl) HTI.out h41 h42 h43))⟩, by simp [intOf]; omega⟩
          exact AllReadyH.nil
        exact AllReadyH.nil
      · obtain ⟨hP2, hF3⟩ := HP.out.ks (KS.of_below (S := fun _ => False) hb2) (fun _ _ h => h)
        have HP2 := hid (And.intro hP2 hF3)
        have HAR2 := hid (show arrK l t (k + 1) = arrK l t k by rw [HAR.out, if_neg hz, List.append_nil])
        have HB2 := hid hb2
        have hz2 : ((t : Int) % p == 0) = false := by simpa using hz
        clear hP2 hF3 hb2 hrK
        go_wp2_with fail
        rw [← EW2.out]
        exact ⟨⟨k + 1, by go_num, by omega, hid (After.next (F1 := F1) (W1 := wr) HFF.out HKK.out (PSO.after HF2.out hBr (by rw [HD.out, HAR2.out]) HT.out.up HP2.out.1 (fun k' hf => .inl (HF1.out k' (HP2.out.2 k' hf))) (Kept.of_below HB2.out F1)))⟩, by simp [intOf]; omega⟩
    · obtain rfl : k = n := by omega
      go_wp2_with fail
      go_end0
      exact ⟨rfl, HR.out⟩
end Go.Proofs.Ytolhbcgmlaodbaa
namespace Go.Proofs.Ytolhbcgmlaodbaa
open Go Go.RowKit Go.Proofs.Ytolhbcgmlaodbaa.HpI
theorem apart_or {v : Value} {g n cap sz : Nat} (h : ∀ v' : Value, Apart v' v → (∀ k, v'.ownBlock = some k → k < sz) → Apart v' (.slice (some ⟨g, 0, none⟩) n cap)) : v.ownBlock = some g ∨ sz ≤ g := by
  by_cases h1 : v.ownBlock = some g
  · exact .inl h1
  · refine .inr (Nat.le_of_not_lt fun h2 => ?_)
    rcases h (.slice (some ⟨g, 0, none⟩) 1 1) (.inr (.inr (fun e => h1 e.symm))) (fun k hk => by simp only [Value.ownBlock, Option.some.injEq] at hk; omega) with h3 | h3 | h3
    · simp [Value.ownBlock] at h3
    · simp [Value.ownBlock] at h3
    · exact h3 rfl
/-- A row of ints of the call's own. -/
def rowO (B : Nat) (v : Value) (n : Nat) (xs : List Value) : Ob := fun W F => W.ownsRow B 3 1 v n xs ∧ ∀ k, F k ↔ v.ownBlock = some k
theorem rowO_is {B : Nat} {v : Value} {n : Nat} {xs : List Value} : IsO B (rowO B v n xs) := by
  refine ⟨fun ⟨h2, hF⟩ hk hX => ⟨⟨h2.1, ?_⟩, hF⟩, fun ⟨h2, hF⟩ hk => h2.lt _ ((hF _).1 hk)⟩
  rcases h2.2 with h4 | ⟨g, cap, cur, hv, hg, hh, hr⟩
  · exact .inl h4
  · exact .inr ⟨g, cap, cur, hv, hg, (hk.block g (Array.getElem?_eq_some_iff.1 hh).1 (hX g ((hF g).2 (by rw [hv]; rfl)))).trans hh, hr⟩
theorem Pr.row {B : Nat} {O : Ob} {W W' : World} {F : Nat → Prop} {v : Value} {n : Nat} {xs : List Value} (h1 : IsO B O) (h : Pr O (rowO B v n xs) W F) {g n' cap : Nat} {xs' : List Value} (ho : W'.ownsRow B 3 1 (.slice (some ⟨g, 0, none⟩) n' cap) n' xs') (hg : W.grownBy W' v.ownBlock)
    (ha : ∀ v' : Value, Apart v' v → (∀ k, v'.ownBlock = some k → k < W.heap.size) → Apart v' (.slice (some ⟨g, 0, none⟩) n' cap)) : After (Pr O (rowO B (.slice (some ⟨g, 0, none⟩) n' cap) n' xs')) F W W' := by
  obtain ⟨F1, F2, a1, ⟨a2, a5⟩, a3, a4⟩ := h
  have hor := apart_or ha
  have hk : Kept F2 W W' := ⟨hg.os, hg.tape, hg.output, hg.size, fun k h1 h2 => hg.block k h1 (fun e => h2 ((a5 k).2 (by first | exact e | exact e.symm)))⟩
  have hsub : ∀ k, (Value.slice (some ⟨g, 0, none⟩) n' cap).ownBlock = some k → F2 k ∨ W.heap.size ≤ k := fun k hk => by
    simp only [Value.ownBlock, Option.some.injEq] at hk
    subst hk
    exact hor.imp (fun e => (a5 g).2 e) id
  refine ⟨fun k => F1 k ∨ (Value.slice (some ⟨g, 0, none⟩) n' cap).ownBlock = some k, ⟨F1, fun k => (Value.slice (some ⟨g, 0, none⟩) n' cap).ownBlock = some k, h1.kept a1 hk (fun k x y => a3 k x y), ⟨ho, fun k => Iff.rfl⟩, fun k x y => ?_, fun k => Iff.rfl⟩, fun k hk => ?_, hk.mono (fun k _ h => (a4 k).2 (.inr h))⟩
  · rcases hsub k y with e | e
    · exact a3 k x e
    · have := (h1.foot a1 x).2; omega
  · rcases hk with hk | hk
    · exact .inl ((a4 k).2 (.inl hk))
    · exact (hsub k hk).imp (fun e => (a4 k).2 (.inr e)) id
/-- An act that is no call. -/
theorem Kp.after {B : Nat} {O O' : Ob} {X : Nat → Prop} {w8 W W' : World} (h : Kp B O X w8 W) (hc : ∀ F, O W F → After O' F W W') : Kp B O' X w8 W' := by
  obtain ⟨F, a, b⟩ := h.ex
  obtain ⟨F', b1, b2, b3⟩ := hc F a
  have hs := h.kp.size
  refine ⟨h.sz, h.kp.trans' b3 (fun i hi hF => ?_), F', b1, fun k hk => ?_⟩
  · rcases b i hF with g | g
    · exact g
    · omega
  · rcases b2 k hk with g | g
    · exact b k g
    · exact .inr (Nat.le_trans hs g)
/-- Brought to 0 up to 500. -/
def longE (t : Int) : Nat := (min (max t 0) 500).toNat
theorem long_cases (t : Int) : (t < 0 ∧ longE t = 0) ∨ (¬ t < 0 ∧ ¬ 500 < t ∧ (longE t : Int) = t) ∨ (¬ t < 0 ∧ 500 < t ∧ longE t = 500) := by unfold longE; omega
theorem long_le (t : Int) : longE t ≤ 500 := by unfold longE; omega
theorem info_i64 : (Try.prog.info? 3).map (fun i => (i.zero, i.size, i.bytes)) = some (some (.int .i64 0), 1, 8) := by kernel_rfl
/-- What Run holds, behind as many rounds. -/
abbrev RnO (l : List Wk) (t i B pb b mb : Nat) (A : Option Addr) (n ca : Nat) (D : List Dj) (v : Value) (m : Nat) (xs : List Int) : Ob := Pr (PSO l t i B pb b mb A n ca D) (rowO B v m (i64s xs))
theorem PSO.next {l : List Wk} {t n B pb b mb : Nat} {A : Option Addr} {n' ca : Nat} {D : List Dj} {W : World} {F : Nat → Prop} (h : PSO l t n B pb b mb A n' ca D W F) (hn : n ≤ 6) : PSO l (t + 1) 0 B pb b mb A n' ca D W F := by
  obtain ⟨E, h1, h2, h3⟩ := h
  exact ⟨E, h1, h2.next hn, h3⟩
theorem Pr.map1 {O1 O1' O2 : Ob} {W : World} {F : Nat → Prop} (h : Pr O1 O2 W F) (hm : ∀ F, O1 W F → O1' W F) : Pr O1' O2 W F := by
  obtain ⟨F1, F2, a1, a2, a3, a4⟩ := h
  exact ⟨F1, F2, hm _ a1, a2, a3, a4⟩
theorem run_succ (l : List Wk) (t : Nat) : runK l (t + 1) = ((tickJ (keepJ (runK l t).1 t ++ arrK l t l.length)).2, (runK l t).2.1 ++ [(tickJ (keepJ (runK l t).1 t ++ arrK l t l.length)).1], missJ (runK l t).1 t (runK l t).2.2) := rfl
set_option maxRecDepth 100000 in
set_option maxHeartbeats 4000000 in
theorem Run_any (A : Option Addr) (ca n : Nat) (l : List Wk) (en : l.length = n) (hm : mayF l = true) (u0 : Int) (w : World) (ha : Cells w A (tab wkV l)) :
    Calls Try.prog 8 #[.slice A n ca, .int .i64 u0] w (fun e w' => ∃ R c, e = .returned (.tuple #[.slice R (longE u0) c, .int .i64 (missE l (longE u0))]) ∧ Below w.heap.size w w' ∧ w'.ownsRow w.heap.size 3 1 (.slice R (longE u0) c) (longE u0) (i64s (whoE l (longE u0)))) := by
  have HMAY := hid (May_any A ca n l en w ha)
  rw [hm] at HMAY
  obtain ⟨h6, hok⟩ := wks_ok hm
  have HA := hid ha
  have EN := hid en
  have HOK := hid hok
  have H6 := hid h6
  have hcs := long_cases u0
  have hu := long_le u0
  obtain ⟨u, eu⟩ : ∃ u, longE u0 = u := ⟨_, rfl⟩
  rw [eu] at hcs hu ⊢
  clear ha en hm hok h6 eu
  go_enter Try.func8, Try.ntmps8
  go_upto_region 3 with (go_at_call 11; refine HMAY.out.mono ?_; rintro _ _ ⟨rfl, x1, rfl⟩)
  obtain ⟨w1, ew1⟩ : ∃ W, W = w.past x1 := ⟨_, rfl⟩
  have HB1 := hid (show Below w.heap.size w w1 by rw [ew1]; exact w.below_past _)
  rw [← ew1]
  clear ew1 HMAY
  go_wp2_with fail
  refine (New_any (B := w1.heap.size) 4096 w1 (Nat.le_refl _)).mono ?_
  rintro _ w2 ⟨b, mb, rfl, hH, hb2, hb, hmb⟩
  rw [show mostH 4096 = 4096 by decide] at hH
  obtain ⟨w3, ew3⟩ : ∃ w3, w3 = w2.alloc (.cells #[.slice A n ca, .pointer (some ⟨b, 0, none⟩)] tPl) := ⟨_, rfl⟩
  obtain ⟨pb, epb⟩ : ∃ pb, w2.heap.size = pb := ⟨_, rfl⟩
  have hb3 : Below w2.heap.size w2 w3 := by rw [ew3]; exact (Below.refl _ w2).alloc (Nat.le_refl _) _
  have hrP : Rec w3 pb tPl #[.slice A n ca, .pointer (some ⟨b, 0, none⟩)] := by rw [ew3, ← epb]; exact Rec.new w2 _ _
  obtain ⟨hH3, hF3⟩ := hH.ks (KS.of_below (S := fun _ => False) hb3) (fun _ _ h => h)
  have hpn : ¬ hF b mb w3 pb := fun hf => by have := (hF_lt hH (hF3 _ hf)).2; omega
  have hPS : PS w1.heap.size w3 pb b mb A n ca [] := ⟨by have := hb2.size; omega, hrP, hH3, fun e he => (by cases he), List.nodup_nil, hpn⟩
  obtain ⟨X, eX⟩ : ∃ X : Nat → Prop, X = fun k => footE pb b mb [] w3 k := ⟨_, rfl⟩
  have hO : PSO l 0 0 w1.heap.size pb b mb A n ca [] w3 X := ⟨[], rfl, ⟨fun e he => (by cases he), by simp⟩, hPS, fun k hf => (by rw [eX]; exact hf), fun k hf => (by rw [eX] at hf; exact hPS.foot hf)⟩
  have HST := hid (show Kp w1.heap.size (RnO l 0 0 w1.heap.size pb b mb A n ca [] (.slice none 0 0) 0 []) X w3 w3 from
    ⟨by have := hb2.size; have := hb3.size; omega, Kept.refl _ _, X, ⟨X, fun _ => False, hO, ⟨World.ownsRow_nil _ _ _ _, fun k => (by simp [Value.ownBlock])⟩, fun _ _ h => h, fun k => (by simp)⟩, fun k hk => .inl hk⟩)
  have HXB := hid (show ∀ k, X k → w1.heap.size ≤ k from fun k hk => (PSO_is.foot hO hk).1)
  have HB3 := hid (show Below w1.heap.size w1 w3 from below_trans' hb2 hb3)
  have HBX := hid (fun (W : World) (h : Kept X w3 W) => (show Below w1.heap.size w1 W from h.to_below HB3.out HB3.out.size HXB.out))
  have HAX := hid (fun (W : World) (h : Kept X w3 W) => (HA.out.below (HB1.out.trans ((HBX.out W h).mono HB1.out.size)) : Cells W A (tab wkV l)))
  have EW3 := hid ew3
  have HI := hid (info_parts info_i64)
  clear hO hPS hpn hH3 hF3 hrP hb3 ew3 hH hb2 eX hb hmb HXB HB3
  go_upto_region 6 with (fail)
  rw [← EW3.out]
  go_cut [1] from 17 to 19 (fun v wx => v = .int .i64 (u : Int) ∧ wx = w3)
  case first =>
    rcases hcs with ⟨h1, h2⟩ | ⟨h1, h2, h3⟩ | ⟨h1, h2, h3⟩
    all_goals (
      go_wp2_with fail
      go_meet
      exact ⟨by first | (rw [h2]; rfl) | (rw [h3]; rfl) | (rw [h3]), rfl⟩)
  case rest =>
    obtain ⟨rfl, rfl⟩ := hcut
    go_wp2_with fail
    go_loopw [7, 8, 9] (fun v7 v8 v9 wr => ∃ (t m : Nat) (R : Option Addr) (c : Nat) (ms : Int), v7 = .slice R m c ∧ v8 = .int .i64 ms ∧ v9 = .int .i64 (t : Int) ∧ t ≤ u + 1 ∧ m = min t u ∧ Hid (t ≤ u → ms = (runK l t).2.2) ∧ Hid (u < t → ms = missE l u) ∧ ∃ D, Hid (t ≤ u → D = (runK l t).1) ∧ Hid (Kp w1.heap.size (RnO l t 0 w1.heap.size pb b mb A n ca D (.slice R m c) m (whoE l m)) X wc wr)) (fun _ _ v9 _ => u + 1 - (intOf v9).toNat)
    case atStart => exact ⟨0, 0, none, 0, -1, rfl, rfl, rfl, by omega, by omega, hid (fun _ => rfl), hid (fun h => by omega), [], hid (fun _ => rfl), HST⟩
    case round =>
      clear HST
      obtain ⟨t, m, R, c, ms, rfl, rfl, rfl, ht, hmu, HM1, HM2, D, HDD, HR⟩ := hrel
      by_cases htu : t ≤ u
      · obtain rfl : m = t := by omega
        have hD := HDD.out htu
        have hms := HM1.out htu
        have HRS := hid (run_succ l m)
        have hsz := HR.out.size
        have hLn := EN.out
        have HMI := hid (show Calls Try.prog 20 #[.pointer (some ⟨pb, 0, none⟩), .int .i64 (m : Int)] wr (fun e w' => e = .returned (.bool (dueJ D m)) ∧ Kp w1.heap.size (RnO l m 0 w1.heap.size pb b mb A n ca (keepJ D m) (.slice R m c) m (whoE l m)) X wc w') from
          HR.out.act (fun F hF => Pr.act1 (O1' := PSO l m 0 w1.heap.size pb b mb A n ca (keepJ D m)) rowO_is hF (fun F1 h1 => missed_any h1 hsz m (by omega))))
        have HCO := hid (fun (W : World) (h : Kp w1.heap.size (RnO l m 0 w1.heap.size pb b mb A n ca (keepJ D m) (.slice R m c) m (whoE l m)) X wc W) => (show Calls Try.prog 21 #[.pointer (some ⟨pb, 0, none⟩), .int .i64 (m : Int)] W (fun e w' => e = .returned (.tuple #[]) ∧ Kp w1.heap.size (RnO l m n w1.heap.size pb b mb A n ca (keepJ D m ++ arrK l m n) (.slice R m c) m (whoE l m)) X wc w') from
          h.act (fun F hF => Pr.act1 (O1' := PSO l m n w1.heap.size pb b mb A n ca (keepJ D m ++ arrK l m n)) rowO_is hF (fun F1 h1 => comes_any HOK.out H6.out EN.out h1 h.size (by omega) (fun W' hk => HA.out.below (HB1.out.trans (RowKit.Below.mono (hk.to_below (HBX.out W h.kp) (HBX.out W h.kp).size (fun k hk => (PSO_is.foot h1 hk).1)) HB1.out.size)))))))
        obtain ⟨D2, eD2⟩ : ∃ D2, keepJ D m ++ arrK l m n = D2 := ⟨_, rfl⟩
        rw [eD2] at HCO
        have HTK := hid (fun (W : World) (h : Kp w1.heap.size (RnO l m n w1.heap.size pb b mb A n ca D2 (.slice R m c) m (whoE l m)) X wc W) => (show Calls Try.prog 22 #[.pointer (some ⟨pb, 0, none⟩)] W (fun e w' => e = .returned (.int .i64 (tickJ D2).1) ∧ Kp w1.heap.size (RnO l m n w1.heap.size pb b mb A n ca (tickJ D2).2 (.slice R m c) m (whoE l m)) X wc w') from
          h.act (fun F hF => Pr.act1 (O1' := PSO l m n w1.heap.size pb b mb A n ca (tickJ D2).2) rowO_is hF (fun F1 h1 => tick_any HOK.out H6.out h1 h.size (by omega)))))
        have HEQ := hid (show runK l (m + 1) = ((tickJ D2).2, whoE l m ++ [(tickJ D2).1], missJ D m ms) by
          rw [HRS.out, ← hD, ← hms, hLn, eD2]; rfl)
        obtain ⟨tx, etx⟩ : ∃ tx, (tickJ D2).1 = tx := ⟨_, rfl⟩
        obtain ⟨D3, eD3⟩ : ∃ D3, (tickJ D2).2 = D3 := ⟨_, rfl⟩
        rw [etx, eD3] at HEQ HTK
        clear etx eD3
        have HWE := hid (show i64s (whoE l (m + 1)) = i64s (whoE l m) ++ [.int .i64 tx] by
          rw [show whoE l (m + 1) = whoE l m ++ [tx] by unfold whoE; rw [HEQ.out]; rfl]; simp [i64s])
        have hn6 : n ≤ 6 := by have := H6.out; have := EN.out; omega
        obtain ⟨i0, ii, iz0, iz1, iz2⟩ := HI.out
        have HII := hid ii
        clear ii
        have HEM := hid (show missE l m = missJ D m ms by unfold missE; rw [← hD, ← hms])
        obtain ⟨dd, edd⟩ : ∃ dd, dueJ D m = dd := ⟨_, rfl⟩
        rw [edd] at HMI
        have HDU := hid edd
        clear hD hms eD2 edd HM1 HM2 HDD HR HRS
        obtain ⟨ms', HMS⟩ : ∃ ms', Hid (missJ D m ms = ms') := ⟨_, hid rfl⟩
        rw [HMS.out] at HEQ HEM
        have HMJ := hid (show ms' = if dd && decide (ms < 0) then (m : Int) else ms by rw [← HMS.out]; unfold missJ; rw [HDU.out])
        have e1 : IntKind.i64.wrap ((m : Int) + 1) = (m : Int) + 1 := by rw [IntKind.wrap_i64]; omega
        clear hmu hLn
        go_upto_region 10 with (fail)
        have hcase : (dd = true ∧ ms < 0) ∨ (dd = true ∧ ¬ ms < 0) ∨ dd = false := by
          cases dd
          · exact .inr (.inr rfl)
          · rcases Int.lt_or_le ms 0 with g | g
            · exact .inl ⟨rfl, g⟩
            · exact .inr (.inl ⟨rfl, by omega⟩)
        have hv : ((dd = true ∧ ms < 0) ∧ ms' = (m : Int)) ∨ ((dd = true ∧ ¬ ms < 0) ∧ ms' = ms) ∨ (dd = false ∧ ms' = ms) := by
          rw [HMJ.out]
          rcases hcase with ⟨g1, g2⟩ | ⟨g1, g2⟩ | g1
          · exact .inl ⟨⟨g1, g2⟩, by rw [g1, decide_eq_true g2]; rfl⟩
          · exact .inr (.inl ⟨⟨g1, g2⟩, by rw [g1, decide_eq_false g2]; rfl⟩)
          · exact .inr (.inr ⟨g1, by rw [g1]; rfl⟩)
        clear HMJ HMS hcase HDU
        rcases hv with ⟨⟨rfl, h2⟩, rfl⟩ | ⟨⟨rfl, h2⟩, rfl⟩ | ⟨rfl, rfl⟩
        all_goals (
          go_upto_region 12 with (go_at_call 20; refine HMI.out.mono ?_; rintro _ w4 ⟨rfl, h4⟩; have H4 := hid h4; clear h4)
          go_upto_region 13 with (go_at_call 21; refine (HCO.out _ H4.out).mono ?_; rintro _ w5 ⟨rfl, h5⟩; have H5 := hid h5; clear h5)
          by_cases hmu : m < u
          · clear HMI H4 HCO
            go_wp2_with (first | (go_at_call 22; refine (HTK.out _ H5.out).mono ?_; rintro _ w6 ⟨rfl, h6⟩; have H6' := hid h6; have HO6 := h6.ex; have hB6 := h6.size; obtain ⟨_, ⟨_, _, _, ⟨HO6, _⟩, _⟩, _⟩ := HO6; have HO6 := hid HO6; clear h6) | (at_builtin; refine wpList_pushB rfl (.tmp 39) (.tmp 42) 24 rfl 3 i0 (.int .i64 0) 1 8 Try.underlying24 HII.out iz0 iz1 iz2 rfl (by decide) w1.heap.size hB6 (.slice R m c) m (i64s (whoE l m)) rfl HO6.out _ #[.int .i64 tx] rfl rfl rfl (by simp [Value.oneCell']) (by omega) (by unfold maxLen; omega) ?_; intro w7 g7 c7 ho7 hg7 ha7))
            have HQ7 := hid (Kp.after H6'.out (fun F hF => Pr.row PSO_is hF ho7 hg7 ha7))
            clear ho7 hg7 ha7
            exact ⟨⟨m + 1, m + 1, _, c7, _, rfl, rfl, by go_num, by omega, by omega, hid (fun _ => by rw [HEQ.out]), hid (fun h => by omega), D3, hid (fun _ => by rw [HEQ.out]), hid (by unfold RnO; rw [HWE.out]; exact HQ7.out.map (fun F h => Pr.map1 h (fun F h => PSO.next h hn6)))⟩, by simp [intOf]; try omega⟩
          · obtain rfl : m = u := by omega
            go_wp2_with fail
            exact ⟨⟨m + 1, m, R, c, _, rfl, rfl, by go_num, by omega, by omega, hid (fun h => by omega), hid (fun _ => HEM.out.symm), D2, hid (fun h => by omega), hid (H5.out.map (fun F h => Pr.map1 h (fun F h => PSO.next h hn6)))⟩, by simp [intOf]; try omega⟩)
      · obtain rfl : t = u + 1 := by omega
        obtain rfl : m = u := by omega
        have hms := HM2.out (by omega)
        obtain ⟨_, ⟨_, _, _, ⟨ho, _⟩, _⟩, _⟩ := HR.out.ex
        have HO := hid ho
        have hne : ¬ ((m + 1 : Nat) : Int) ≤ (m : Int) := by omega
        have HMS := hid hms
        clear ho hms HM1 HM2 HDD hmu htu
        obtain ⟨j, ej⟩ : ∃ j, m + 1 = j := ⟨_, rfl⟩
        rw [ej] at hne ⊢
        clear ej
        go_wp2_with fail
        go_ret2
        refine ⟨R, c, by rw [← HMS.out]; rfl, HB1.out.trans ((HBX.out _ HR.out.kp).mono HB1.out.size), own_base HO.out HB1.out.size⟩
theorem RunN_any (A : Option Addr) (ca n : Nat) (l : List Wk) (en : l.length = n) (hm : mayF l = false) (u : Int) (w : World) (ha : Cells w A (tab wkV l)) :
    Calls Try.prog 8 #[.slice A n ca, .int .i64 u] w (Gives (.tuple #[.slice none 0 0, .int .i64 0]) w) := by
  have HMAY := hid (May_any A ca n l en w ha)
  rw [hm] at HMAY
  clear ha hm
  go_enter Try.func8, Try.ntmps8
  go_wp2_with (go_at_call 11; refine HMAY.out.mono ?_; rintro _ _ ⟨rfl, x1, rfl⟩)
  go_ret2
  exact Gives.mk rfl (by (repeat (first | exact Below.refl _ _ | refine RowKit.Below.past ?_ _ | refine RowKit.Below.alloc' ?_ _ | refine RowKit.Below.drew' ?_ | refine RowKit.Below.drewN' ?_ _ | refine RowKit.Below.setCell' ?_ (by simp [go_sem]) _)))
end Go.Proofs.Ytolhbcgmlaodbaa
