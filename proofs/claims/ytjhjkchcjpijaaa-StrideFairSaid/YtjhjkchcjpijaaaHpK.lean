/-
  Layer 04 (heaps), at this dump: heaps of ints: up and down. No condition.
-/
import Derived.Test.YtjhjkchcjpijaaaHpJ
namespace Go.Proofs.Ytjhjkchcjpijaaa.HpI
open Go Go.RowKit Go.Proofs.Ytjhjkchcjpijaaa
/-- What a heap's list keeps. -/
structure Good (L : List (Hp.It A)) : Prop where
  nd : (L.map (·.id)).Nodup
  i64 : ∀ x ∈ L, I64 x.id
  len : L.length ≤ 4096
theorem Good.perm {l L : List (Hp.It A)} (h : Good L) (p : l.Perm L) : Good l :=
  ⟨(List.Perm.nodup_iff (p.map _)).2 h.nd, fun x hx => h.i64 x (p.mem_iff.1 hx), by rw [p.length_eq]; exact h.len⟩
/-- Where a heap has been brought to. -/
structure HSt (B : Nat) (w : World) (b mb : Nat) (most : Int) (L : List (Hp.It A)) (l : List (Hp.It A)) (wr : World) : Prop where
  at' : HAt B wr b mb most l
  perm : l.Perm L
  bel : Below B w wr
  kept : HKept b mb w wr
section
variable {B : Nat} {w w' : World} {b mb : Nat} {most : Int} {l L : List (Hp.It A)}
theorem HSt.far {w'' : World} (h : HSt B w b mb most L l w') (hb : Below w'.heap.size w' w'') : HSt B w b mb most L l w'' :=
  ⟨h.at'.far hb, h.perm, h.bel.trans (hb.mono (by have := h.at'.big; have := h.at'.lt; omega)), h.kept.trans (HKept.of_below hb h.at'.lt)⟩
theorem HSt.past (h : HSt B w b mb most L l w') (x : Past) : HSt B w b mb most L l (w'.past x) := h.far (w'.below_past x)
theorem swap_st (hG : Good L) (h : HSt B w b mb most L l w') (i k : Nat) (hi : i < l.length) (hk : k < l.length) :
    Calls Try.prog 46 #[.pointer (some ⟨b, 0, none⟩), .int .i64 i, .int .i64 k] w' (fun e w'' => e = .returned (.tuple #[]) ∧ HSt B w b mb most L (Hp.swp l i k hi hk) w'') := by
  have g := hG.perm h.perm
  refine (swap_any h.at' g.nd g.i64 (by have := h.at'.big; have := h.at'.lt; omega) (Nat.lt_of_le_of_lt g.len (by decide)) i k hi hk).mono ?_
  rintro _ w2 ⟨rfl, h2, hb, hk2⟩
  exact ⟨rfl, h2, (Hp.swp_perm _ _ _ _ _).trans h.perm, h.bel.trans hb, h.kept.trans hk2⟩
theorem par_wrap {k : Nat} (h0 : 0 < k) (hk : k < 4096) : IntKind.i64.wrap ((k : Int) - 1) = ((k - 1 : Nat) : Int) ∧ wrap64 (((k - 1 : Nat) : Int) / 2) = ((Hp.par k : Nat) : Int) := by
  unfold Hp.par
  refine ⟨by rw [IntKind.wrap_i64] <;> omega, ?_⟩
  unfold wrap64; omega
set_option maxRecDepth 100000 in
set_option maxHeartbeats 4000000 in
theorem up_any (hG : Good L) (hS : HSt B w b mb most L l w) (hB : B ≤ w.heap.size) (i : Nat) (hi : i < l.length) (hU : Hp.Up l i) :
    Calls Try.prog 35 #[.pointer (some ⟨b, 0, none⟩), .int .i64 i] w (fun e w' => e = .returned (.tuple #[]) ∧ ∃ l', Hp.Ord l' ∧ HSt B w b mb most L l' w') := by
  have HS := hid hS
  have HU := hid (And.intro hi hU)
  have HG := hid hG
  clear hS hi hU hG
  go_enter Try.func35, Try.ntmps35
  go_wp2
  go_loopw [1] (fun v wr => ∃ (k : Nat) (l' : List (Hp.It A)) (hk : k < l'.length), v = .int .i64 k ∧ Hid (HSt B w b mb most L l' wr ∧ Hp.Up l' k)) (fun v _ => natC v)
  case atStart => exact ⟨i, l, HU.out.1, rfl, hid ⟨HS.out, HU.out.2⟩⟩
  case round =>
    obtain ⟨k, l', hk, rfl, hR⟩ := hrel
    have hm := (HG.out.perm hR.out.1.perm).len
    by_cases h0 : 0 < k
    · obtain ⟨e1, e2⟩ := par_wrap h0 (by omega)
      have hp := Hp.par_lt h0
      have HL := hid (less_any hR.out.1.at' k (Hp.par k) hk (by omega))
      have h0' : (k : Int) > 0 := by omega
      clear hm
      go_wp2_with fail
      rw [e2]
      refine HL.out.mono ?_
      rintro _ _ ⟨rfl, x2, rfl⟩
      clear HL
      have hS2 := hR.out.1.past x2
      obtain ⟨w2, ew2⟩ : ∃ w2, w2 = wr.past x2 := ⟨_, rfl⟩
      rw [← ew2] at hS2 ⊢
      clear ew2 x2
      by_cases hlt : Hp.lt l'[k] (l'[Hp.par k]'(by omega))
      · have hlt' : decide (Hp.lt l'[k] (l'[Hp.par k]'(by omega))) = true := decide_eq_true hlt
        have HSW := hid (swap_st HG.out hS2 k (Hp.par k) hk (by omega))
        have HS2 := hid hS2
        have HLT := hid hlt
        rw [hlt']
        clear hS2 hlt hlt'
        go_wp2_with fail
        rw [e2]
        refine HSW.out.mono ?_
        rintro _ w3 ⟨rfl, h3⟩
        have H3 := hid h3
        clear h3 HSW
        go_wp2_with fail
        rw [e2]
        exact ⟨⟨Hp.par k, _, by rw [Hp.swp_length]; omega, rfl, hid ⟨H3.out, Hp.Up.step hR.out.2 hk h0 HLT.out⟩⟩, by simp [natC]; omega⟩
      · have hlt' : decide (Hp.lt l'[k] (l'[Hp.par k]'(by omega))) = false := decide_eq_false hlt
        have HS2 := hid hS2
        have HLT := hid hlt
        rw [hlt']
        clear hS2 hlt hlt'
        go_wp2_with fail
        go_end0
        exact ⟨rfl, l', Hp.Up.fin hR.out.2 (fun _ _ => HLT.out), HS2.out⟩
    · have hk0 : k = 0 := by omega
      subst hk0
      clear hm
      go_wp2_with fail
      go_end0
      exact ⟨rfl, l', Hp.Up.fin hR.out.2 (fun _ h => absurd h (by omega)), hR.out.1⟩
theorem kid_wrap {k : Nat} (hk : k ≤ 4096) : ∃ m m2 : Nat, m = 2 * k + 1 ∧ m2 = 2 * k + 2 ∧ IntKind.i64.wrap (2 * (k : Int)) = 2 * (k : Int) ∧ wrap64 (2 * (k : Int) + 1) = (m : Int) ∧ wrap64 ((m : Int) + 1) = (m2 : Int) :=
  ⟨2 * k + 1, 2 * k + 2, rfl, rfl, by rw [IntKind.wrap_i64] <;> omega, by unfold wrap64; omega, by unfold wrap64; omega⟩
/-- The child that may change places with k. -/
def Sib (l : List (Hp.It A)) (k q : Nat) : Prop := ∃ (hq : q < l.length), 0 < q ∧ Hp.par q = k ∧ ∀ p (hp : p < l.length), 0 < p → Hp.par p = k → ¬ Hp.lt l[p] l[q]
theorem sib_two {k m m2 : Nat} (e1 : m = 2 * k + 1) (e2 : m2 = 2 * k + 2) (h : m2 < l.length) : if Hp.lt l[m2] (l[m]'(by omega)) then Sib l k m2 else Sib l k m := by
  subst e1 e2
  split
  · rename_i hlt
    refine ⟨h, by omega, by unfold Hp.par; omega, fun p hp p0 hpk => ?_⟩
    rcases (Hp.par_child p0).1 hpk with rfl | rfl
    · exact Hp.lt_asymm hlt
    · exact Hp.lt_irrefl _
  · rename_i hlt
    refine ⟨by omega, by omega, by unfold Hp.par; omega, fun p hp p0 hpk => ?_⟩
    rcases (Hp.par_child p0).1 hpk with rfl | rfl
    · exact Hp.lt_irrefl _
    · exact hlt
theorem sib_one {k m : Nat} (e1 : m = 2 * k + 1) (h : m < l.length) (h2 : ¬ 2 * k + 2 < l.length) : Sib l k m := by
  subst e1
  refine ⟨h, by omega, by unfold Hp.par; omega, fun p hp p0 hpk => ?_⟩
  rcases (Hp.par_child p0).1 hpk with rfl | rfl
  · exact Hp.lt_irrefl _
  · omega
theorem swp_comm (i k : Nat) (hi : i < l.length) (hk : k < l.length) : Hp.swp l i k hi hk = Hp.swp l k i hk hi := by
  by_cases e : i = k
  · subst e; rfl
  · unfold Hp.swp; exact List.set_comm _ _ e
/-- Down stops. -/
theorem dn_stop {k i : Nat} {l0 : List (Hp.It A)} (h : Hp.Dn l k) (hk : k = i ∧ l = l0 ∨ Hp.Ok l k ∧ k < l.length) (hc : ∀ q (hq : q < l.length) (hi : k < l.length), 0 < q → Hp.par q = k → ¬ Hp.lt l[q] l[k]) : Hp.Up l i ∧ (l = l0 ∨ Hp.Ord l) := by
  rcases hk with ⟨rfl, e⟩ | ⟨ho, _⟩
  · exact ⟨Hp.Dn.fin h hc (.inl rfl), .inl e⟩
  · exact ⟨Hp.Dn.fin h hc (.inr ho), .inr (Hp.Up.fin (Hp.Dn.fin h hc (.inl rfl)) ho)⟩
set_option maxRecDepth 100000 in
set_option maxHeartbeats 4000000 in
theorem down_any (hG : Good L) (hS : HSt B w b mb most L l w) (hB : B ≤ w.heap.size) (i : Nat) (hD : Hp.Dn l i) (hi : i ≤ 4096) :
    Calls Try.prog 38 #[.pointer (some ⟨b, 0, none⟩), .int .i64 i] w (fun e w' => e = .returned (.tuple #[]) ∧ ∃ l', Hp.Up l' i ∧ (l' = l ∨ Hp.Ord l') ∧ HSt B w b mb most L l' w') := by
  have HS := hid hS
  have HU := hid (And.intro hi hD)
  have HG := hid hG
  clear hS hi hD hG
  go_enter Try.func38, Try.ntmps38
  go_wp2
  go_loopw [1, 4] (fun v _ wr => ∃ (k : Nat) (l' : List (Hp.It A)), v = .int .i64 k ∧ Hid (HSt B w b mb most L l' wr ∧ Hp.Dn l' k ∧ (k = i ∧ l' = l ∨ Hp.Ok l' k ∧ k < l'.length))) (fun v _ _ => 4096 - natC v)
  case atStart => exact ⟨i, l, rfl, hid ⟨HS.out, HU.out.2, .inl ⟨rfl, rfl⟩⟩⟩
  case round =>
    obtain ⟨k, l', rfl, hR⟩ := hrel
    have hl := (HG.out.perm hR.out.1.perm).len
    obtain ⟨a, c, q0, q1, q2, -⟩ := hR.out.1.at'.cells
    clear q0 q2
    obtain ⟨n, en⟩ : ∃ n, l'.length = n := ⟨_, rfl⟩
    have EN := hid en
    rw [en] at q1 hl
    clear en
    have hkn : k ≤ 4096 := by
      rcases hR.out.2.2 with h | h
      · rw [h.1]; exact HU.out.1
      · rw [EN.out] at h; omega
    obtain ⟨m, m2, em, em2, e1, e2, e3⟩ := kid_wrap hkn
    have HM := hid (And.intro em em2)
    have HLN := hid (And.intro hl hkn)
    by_cases h1 : m < n
    · have HL1 := hid (less_any hR.out.1.at')
      have H1 := hid h1
      by_cases h2 : m2 < n
      · have h1' : ¬ (m : Int) ≥ n := by omega
        have h2' : (m2 : Int) < n := by omega
        have H2 := hid h2
        have HX := hid (sib_two (l := l') HM.out.1 HM.out.2 (by rw [EN.out]; exact H2.out))
        clear h1 h2 hl hkn em em2
        go_wp2_with fail
        refine (HL1.out m2 m (by rw [EN.out]; exact H2.out) (by rw [EN.out]; exact H1.out)).mono ?_
        rintro _ _ ⟨rfl, x2, rfl⟩
        have q1' := (hR.out.1.past x2)
        obtain ⟨w2, ew2⟩ : ∃ w2, w2 = wr.past x2 := ⟨_, rfl⟩
        rw [← ew2] at q1' ⊢
        clear ew2 x2 HL1
        have HS2 := hid q1'
        clear q1'
        by_cases hlt : Hp.lt (l'[m2]'(by rw [EN.out]; exact H2.out)) (l'[m]'(by rw [EN.out]; exact H1.out))
        · have hsb := HX.out
          rw [if_pos hlt] at hsb
          have HSB := hid hsb
          rw [decide_eq_true hlt]
          clear hlt hsb HX
          go_wp2_with fail
          obtain ⟨hq, q0, hqk, hsib⟩ := HSB.out
          have hkl : k < l'.length := by have := Hp.par_lt q0; omega
          refine (less_any HS2.out.at' m2 k hq hkl).mono ?_
          rintro _ _ ⟨rfl, x3, rfl⟩
          have hS3 := HS2.out.past x3
          obtain ⟨w3, ew3⟩ : ∃ w3, w3 = (w2).past x3 := ⟨_, rfl⟩
          rw [← ew3] at hS3 ⊢
          clear ew3 x3
          have HS3 := hid hS3
          have HQ := hid (show ∃ (hq : m2 < l'.length), 0 < m2 ∧ Hp.par m2 = k from ⟨hq, q0, hqk⟩)
          by_cases hlt : Hp.lt l'[m2] l'[k]
          · have HLT := hid hlt
            have HSW := hid (swap_st HG.out hS3 k m2 hkl hq)
            rw [decide_eq_true hlt]
            clear hS3 hlt hsib q0 hqk
            go_wp2_with fail
            refine HSW.out.mono ?_
            rintro _ w4 ⟨rfl, h4⟩
            have H4 := hid h4
            clear h4 HSW
            go_wp2_with fail
            obtain ⟨hq', q0, hqk, hsib⟩ := HSB.out
            have h5 := H4.out
            rw [swp_comm k m2 hkl hq] at h5
            obtain ⟨d1, d2, d3⟩ := Hp.Dn.step hR.out.2.1 hkl hq q0 hqk HLT.out hsib
            refine ⟨⟨m2, _, rfl, hid ⟨h5, d1, .inr ⟨d2, by rw [Hp.swp_length]; exact hq⟩⟩⟩, ?_⟩
            have hh1 := HLN.out
            have hh2 := HM.out
            have hh3 := EN.out
            show 4096 - (m2 : Int).toNat < 4096 - (k : Int).toNat
            have := Hp.par_lt q0
            omega
          · have HLT := hid hlt
            rw [decide_eq_false hlt]
            clear hS3 hlt hsib q0 hqk
            go_wp2_with fail
            refine bodyPost_ret (results_none rfl _ _ _) rfl ?_
            obtain ⟨hq', q0, hqk, hsib⟩ := HSB.out
            obtain ⟨u1, u2⟩ := dn_stop (i := i) (l0 := l) hR.out.2.1 hR.out.2.2 (fun p hp _ p0 hpk => Hp.nlt_trans HLT.out (hsib p hp p0 hpk))
            exact ⟨rfl, l', u1, u2, HS3.out⟩
        · have hsb := HX.out
          rw [if_neg hlt] at hsb
          have HSB := hid hsb
          rw [decide_eq_false hlt]
          clear hlt hsb HX
          go_wp2_with fail
          obtain ⟨hq, q0, hqk, hsib⟩ := HSB.out
          have hkl : k < l'.length := by have := Hp.par_lt q0; omega
          refine (less_any HS2.out.at' m k hq hkl).mono ?_
          rintro _ _ ⟨rfl, x3, rfl⟩
          have hS3 := HS2.out.past x3
          obtain ⟨w3, ew3⟩ : ∃ w3, w3 = (w2).past x3 := ⟨_, rfl⟩
          rw [← ew3] at hS3 ⊢
          clear ew3 x3
          have HS3 := hid hS3
          have HQ := hid (show ∃ (hq : m < l'.length), 0 < m ∧ Hp.par m = k from ⟨hq, q0, hqk⟩)
          by_cases hlt : Hp.lt l'[m] l'[k]
          · have HLT := hid hlt
            have HSW := hid (swap_st HG.out hS3 k m hkl hq)
            rw [decide_eq_true hlt]
            clear hS3 hlt hsib q0 hqk
            go_wp2_with fail
            refine HSW.out.mono ?_
            rintro _ w4 ⟨rfl, h4⟩
            have H4 := hid h4
            clear h4 HSW
            go_wp2_with fail
            obtain ⟨hq', q0, hqk, hsib⟩ := HSB.out
            have h5 := H4.out
            rw [swp_comm k m hkl hq] at h5
            obtain ⟨d1, d2, d3⟩ := Hp.Dn.step hR.out.2.1 hkl hq q0 hqk HLT.out hsib
            refine ⟨⟨m, _, rfl, hid ⟨h5, d1, .inr ⟨d2, by rw [Hp.swp_length]; exact hq⟩⟩⟩, ?_⟩
            have hh1 := HLN.out
            have hh2 := HM.out
            have hh3 := EN.out
            show 4096 - (m : Int).toNat < 4096 - (k : Int).toNat
            have := Hp.par_lt q0
            omega
          · have HLT := hid hlt
            rw [decide_eq_false hlt]
            clear hS3 hlt hsib q0 hqk
            go_wp2_with fail
            refine bodyPost_ret (results_none rfl _ _ _) rfl ?_
            obtain ⟨hq', q0, hqk, hsib⟩ := HSB.out
            obtain ⟨u1, u2⟩ := dn_stop (i := i) (l0 := l) hR.out.2.1 hR.out.2.2 (fun p hp _ p0 hpk => Hp.nlt_trans HLT.out (hsib p hp p0 hpk))
            exact ⟨rfl, l', u1, u2, HS3.out⟩
      · have h1' : ¬ (m : Int) ≥ n := by omega
        have h2' : ¬ (m2 : Int) < n := by omega
        have H2 := hid h2
        have HSB := hid (sib_one (l := l') HM.out.1 (by rw [EN.out]; exact H1.out) (by rw [EN.out, ← HM.out.2]; exact H2.out))
        clear h1 h2 hl hkn em em2
        have HS2 := hid hR.out.1
        go_wp2_with fail
        obtain ⟨hq, q0, hqk, hsib⟩ := HSB.out
        have hkl : k < l'.length := by have := Hp.par_lt q0; omega
        refine (less_any HS2.out.at' m k hq hkl).mono ?_
        rintro _ _ ⟨rfl, x3, rfl⟩
        have hS3 := HS2.out.past x3
        obtain ⟨w3, ew3⟩ : ∃ w3, w3 = (wr).past x3 := ⟨_, rfl⟩
        rw [← ew3] at hS3 ⊢
        clear ew3 x3
        have HS3 := hid hS3
        have HQ := hid (show ∃ (hq : m < l'.length), 0 < m ∧ Hp.par m = k from ⟨hq, q0, hqk⟩)
        by_cases hlt : Hp.lt l'[m] l'[k]
        · have HLT := hid hlt
          have HSW := hid (swap_st HG.out hS3 k m hkl hq)
          rw [decide_eq_true hlt]
          clear hS3 hlt hsib q0 hqk
          go_wp2_with fail
          refine HSW.out.mono ?_
          rintro _ w4 ⟨rfl, h4⟩
          have H4 := hid h4
          clear h4 HSW
          go_wp2_with fail
          obtain ⟨hq', q0, hqk, hsib⟩ := HSB.out
          have h5 := H4.out
          rw [swp_comm k m hkl hq] at h5
          obtain ⟨d1, d2, d3⟩ := Hp.Dn.step hR.out.2.1 hkl hq q0 hqk HLT.out hsib
          refine ⟨⟨m, _, rfl, hid ⟨h5, d1, .inr ⟨d2, by rw [Hp.swp_length]; exact hq⟩⟩⟩, ?_⟩
          have hh1 := HLN.out
          have hh2 := HM.out
          have hh3 := EN.out
          show 4096 - (m : Int).toNat < 4096 - (k : Int).toNat
          have := Hp.par_lt q0
          omega
        · have HLT := hid hlt
          rw [decide_eq_false hlt]
          clear hS3 hlt hsib q0 hqk
          go_wp2_with fail
          refine bodyPost_ret (results_none rfl _ _ _) rfl ?_
          obtain ⟨hq', q0, hqk, hsib⟩ := HSB.out
          obtain ⟨u1, u2⟩ := dn_stop (i := i) (l0 := l) hR.out.2.1 hR.out.2.2 (fun p hp _ p0 hpk => Hp.nlt_trans HLT.out (hsib p hp p0 hpk))
          exact ⟨rfl, l', u1, u2, HS3.out⟩
    · have h1' : (m : Int) ≥ n := by omega
      have H1 := hid h1
      clear h1 hl hkn em em2
      go_wp2_with fail
      refine bodyPost_ret (results_none rfl _ _ _) rfl ?_
      obtain ⟨u1, u2⟩ := dn_stop (i := i) (l0 := l) hR.out.2.1 hR.out.2.2 (fun p hp _ p0 hpk => by
        have hh1 := H1.out
        have hh2 := HM.out
        have hh3 := EN.out
        rcases (Hp.par_child p0).1 hpk with rfl | rfl <;> omega)
      exact ⟨rfl, l', u1, u2, hR.out.1⟩
end

end Go.Proofs.Ytjhjkchcjpijaaa.HpI
