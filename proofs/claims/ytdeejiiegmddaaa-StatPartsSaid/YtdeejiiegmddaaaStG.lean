/-
  Layer 25: slices.IndexFunc over a task's waits. No condition.
-/
import Derived.Test.YtdeejiiegmddaaaStF
namespace Go.Proofs.Ytdeejiiegmddaaa
open Go Go.RowKit
theorem Cells.keptF {w w' : World} {F : Nat → Prop} {A : Option Addr} {xs : List Value} (h : Cells w A xs) (hk : Kept F w w') (hF : ∀ g o, A = some ⟨g, o, none⟩ → ¬ F g) : Cells w' A xs := fun hne => by
  obtain ⟨b, off, e, hc⟩ := h hne
  exact ⟨b, off, e, fun i v hi => hk.cell (hc i v hi) (hF b off e)⟩
def waA (L : List (Int × Int)) (k : Nat) : Int × Int := L[k]?.getD default
theorem wa_get {L : List (Int × Int)} {k : Nat} (h : k < L.length) : L[k]? = some (waA L k) := by simp [waA, h]
theorem wa_at {w : World} {A : Option Addr} {L : List (Int × Int)} (h : Cells w A (tab waV L)) {k : Nat} (hk : k < L.length) : ∃ g o : Nat, A = some ⟨g, o, none⟩ ∧ w.cell? ⟨g, o + k * 2, none⟩ = some (.int .i64 (waA L k).1) ∧ w.cell? ⟨g, o + k * 2 + 1, none⟩ = some (.int .u64 (waA L k).2) := by
  obtain ⟨g, o, rfl, hc⟩ := h.tab_at waV_length (wa_get hk) (by omega)
  exact ⟨g, o, rfl, by simpa using hc 0 _ rfl, hc 1 _ rfl⟩
/-- Behind the first ones. -/
def goK (e : Ev) (t : Ty) (L : List (Int × Int)) : Nat → Ty
  | 0 => t
  | k + 1 => seeW e (goK e t L k) (waA L k)
theorem goK_in {e : Ev} {t : Ty} {L : List (Int × Int)} (h1 : U64 e.time) (h2 : ∀ k, U64 (waA L k).2) (h3 : U64 t.wt) : ∀ k, U64 (goK e t L k).wt
  | 0 => h3
  | k + 1 => seeW_in h1 (h2 k) (goK_in h1 h2 h3 k)
set_option maxRecDepth 100000 in
set_option maxHeartbeats 4000000 in
theorem Index_any (be br b : Nat) (e : Ev) (t : Ty) (v : Value) (L : List (Int × Int)) (h1 : U64 e.time) (h2 : ∀ k, U64 (waA L k).2) (h3 : U64 t.wt) (A : Option Addr) (n c : Nat) (en : L.length = n) (hn : n ≤ maxLen) (w : World) (h : OvAt w be br b e t v) (ha : Cells w A (tab waV L)) (hA : ∀ g o, A = some ⟨g, o, none⟩ → g ≠ b) :
    Calls Try.prog 37 #[.slice A n c, .func (.func 31) #[] #[.pointer (some ⟨be, 0, none⟩), .pointer (some ⟨br, 0, none⟩)]] w
      (fun en w' => ∃ r : Int, en = .returned (.int .i64 r) ∧ Kept (fun k => k = b) w w' ∧ ((∃ i : Nat, r = (i : Int) ∧ i < n ∧ delF e (waA L i) = true ∧ (∀ j, j < i → delF e (waA L j) = false) ∧ OvAt w' be br b e (goK e t L (i + 1)) v) ∨ (r = -1 ∧ (∀ j, j < n → delF e (waA L j) = false) ∧ OvAt w' be br b e (goK e t L n) v))) := by
  have HA := hid ha
  have EN := hid en
  have H1 := hid h1
  have H2 := hid h2
  have H3 := hid h3
  have HF := hid hA
  have H0 := hid (And.intro h (Kept.refl (fun k => k = b) w))
  clear ha en h1 h2 h3 hA h
  go_enter Try.func37, Try.ntmps37
  go_wp2_with fail
  go_loopw [5, 8] (fun _ v' wr => ∃ k : Nat, v' = .int .i64 (k : Int) ∧ k ≤ n ∧ Hid (∀ j, j < k → delF e (waA L j) = false) ∧ Hid (OvAt wr be br b e (goK e t L k) v ∧ Kept (fun k => k = b) w wr)) (fun _ v' _ => n - (intOf v').toNat)
  case atStart => exact ⟨0, rfl, Nat.zero_le _, hid (fun j hj => absurd hj (Nat.not_lt_zero j)), H0⟩
  case round =>
    clear H0
    obtain ⟨k, rfl, hk, HD, H⟩ := hrel
    by_cases hlt : k < n
    · obtain ⟨g, o, rfl, q0, q1⟩ := wa_at (Cells.keptF HA.out H.out.2 (fun g o e => HF.out g o e)) (k := k) (by rw [EN.out]; exact hlt)
      have HO := hid (fun W hW => Over1_any be br b e (goK e t L k) v (waA L k) H1.out (H2.out k) (goK_in H1.out H2.out H3.out k) W hW)
      have HT := hid (show goK e t L (k + 1) = seeW e (goK e t L k) (waA L k) from rfl)
      have e1 : IntKind.i64.wrap ((k : Int) + 1) = (k : Int) + 1 := by rw [IntKind.wrap_i64]; unfold maxLen at hn; omega
      obtain ⟨⟨xk, xf⟩, ex⟩ : ∃ z, waA L k = z := ⟨_, rfl⟩
      have EX := hid ex
      rw [ex] at q0 q1 HO HT
      simp only at q0 q1 HO
      clear ex
      obtain ⟨d, ed⟩ : ∃ d, delF e (xk, xf) = d := ⟨_, rfl⟩
      have ED := hid ed
      rw [ed] at HO
      clear ed
      cases d with
      | true =>
        go_wp2_with (go_at_call 31; refine (HO.out _ H.out.1).mono ?_; rintro _ w1 ⟨rfl, ho1, hk1⟩)
        go_ret
        exact ⟨_, rfl, H.out.2.trans hk1, .inl ⟨k, rfl, hlt, by rw [EX.out]; exact ED.out, HD.out, by rw [HT.out]; exact ho1⟩⟩
      | false =>
        go_wp2_with (go_at_call 31; refine (HO.out _ H.out.1).mono ?_; rintro _ w1 ⟨rfl, ho1, hk1⟩)
        go_roundw
        case rel =>
          refine ⟨k + 1, by go_num, by omega, hid (fun j hj => ?_), hid ⟨by rw [HT.out]; exact ho1, H.out.2.trans hk1⟩⟩
          by_cases hjk : j = k
          · subst hjk; rw [EX.out]; exact ED.out
          · exact HD.out j (by omega)
        case measure => simp [intOf]; omega
    · obtain rfl : k = n := by omega
      go_wp2_with fail
      go_ret
      exact ⟨_, rfl, H.out.2, .inr ⟨rfl, HD.out, H.out.1⟩⟩
end Go.Proofs.Ytdeejiiegmddaaa
