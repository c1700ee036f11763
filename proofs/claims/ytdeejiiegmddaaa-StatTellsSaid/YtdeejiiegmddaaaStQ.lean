/-
  Layer 25: the program's tally of a task is the document's: plain. No condition.
-/
import Derived.Test.YtdeejiiegmddaaaStO
namespace Go.Proofs.Ytdeejiiegmddaaa
open Go Go.RowKit
def satF (z : Int) : Int := if z < 18446744073709551616 then z else 18446744073709551615
theorem sat_in {z : Int} (h : 0 ≤ z) : U64 (satF z) := by
  unfold satF U64
  split <;> constructor <;> omega
theorem add_sat {p b : Int} (hp : 0 ≤ p) (hb : U64 b) : addF (satF p) b = satF (p + b) := by
  rw [(add_val (sat_in hp) hb).1]
  have h1 := hb.1
  unfold satF
  (repeat' split) <;> omega
def sumI : List Int → Int
  | [] => 0
  | x :: l => x + sumI l
theorem sumI_append : ∀ (a b : List Int), sumI (a ++ b) = sumI a + sumI b
  | [], b => by simp [sumI]
  | x :: a, b => by simp only [List.cons_append, sumI, sumI_append a b]; omega
theorem sumI_nonneg : ∀ {l : List Int}, (∀ x ∈ l, 0 ≤ x) → 0 ≤ sumI l
  | [], _ => by simp [sumI]
  | x :: l, h => by
    have h1 := h x (List.mem_cons_self ..)
    have h2 := sumI_nonneg (l := l) (fun y hy => h y (List.mem_cons_of_mem _ hy))
    simp only [sumI]; omega
/-- What an event adds. -/
def gsF (e : Ev) (w : Int × Int) : Int := if delF e w = true then subF e.time w.2 else 0
theorem gsF_nonneg {e : Ev} {w : Int × Int} (h1 : U64 e.time) (h2 : U64 w.2) : 0 ≤ gsF e w := by
  unfold gsF
  split
  · exact (sub_u64 h1 h2).1
  · omega
theorem goK_wt {e : Ev} {t : Ty} {L : List (Int × Int)} {P : Int} (hP : 0 ≤ P) (ht : t.wt = satF P) (h1 : U64 e.time) (h2 : ∀ k, U64 (waA L k).2) : ∀ k, k ≤ L.length → (goK e t L k).wt = satF (P + sumI ((L.take k).map (gsF e)))
  | 0, _ => by simp [goK, sumI, ht]
  | k + 1, hk => by
    have ih := goK_wt hP ht h1 h2 k (by omega)
    have hs : 0 ≤ P + sumI ((L.take k).map (gsF e)) := by
      have : 0 ≤ sumI ((L.take k).map (gsF e)) := sumI_nonneg (fun y hy => by
        obtain ⟨w, hw, rfl⟩ := List.mem_map.1 hy
        obtain ⟨i, hi, rfl⟩ := List.mem_iff_getElem.1 (List.mem_of_mem_take hw)
        have := h2 i
        simp only [waA, List.getElem?_eq_getElem hi, Option.getD_some] at this
        exact gsF_nonneg h1 this)
      omega
    have e1 : L.take (k + 1) = L.take k ++ [waA L k] := by rw [List.take_add_one, wa_get (by omega)]; rfl
    rw [e1, List.map_append, sumI_append, goK, seeW]
    by_cases hd : delF e (waA L k) = true
    · rw [if_pos hd]
      show addF (goK e t L k).wt _ = _
      rw [ih, add_sat hs (sub_u64 h1 (h2 k))]
      simp only [List.map_cons, List.map_nil, sumI, gsF, if_pos hd]
      congr 1; omega
    · rw [if_neg hd, ih]
      simp only [List.map_cons, List.map_nil, sumI, gsF, if_neg hd]
      congr 1; omega
theorem ends_del {e : Ev} {w : Int × Int} (h : e.kind = 4 ∨ e.kind = 8 ∨ e.kind = 11) : endsF e w.1 = delF e w := by
  unfold endsF delF
  by_cases h11 : e.kind = 11
  · rw [h11]; simp
  · rw [if_neg h11]
    by_cases hl : e.lock = w.1
    · rcases h with h | h | h <;> simp [h, hl]
    · rcases h with h | h | h <;> simp [h, hl]
      exact absurd h h11
theorem ends_no {e : Ev} {lock : Int} (h4 : e.kind ≠ 4) (h8 : e.kind ≠ 8) (h11 : e.kind ≠ 11) : endsF e lock = false := by
  unfold endsF; simp [h4, h8, h11]
/-- What the waits come to that go on. -/
def openS (x : Int) (L : List (Int × Int)) (r : List Ev) : Int := sumI (L.map fun w => wlF x w.1 w.2 r)
theorem open_other {x : Int} {L : List (Int × Int)} {e : Ev} {r : List Ev} (h : e.task ≠ x ∨ ∀ lock, endsF e lock = false) : openS x L (e :: r) = openS x L r := by
  unfold openS
  congr 1
  apply List.map_congr_left
  intro w _
  rw [wlF, if_neg]
  rintro ⟨h1, h2⟩
  rcases h with h | h
  · exact h h1
  · rw [h] at h2; cases h2
theorem open_ends {x : Int} {e : Ev} {r : List Ev} (hx : e.task = x) (h : e.kind = 4 ∨ e.kind = 8 ∨ e.kind = 11) : ∀ (L : List (Int × Int)), openS x L (e :: r) = sumI (L.map (gsF e)) + openS x (leftF e L) r
  | [] => by simp [openS, leftF, sumI]
  | w :: L => by
    have ih := open_ends (r := r) hx h L
    unfold openS at ih ⊢
    simp only [List.map_cons, sumI, wlF, ends_del h, hx, true_and] at ih ⊢
    by_cases hd : delF e w = true
    · have e1 : leftF e (w :: L) = leftF e L := by simp [leftF, hd]
      rw [if_pos hd, e1, gsF, if_pos hd, ih]; omega
    · have e1 : leftF e (w :: L) = w :: leftF e L := by simp [leftF, hd]
      rw [if_neg hd, e1, gsF, if_neg hd, ih]
      simp only [List.map_cons, sumI]; omega
/-- Both tallies, behind the first events. -/
structure Both (l : List Ev) (x : Int) (k : Nat) (t u : Ty) (L : List (Int × Int)) (P R : Int) : Prop where
  id : t.id = u.id
  d : t.d = u.d
  p : t.p = u.p
  a : t.a = u.a
  b : t.b = u.b
  e : t.e = u.e
  hP : 0 ≤ P
  hR : 0 ≤ R
  tw : t.wt = satF P
  uw : u.wt = satF R
  sum : R = P + openS x L (l.drop k)
theorem both_any {l : List Ev} (h : ∀ k, U64 (evA l k).time) (x : Int) : ∀ k, k ≤ l.length → ∃ P R, Both l x k (rowT l x k).1 (rtK l x k) (rowT l x k).2 P R
  | 0, _ => ⟨0, 0, rfl, rfl, rfl, rfl, rfl, rfl, Int.le_refl _, Int.le_refl _, rfl, rfl, rfl⟩
  | k + 1, hk => by
    obtain ⟨P, R, b⟩ := both_any h x k (by omega)
    obtain ⟨-, h2, -⟩ := rowT_in h x k
    have h2' := waA_mem h2
    have hd := drop_ev (l := l) (k := k) (by omega)
    have hs := b.sum
    rw [hd] at hs
    rw [rowT, rtK]
    by_cases hx : (evA l k).task = x
    · rw [if_pos hx, if_pos hx]
      obtain ⟨⟨t, L⟩, et⟩ : ∃ z, rowT l x k = z := ⟨_, rfl⟩
      obtain ⟨u, eu⟩ : ∃ z, rtK l x k = z := ⟨_, rfl⟩
      rw [et, eu] at b
      rw [et] at hs h2'
      rw [et, eu]
      simp only at b hs h2' ⊢
      have htm := h k
      have hw := waitedF_in h k
      have hwe : waitedF l k = wlF x (evA l k).lock (evA l k).time (l.drop (k + 1)) := by rw [← hx]; rfl
      clear et eu h hd
      obtain ⟨e, ee⟩ : ∃ e, evA l k = e := ⟨_, rfl⟩
      rw [ee] at hx htm hs hwe
      obtain ⟨b1, b2, b3, b4, b5, b6, hP, hR, b7, b8, _⟩ := b
      unfold rbumpF seeT seeL
      rw [ee]
      by_cases k2 : e.kind = 2
      · refine ⟨P, R, ?_⟩
        rw [open_other (.inr fun _ => ends_no (by omega) (by omega) (by omega))] at hs
        simp only [k2, if_true, Int.reduceEq, if_false, or_self, reduceIte]
        exact ⟨b1, by simp [b2], b3, b4, b5, b6, hP, hR, b7, b8, hs⟩
      by_cases k3 : e.kind = 3
      · refine ⟨P, R, ?_⟩
        rw [open_other (.inr fun _ => ends_no (by omega) (by omega) (by omega))] at hs
        simp only [k3, if_true, Int.reduceEq, if_false, or_self, reduceIte]
        exact ⟨b1, b2, by simp [b3], b4, b5, b6, hP, hR, b7, b8, hs⟩
      by_cases k4 : e.kind = 4
      · rw [open_ends hx (.inl k4)] at hs
        obtain ⟨g0, g1, g2, g3, g4, g5⟩ := goK_keeps (e := e) (t := ⟨t.id, t.d, t.p, t.a + 1, t.b, t.e, t.wt⟩) (L := L) L.length
        have gw := goK_wt (e := e) (t := ⟨t.id, t.d, t.p, t.a + 1, t.b, t.e, t.wt⟩) (L := L) hP b7 htm h2' L.length (Nat.le_refl _)
        rw [List.take_of_length_le (Nat.le_refl _)] at gw
        have hg : 0 ≤ sumI (L.map (gsF e)) := sumI_nonneg (fun y hy => by
          obtain ⟨w, hw', rfl⟩ := List.mem_map.1 hy
          obtain ⟨i, hi, rfl⟩ := List.mem_iff_getElem.1 hw'
          have := h2' i
          simp only [waA, List.getElem?_eq_getElem hi, Option.getD_some] at this
          exact gsF_nonneg htm this)
        refine ⟨P + sumI (L.map (gsF e)), R, ?_⟩
        simp only [k4, if_true, Int.reduceEq, if_false, or_self, true_or, reduceIte]
        exact ⟨g0.trans b1, g1.trans b2, g2.trans b3, g3.trans (by simp [b4]), g4.trans b5, g5.trans b6, by omega, hR, gw, b8, by omega⟩
      by_cases k6 : e.kind = 6
      · rw [open_other (.inr fun _ => ends_no (by omega) (by omega) (by omega))] at hs
        refine ⟨P, R + waitedF l k, ?_⟩
        simp only [k6, if_true, Int.reduceEq, if_false, or_self, reduceIte]
        refine ⟨b1, b2, b3, b4, by simp [b5], b6, hP, by have := hw.1; omega, b7, ?_, ?_⟩
        · show addF u.wt _ = _
          rw [b8, add_sat hR hw]
        · unfold openS
          rw [List.map_append, sumI_append, hs, hwe]
          simp only [openS, List.map_cons, List.map_nil, sumI]
          omega
      by_cases k8 : e.kind = 8
      · rw [open_ends hx (.inr (.inl k8))] at hs
        obtain ⟨g0, g1, g2, g3, g4, g5⟩ := goK_keeps (e := e) (t := ⟨t.id, t.d, t.p, t.a, t.b, t.e + 1, t.wt⟩) (L := L) L.length
        have gw := goK_wt (e := e) (t := ⟨t.id, t.d, t.p, t.a, t.b, t.e + 1, t.wt⟩) (L := L) hP b7 htm h2' L.length (Nat.le_refl _)
        rw [List.take_of_length_le (Nat.le_refl _)] at gw
        have hg : 0 ≤ sumI (L.map (gsF e)) := sumI_nonneg (fun y hy => by
          obtain ⟨w, hw', rfl⟩ := List.mem_map.1 hy
          obtain ⟨i, hi, rfl⟩ := List.mem_iff_getElem.1 hw'
          have := h2' i
          simp only [waA, List.getElem?_eq_getElem hi, Option.getD_some] at this
          exact gsF_nonneg htm this)
        refine ⟨P + sumI (L.map (gsF e)), R, ?_⟩
        simp only [k8, if_true, Int.reduceEq, if_false, or_self, true_or, or_true, reduceIte]
        exact ⟨g0.trans b1, g1.trans b2, g2.trans b3, g3.trans b4, g4.trans b5, g5.trans (by simp [b6]), by omega, hR, gw, b8, by omega⟩
      by_cases k11 : e.kind = 11
      · rw [open_ends hx (.inr (.inr k11))] at hs
        obtain ⟨g0, g1, g2, g3, g4, g5⟩ := goK_keeps (e := e) (t := t) (L := L) L.length
        have gw := goK_wt (e := e) (t := t) (L := L) hP b7 htm h2' L.length (Nat.le_refl _)
        rw [List.take_of_length_le (Nat.le_refl _)] at gw
        have hg : 0 ≤ sumI (L.map (gsF e)) := sumI_nonneg (fun y hy => by
          obtain ⟨w, hw', rfl⟩ := List.mem_map.1 hy
          obtain ⟨i, hi, rfl⟩ := List.mem_iff_getElem.1 hw'
          have := h2' i
          simp only [waA, List.getElem?_eq_getElem hi, Option.getD_some] at this
          exact gsF_nonneg htm this)
        refine ⟨P + sumI (L.map (gsF e)), R, ?_⟩
        simp only [k11, if_true, Int.reduceEq, if_false, or_self, true_or, or_true, reduceIte]
        exact ⟨g0.trans b1, g1.trans b2, g2.trans b3, g3.trans b4, g4.trans b5, g5.trans b6, by omega, hR, gw, b8, by omega⟩
      · rw [open_other (.inr fun _ => ends_no k4 k8 k11)] at hs
        refine ⟨P, R, ?_⟩
        simp only [k2, k3, k4, k6, k8, k11, if_false, or_self]
        exact ⟨b1, b2, b3, b4, b5, b6, hP, hR, b7, b8, hs⟩
    · rw [if_neg hx, if_neg hx]
      rw [open_other (.inl hx)] at hs
      exact ⟨P, R, b.id, b.d, b.p, b.a, b.b, b.e, b.hP, b.hR, b.tw, b.uw, hs⟩
theorem tally_same {l : List Ev} (h : ∀ k, U64 (evA l k).time) (x : Int) : (rowT l x l.length).1 = rtK l x l.length := by
  obtain ⟨P, R, b⟩ := both_any h x l.length (Nat.le_refl _)
  have hs := b.sum
  rw [List.drop_of_length_le (Nat.le_refl _)] at hs
  have h0 : openS x (rowT l x l.length).2 [] = 0 := by
    unfold openS
    generalize (rowT l x l.length).2 = L
    induction L with
    | nil => rfl
    | cons w L ih => rw [List.map_cons, sumI, ih]; rfl
  rw [h0] at hs
  obtain ⟨b1, b2, b3, b4, b5, b6, _, _, b7, b8, _⟩ := b
  have e : R = P := by omega
  rw [e, ← b7] at b8
  obtain ⟨⟨t1, t2, t3, t4, t5, t6, t7⟩, et⟩ : ∃ z, (rowT l x l.length).1 = z := ⟨_, rfl⟩
  obtain ⟨⟨u1, u2, u3, u4, u5, u6, u7⟩, eu⟩ : ∃ z, rtK l x l.length = z := ⟨_, rfl⟩
  rw [et, eu] at b1 b2 b3 b4 b5 b6 b8
  rw [et, eu]
  simp only at b1 b2 b3 b4 b5 b6 b8
  rw [b1, b2, b3, b4, b5, b6, b8]
end Go.Proofs.Ytdeejiiegmddaaa
