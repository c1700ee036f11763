/-
  Layer 43: answer times, and when one is done by levels: plain numbers, and how they hang together. No program in sight.
-/
import Derived.Test.YtjkmakaahghddaaFixq
namespace Go.Proofs.Ytjkmakaahghddaa
/-- One work. -/
structure Wk where
  c : Int
  p : Int
  d : Int
instance : Inhabited Wk := ⟨⟨1, 1, 1⟩⟩
def wk (l : List Wk) (k : Nat) : Wk := l[k]?.getD default
def WkOk (x : Wk) : Prop := (1 ≤ x.c ∧ x.c ≤ 100) ∧ (1 ≤ x.p ∧ x.p ≤ 1000) ∧ (1 ≤ x.d ∧ x.d ≤ 1000)
theorem wk_ok {l : List Wk} (h : ∀ x ∈ l, WkOk x) (k : Nat) : WkOk (wk l k) := by
  unfold wk
  cases e : l[k]? with
  | none => exact ⟨⟨by decide, by decide⟩, ⟨by decide, by decide⟩, ⟨by decide, by decide⟩⟩
  | some x => exact h x (List.mem_of_getElem? e)
/-- What comes from a level, up to r ticks. -/
def cameF (x : Wk) (r : Int) : Int := (r + x.p - 1) / x.p * x.c
def hiK (l : List Wk) (r : Int) : Nat → Int
  | 0 => 0
  | k + 1 => hiK l r k + cameF (wk l k) r
def needK (l : List Wk) (c r : Int) : Nat → Int
  | 0 => c
  | k + 1 => needK l c r k + cameF (wk l k) r
theorem needK_eq (l : List Wk) (c r : Int) : ∀ k, needK l c r k = c + hiK l r k := by
  intro k
  induction k with
  | zero => simp [needK, hiK]
  | succ k ih => rw [needK, hiK, ih]; omega
theorem came_mono {x : Wk} (h : WkOk x) {r s : Int} (hrs : r ≤ s) : cameF x r ≤ cameF x s := by
  unfold cameF
  have : (r + x.p - 1) / x.p ≤ (s + x.p - 1) / x.p := Int.ediv_le_ediv (by have := h.2.1.1; omega) (by omega)
  exact Int.mul_le_mul_of_nonneg_right this (by have := h.1.1; omega)
theorem came_pos {x : Wk} (h : WkOk x) {r : Int} (hr : 0 ≤ r) : 0 ≤ cameF x r ∧ (1 ≤ r → 1 ≤ cameF x r) ∧ cameF x r ≤ (r + 1) * 100 := by
  obtain ⟨⟨c0, c1⟩, ⟨p0, p1⟩, _⟩ := h
  unfold cameF
  have a := Int.ediv_nonneg (show 0 ≤ r + x.p - 1 by omega) (show 0 ≤ x.p by omega)
  refine ⟨Int.mul_nonneg a (by omega), fun h1 => ?_, ?_⟩
  · have : 1 ≤ (r + x.p - 1) / x.p := Int.le_ediv_of_mul_le (by omega) (by omega)
    have := Int.mul_le_mul this c0 (by omega) (by omega)
    omega
  · have h1 : (r + x.p - 1) / x.p ≤ r + 1 := by
      have : (r + x.p - 1) / x.p < r + 2 := Int.ediv_lt_of_lt_mul (by omega) (by
        have := Int.mul_le_mul_of_nonneg_left (show (1 : Int) ≤ x.p by omega) (show 0 ≤ r + 1 by omega)
        rw [show r + 2 = (r + 1) + 1 by omega, Int.add_mul]
        omega)
      omega
    exact Int.mul_le_mul h1 c1 (by omega) (by omega)
theorem hiK_mono {l : List Wk} (h : ∀ x ∈ l, WkOk x) {r s : Int} (hrs : r ≤ s) : ∀ k, hiK l r k ≤ hiK l s k := by
  intro k
  induction k with
  | zero => simp [hiK]
  | succ k ih => have := came_mono (wk_ok h k) hrs; simp only [hiK]; omega
theorem hiK_in {l : List Wk} (h : ∀ x ∈ l, WkOk x) {r : Int} (hr : 0 ≤ r) : ∀ k : Nat, 0 ≤ hiK l r k ∧ hiK l r k ≤ k * ((r + 1) * 100) := by
  intro k
  induction k with
  | zero => simp [hiK]
  | succ k ih =>
    have := came_pos (wk_ok h k) hr
    simp only [hiK]
    refine ⟨by omega, ?_⟩
    rw [show ((k + 1 : Nat) : Int) = (k : Int) + 1 by omega, Int.add_mul]
    omega
/-- The first r from r on, of so many, at which f is r itself. -/
def searchF (f : Int → Int) (r : Int) : Nat → Int
  | 0 => -1
  | n + 1 => if f r = r then r else searchF f (r + 1) n
theorem search_none (f : Int → Int) : ∀ (n : Nat) (r : Int), (∀ y, r ≤ y → y < r + n → f y ≠ y) → searchF f r n = -1 := by
  intro n
  induction n with
  | zero => intro r _; rfl
  | succ n ih =>
    intro r h
    rw [searchF, if_neg (h r (Int.le_refl _) (by omega))]
    exact ih (r + 1) (fun y h1 h2 => h y (by omega) (by omega))
theorem search_at (f : Int → Int) : ∀ (n : Nat) (r x : Int), r ≤ x → x < r + n → f x = x → (∀ y, r ≤ y → y < x → f y ≠ y) → searchF f r n = x := by
  intro n
  induction n with
  | zero => intro r x h1 h2; omega
  | succ n ih =>
    intro r x h1 h2 hx h
    rw [searchF]
    by_cases e : r = x
    · subst e; rw [if_pos hx]
    · rw [if_neg (h r (Int.le_refl _) (by omega))]
      exact ih (r + 1) x (by omega) (by omega) hx (fun y h3 h4 => h y (by omega) h4)
theorem search_spec (f : Int → Int) : ∀ (n : Nat) (r : Int), (∃ x, searchF f r n = x ∧ r ≤ x ∧ x < r + n ∧ f x = x ∧ ∀ y, r ≤ y → y < x → f y ≠ y) ∨ (searchF f r n = -1 ∧ ∀ y, r ≤ y → y < r + n → f y ≠ y) := by
  intro n
  induction n with
  | zero => intro r; exact .inr ⟨rfl, fun y h1 h2 => by omega⟩
  | succ n ih =>
    intro r
    rw [searchF]
    by_cases e : f r = r
    · rw [if_pos e]
      exact .inl ⟨r, rfl, Int.le_refl _, by omega, e, fun y h1 h2 => by omega⟩
    · rw [if_neg e]
      rcases ih (r + 1) with ⟨x, h1, h2, h3, h4, h5⟩ | ⟨h1, h2⟩
      · exact .inl ⟨x, h1, by omega, by omega, h4, fun y h6 h7 => by
          by_cases e2 : y = r
          · subst e2; exact e
          · exact h5 y (by omega) h7⟩
      · exact .inr ⟨h1, fun y h6 h7 => by
          by_cases e2 : y = r
          · subst e2; exact e
          · exact h2 y (by omega) (by omega)⟩
def needF (l : List Wk) (at' : Nat) (B r : Int) : Int := needK l ((wk l at').c + B) r at'
def timeF (l : List Wk) (at' : Nat) (B : Int) : Int := searchF (needF l at' B) ((wk l at').c + B) (10001 - ((wk l at').c + B)).toNat
theorem needF_eq (l : List Wk) (at' : Nat) (B r : Int) : needF l at' B r = (wk l at').c + B + hiK l r at' := needK_eq _ _ _ _
theorem needF_mono {l : List Wk} (h : ∀ x ∈ l, WkOk x) (at' : Nat) (B : Int) {r s : Int} (hrs : r ≤ s) : needF l at' B r ≤ needF l at' B s := by
  rw [needF_eq, needF_eq]; have := hiK_mono h hrs at'; omega
/-- Where f does not rise above x, it is met at x, or below. -/
theorem met_below (f : Int → Int) (hf : ∀ r s, r ≤ s → f r ≤ f s) (r0 : Int) (h0 : ∀ r, r0 ≤ r → r0 ≤ f r) : ∀ (n : Nat) (x : Int), x = r0 + n → f x ≤ x → ∃ y, r0 ≤ y ∧ y ≤ x ∧ f y = y := by
  intro n
  induction n with
  | zero => intro x hx h; exact ⟨x, by omega, Int.le_refl _, by have := h0 x (by omega); omega⟩
  | succ n ih =>
    intro x hx h
    by_cases e : f x = x
    · exact ⟨x, by omega, Int.le_refl _, e⟩
    · obtain ⟨y, h1, h2, h3⟩ := ih (x - 1) (by omega) (by have := hf (x - 1) x (by omega); omega)
      exact ⟨y, h1, by omega, h3⟩
/-- If one time is met, and g does not rise above f there, and is below it, g's is met ahead of it. -/
theorem time_less {f g : Int → Int} (hg : ∀ r s, r ≤ s → g r ≤ g s) (a b : Int) (hb : b ≤ 10001) (h0 : ∀ r, 0 ≤ r → b ≤ g r) (hb0 : 0 ≤ b) (hab : b ≤ a) (hfg : ∀ r, 1 ≤ r → g r < f r) (hf1 : 1 ≤ a) :
    0 ≤ searchF f a (10001 - a).toNat → 0 ≤ searchF g b (10001 - b).toNat ∧ searchF g b (10001 - b).toNat < searchF f a (10001 - a).toNat := by
  intro h
  rcases search_spec f (10001 - a).toNat a with ⟨x, h1, h2, h3, h4, h5⟩ | ⟨h1, _⟩
  · rw [h1]
    have hx := hfg x (by omega)
    rw [h4] at hx
    have hgx : g (x - 1) ≤ x - 1 := by have := hg (x - 1) x (by omega); omega
    by_cases hbx : b ≤ x - 1
    · obtain ⟨y, m1, m2, m3⟩ := met_below g hg b (fun r hr => h0 r (by omega)) (x - 1 - b).toNat (x - 1) (by omega) hgx
      rcases search_spec g (10001 - b).toNat b with ⟨z, k1, k2, k3, k4, k5⟩ | ⟨k1, k2⟩
      · rw [k1]
        have : z ≤ y := by
          rcases Int.lt_or_le y z with hlt | hle
          · exact (k5 y m1 hlt m3).elim
          · exact hle
        omega
      · exact (k2 y m1 (by omega) m3).elim
    · have := h0 x (by omega)
      omega
  · omega
end Go.Proofs.Ytjkmakaahghddaa
